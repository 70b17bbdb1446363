/-
  The walk of a grid's Fill.
-/
import Derived.Test.YtcdecglbkcllaabGridFillB
namespace Go.Proofs.Ytcdecglbkcllaab
open Go.RowKit Go.Shelf

def FillK (W H n bp bo gp : Nat) (p : Int) (w : World) : Prop :=
  Blk w bp 22 #[.int .u8 p] ∧ Blk w bo 25 #[.int .i64 W, .int .i64 H, .slice (some ⟨gp, 0, none⟩) n n]
theorem fill_do (W H n bp bo gp : Nat) (p : Int) (px : List Int) (hW : W ≤ 128) (hH : H ≤ 128) (hn : n = W * H) (hl : px.length = n) (h1 : bp ≠ gp) (h2 : bo ≠ gp) :
    DoFn 39 #[.pointer (some ⟨bp, 0, none⟩), .pointer (some ⟨bo, 0, none⟩)] (FillK W H n bp bo gp p) W H gp (fun _ _ => some p) px :=
  fun M y a b yi ai bi w e1 e2 e3 hy hab hb hk hg => fill1_any W H gp bp bo n a b y yi ai bi p M px w e1 e2 e3 hW hH hn hl hy hab hb hk.1 hk.2 hg h1 h2
theorem fill_keep (W H n bp bo gp : Nat) (p : Int) (h1 : bp ≠ gp) (h2 : bo ≠ gp) (w1 w2 : World) (h : FillK W H n bp bo gp p w1) (hg : w1.grownBy w2 (some gp)) : FillK W H n bp bo gp p w2 :=
  ⟨h.1.grown hg (fun e => h1 (by injection e)), h.2.grown hg (fun e => h2 (by injection e))⟩

set_option maxRecDepth 100000 in
set_option maxHeartbeats 2000000 in
theorem fill_any (W H : Nat) (px : List Int) (p : Int) (A Ar : Option Addr) (n c nr cr : Nat) (rs : List RC) (w : World) (hn : n = W * H) (hW : W ≤ 128) (hH : H ≤ 128) (hr : Rd w A n (U8 px)) (hnr : nr ≤ 1000000000000) (hrr : RdR w Ar nr rs) (hc : ∀ r ∈ rs, r.cnt = true) :
    Calls Try.prog 27 #[.agg #[.int .i64 W, .int .i64 H, .slice A n c], .agg #[.slice Ar nr cr], .int .u8 p] w fun e w' => ∃ A', e = .returned (.agg #[.int .i64 W, .int .i64 H, .slice A' n n]) ∧ Rd w' A' n (U8 (lay W (fun _ _ => some p) (anyP rs) px)) ∧ Fr w.heap.size A' ∧ Below w.heap.size w w' := by
  have hnm := mul_le_128 hW hH
  rw [← hn] at hnm
  have hl : px.length = n := by have := hr.1; simpa [U8] using this
  have HN := Lib.hid hn
  have HR := Lib.hid hr
  have HRR := Lib.hid hrr
  have HC := Lib.hid hc
  have HL := Lib.hid hl
  clear hr hn hrr hc hl
  go_enter Try.func27, Try.ntmps27
  have b0 := bal (bal (bal (bal (bre w) (.cells #[.int .i64 W, .int .i64 H, .slice A n c] 25)) (.cells #[.slice Ar nr cr] 62)) (.cells #[.int .u8 p] 22)) (.cells #[.int .i64 0, .int .i64 0, .slice none 0 0] 25)
  have HB0 := Lib.hid b0
  clear b0
  go_upto_region 2 with (go_at_call 37; refine (twin_any _ _ _ _ _ px _ hnm (HR.out.below HB0.out)).mono ?_; rintro e w1 ⟨g, rfl, hown, hb1⟩; have HO := Lib.hid hown; have HB1 := Lib.hid hb1; have z1 := hb1.size; simp only [World.size_alloc] at z1; clear hown hb1)
  have q1 : Blk ((((w.alloc (.cells #[.int .i64 W, .int .i64 H, .slice A n c] 25)).alloc (.cells #[.slice Ar nr cr] 62)).alloc (.cells #[.int .u8 p] 22)).alloc (.cells #[.int .i64 0, .int .i64 0, .slice none 0 0] 25)) (w.heap.size + 1) 62 #[.slice Ar nr cr] := ((Blk.new2 w _ _ _).alloc _).alloc _
  have q2 : Blk ((((w.alloc (.cells #[.int .i64 W, .int .i64 H, .slice A n c] 25)).alloc (.cells #[.slice Ar nr cr] 62)).alloc (.cells #[.int .u8 p] 22)).alloc (.cells #[.int .i64 0, .int .i64 0, .slice none 0 0] 25)) (w.heap.size + 1 + 1) 22 #[.int .u8 p] := by
    have := (Blk.new2 (w.alloc (.cells #[.int .i64 W, .int .i64 H, .slice A n c] 25)) (.cells #[.slice Ar nr cr] 62) 22 #[.int .u8 p]).alloc (.cells #[.int .i64 0, .int .i64 0, .slice none 0 0] 25)
    rwa [World.size_alloc] at this
  have q3 : Blk ((((w.alloc (.cells #[.int .i64 W, .int .i64 H, .slice A n c] 25)).alloc (.cells #[.slice Ar nr cr] 62)).alloc (.cells #[.int .u8 p] 22)).alloc (.cells #[.int .i64 0, .int .i64 0, .slice none 0 0] 25)) (w.heap.size + 1 + 1 + 1) 25 #[.int .i64 0, .int .i64 0, .slice none 0 0] := by
    have := Blk.new2 ((w.alloc (.cells #[.int .i64 W, .int .i64 H, .slice A n c] 25)).alloc (.cells #[.slice Ar nr cr] 62)) (.cells #[.int .u8 p] 22) 25 #[.int .i64 0, .int .i64 0, .slice none 0 0]
    rwa [World.size_alloc, World.size_alloc] at this
  obtain ⟨hge, hpx⟩ := own_blk HO.out
  simp only [World.size_alloc] at hge
  have hgl := hpx.lt
  have bX := bal (bre w1) (.cells #[.int .i64 W, .int .i64 H, .slice (some ⟨g, 0, none⟩) n n] 25)
  have hbx := Blk.new w1 25 #[.int .i64 W, .int .i64 H, .slice (some ⟨g, 0, none⟩) n n]
  have k1 := (q1.belowS HB1.out).belowS bX
  have k2 := (q2.belowS HB1.out).belowS bX
  have k3 := (q3.belowS HB1.out).belowS bX
  have hpx2 := hpx.belowS bX
  have hBX : Below w.heap.size w (w1.alloc (.cells #[.int .i64 W, .int .i64 H, .slice (some ⟨g, 0, none⟩) n n] 25)) := bstep (bstep HB0.out HB1.out) bX
  obtain ⟨X, hX⟩ : ∃ X, w1.alloc (.cells #[.int .i64 W, .int .i64 H, .slice (some ⟨g, 0, none⟩) n n] 25) = X := ⟨_, rfl⟩
  obtain ⟨B, hB⟩ : ∃ B, w1.heap.size = B := ⟨_, rfl⟩
  rw [hX] at hbx hpx2 hBX k1 k2 k3 ⊢
  rw [hB] at hbx hgl z1 ⊢
  have HRX := Lib.hid (HRR.out.below hBX)
  have HPX := Lib.hid hpx2
  have HBX := Lib.hid hBX
  have HKX := Lib.hid hbx
  have HK1 := Lib.hid k1
  have HK2 := Lib.hid k2
  have HK3 := Lib.hid k3
  have c1 := k1.cellV (i := 0) (v := .slice Ar nr cr) rfl
  have c0 := hbx.cellV (i := 0) rfl
  have c01 := hbx.cellV (i := 1) rfl
  have c02 := hbx.cellV (i := 2) rfl
  clear hX hB HB1 HO q1 q2 q3 bX hbx k1 k2 k3 hpx hpx2 hBX
  go_upto_region 3 with (go_at_call 38; refine (spans_do 39 _ (.inl rfl) (FillK W H n (w.heap.size + 1 + 1) B g p) W H g n n nr cr _ _ (fun _ _ => some p) px rs _ (fill_do W H n _ _ g p px hW hH HN.out HL.out (by omega) (by omega)) (fill_keep W H n _ _ g p (by omega) (by omega)) hW hH (HL.out.trans HN.out) hnr HRX.out HC.out ⟨HK2.out, HKX.out⟩ HPX.out).mono ?_; rintro e w2 ⟨rfl, hg2, hgr2⟩; have HG2 := Lib.hid hg2; have HGR := Lib.hid hgr2; clear hg2 hgr2)
  have r3 := HK3.out.grown HGR.out (by intro e; injection e with e; omega)
  have rX := HKX.out.grown HGR.out (by intro e; injection e with e; omega)
  have hB2 : Below w.heap.size w w2 := HBX.out.grown HGR.out HBX.out.size (fun q e => by cases e; omega)
  have HB2 := Lib.hid hB2
  clear c1 c0 c01 c02 HK1 HK2 HK3 HKX
  have c0 := rX.cellV (i := 0) rfl
  have c1 := rX.cellV (i := 1) rfl
  have c2 := rX.cellV (i := 2) rfl
  have d0 := r3.cellV (i := 0) rfl
  have d1 := r3.cellV (i := 1) rfl
  have d2 := r3.cellV (i := 2) rfl
  have f0 := r3.frozen 0
  have f1 := r3.frozen 1
  have f2 := r3.frozen 2
  clear rX r3 hB2
  go_wp2_with fail
  refine bodyPost_ret (v := .agg #[.int .i64 W, .int .i64 H, .slice (some ⟨g, 0, none⟩) n n]) (by simp [results, Try.results27, go_sem, d0, d1, d2]) rfl ⟨some ⟨g, 0, none⟩, rfl, ?_, (fun a ea => by cases ea; dsimp only; omega), ?_⟩
  · have hr := Rd.of_own (blk_own HG2.out (base := 0) (n := n) (Nat.zero_le _) (by simp [U8, lay_len, HL.out]) (by simp only [maxLen]; omega))
    have hne : ∀ a : Addr, some (⟨g, 0, none⟩ : Addr) = some a → a.block ≠ w.heap.size + 1 + 1 + 1 := fun a e => by cases e; dsimp only; omega
    exact ((hr.far (p := ⟨w.heap.size + 1 + 1 + 1, 0, none⟩) hne _).far (p := ⟨w.heap.size + 1 + 1 + 1, 1, none⟩) hne _).far (p := ⟨w.heap.size + 1 + 1 + 1, 2, none⟩) hne _
  · exact bset (p := ⟨_, _, _⟩) (bset (p := ⟨_, _, _⟩) (bset (p := ⟨_, _, _⟩) HB2.out (by dsimp only; omega) _) (by dsimp only; omega) _) (by dsimp only; omega) _

end Go.Proofs.Ytcdecglbkcllaab
