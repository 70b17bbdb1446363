/-
  A builder of strings: a byte written.
  The walk of screen.Text.
  What a round of glazierlaw34.Make adds.
  The document's screen, plainly: the topmost window at a place, and the place in it.
  Screens, plainly: a window that isn't mapped plays no part; windows that are alike look alike.
  The windows of glazierlaw37, plainly: as the document's scenes; which of them show; where a focus goes.
  What glazierlaw37.made holds while it makes windows, and how each step keeps it.
  What Make holds in a round, through stores into the block of what is made; the append at its end.
-/
import Derived.Test.YtdaedkolpfkdjaaGreatZT25
import Derived.Test.YtdaedkolpfkdjaaGreatZT13
import Derived.Lib.Builder
import Derived.Laws.Externs
import Derived.Test.YtdaedkolpfkdjaaGreatShelfB
import Derived.Test.YtdaedkolpfkdjaaGreatZT01
import Derived.Test.YtdaedkolpfkdjaaGreatZT26
import Derived.Test.YtdaedkolpfkdjaaGreatZT28
import Derived.Test.YtdaedkolpfkdjaaGreatZT07
section
namespace Go.Proofs.YtdaedkolpfkdjaaGreat
open Go.RowKit Go.Shelf

set_option maxRecDepth 100000 in
theorem Tryz.infoBu : (Tryz.prog.info? 5).map (fun i => (i.zero, i.size, i.bytes)) = some (some (.int .u8 0), 1, 1) := by kernel_rfl
set_option maxRecDepth 100000 in
theorem Tryz.infoBd : (Tryz.prog.info? 204).map (·.size) = some 2 := by kernel_rfl
set_option maxRecDepth 100000 in
theorem Tryz.liesBd : liesAt Tryz.prog Tryz.prog.depth 204 (2 / Tryz.prog.cellsOf 204) 0 204 1 = true := by kernel_rfl
set_option maxRecDepth 100000 in
set_option maxHeartbeats 2000000 in
theorem bcheck_used (b : Nat) (w : World) (h0 : w.cell? ⟨b, 0, none⟩ = some (.pointer (some ⟨b, 0, none⟩))) :
    Calls Tryz.prog 158 #[.pointer (some ⟨b, 0, none⟩)] w fun e w' => e = .returned (.tuple #[]) ∧ w' = w := by
  obtain ⟨j, hj, _⟩ := Option.map_eq_some_iff.1 Tryz.infoBd
  go_enter Tryz.func158, Tryz.ntmps158
  go_wp2
  rw [Lib.run_neq_ptr_same w _ Tryz.underlying202 hj]
  go_wp2
  go_end0
  exact ⟨rfl, rfl⟩
set_option maxRecDepth 100000 in
set_option maxHeartbeats 2000000 in
theorem bcheck_fresh (b : Nat) (w : World) (h0 : w.cell? ⟨b, 0, none⟩ = some (.pointer none)) (hsh : w.shape? b = some (204, 2)) (hfz : w.frozen? ⟨b, 0, none⟩ = false) :
    Calls Tryz.prog 158 #[.pointer (some ⟨b, 0, none⟩)] w fun e w' => e = .returned (.tuple #[]) ∧ w' = w.setCell ⟨b, 0, none⟩ (.pointer (some ⟨b, 0, none⟩)) := by
  obtain ⟨j, hj, hjs⟩ := Option.map_eq_some_iff.1 Tryz.infoBd
  go_enter Tryz.func158, Tryz.ntmps158
  go_wp2
  rw [Lib.run_to_unsafe w ⟨b, 0, none⟩ Tryz.underlying202 Tryz.underlying295 hj (by rw [hjs]; decide) hsh (Nat.zero_lt_succ 1)]
  simp only [Result.andThen]
  rw [Oper.upon_value]
  go_wp2
  rw [run_callFunc_extern Tryz.func188 (by kernel_rfl) (by kernel_rfl) (by kernel_rfl) (e := Extern.AbiNoEscape.same) (by kernel_rfl)]
  rw [Lib.run_noEscape]
  simp only [Result.andThen]
  rw [Oper.upon_value]
  go_wp2
  rw [Lib.run_from_unsafe w ⟨b, 0, none⟩ Tryz.underlying295 Tryz.underlying202 hj hsh Tryz.liesBd]
  simp only [Result.andThen]
  rw [Oper.upon_value]
  go_wp2
  go_end0
  exact ⟨rfl, rfl⟩
theorem bcheck_any (B b : Nat) (bs : List Value) (w : World) (h : Lib.IsBuilder 204 5 B b bs w) :
    Calls Tryz.prog 158 #[.pointer (some ⟨b, 0, none⟩)] w fun e w' => e = .returned (.tuple #[]) ∧ (Lib.BuilderAt 204 5 B b (.pointer (some ⟨b, 0, none⟩)) bs w' ∧ Below B w w') := by
  rcases h with h | h
  · refine (bcheck_fresh b w h.cell0 h.shape h.frozen0).mono ?_
    rintro e w' ⟨rfl, rfl⟩
    exact ⟨rfl, h.used _, (Below.refl B w).setCell (p := ⟨b, 0, none⟩) h.1 _⟩
  · refine (bcheck_used b w h.cell0).mono ?_
    rintro e w' ⟨rfl, rfl⟩
    exact ⟨rfl, h, Below.refl B _⟩
set_option maxRecDepth 100000 in
set_option maxHeartbeats 2000000 in
theorem wbyte_any (B b : Nat) (bs : List Value) (c : Int) (w : World) (h : Lib.IsBuilder 204 5 B b bs w) (hlen : bs.length + 1 ≤ 140737488355328) (hBw : B ≤ w.heap.size) :
    Calls Tryz.prog 106 #[.pointer (some ⟨b, 0, none⟩), .int .u8 c] w fun e w' => e = .returned .nilIface ∧ (Lib.BuilderAt 204 5 B b (.pointer (some ⟨b, 0, none⟩)) (bs ++ [.int .u8 c]) w' ∧ Below B w w') := by
  obtain ⟨i0, hi, hz0, hz1, hz2⟩ := info_parts Tryz.infoBu
  go_enter Tryz.func106, Tryz.ntmps106
  go_wp2_with (go_at_call 158; refine (bcheck_any B b bs _ h).mono ?_)
  rintro e w1 ⟨rfl, h1, hb1⟩
  obtain ⟨hB, v, hbk, hown, hne⟩ := h1
  have c0 : w1.cell? ⟨b, 0, none⟩ = some (.pointer (some ⟨b, 0, none⟩)) := by rw [Lib.cell_of_heap hbk]; rfl
  have c1 : w1.cell? ⟨b, 1, none⟩ = some v := by rw [Lib.cell_of_heap hbk]; rfl
  go_wp2_with (at_builtin; refine wpList_append_own _ rfl _ _ 86 rfl B 5 i0 (.int .u8 0) 1 1 Tryz.underlying86 hi hz0 hz1 hz2 rfl (by decide) _ _ _ rfl (hown.alloc _) ⟨w1.heap.size, 0, none⟩ 1 1 [.int .u8 c] rfl rfl ?c1 ?c2 ?c3 ?c4 ?c5 ?_)
  case c1 =>
    intro j u hj
    match j, hj with
    | 0, hj => simp at hj; subst hj; simp [Addr.add]
  case c2 => intro u hu; simp at hu; subst hu; rfl
  case c3 => unfold maxLen; omega
  case c4 => omega
  case c5 => have := hb1.size; simp; omega
  intro v' w2 hown' hgrow _
  have hlt : b < w1.heap.size := by
    rcases Nat.lt_or_ge b w1.heap.size with h' | h'
    · exact h'
    · simp [Array.getElem?_eq_none h'] at hbk
  have hb2 : w2.heap[b]? = some (.cells #[.pointer (some ⟨b, 0, none⟩), v] 204 (0, 0)) := by
    rw [hgrow.block b (by simp; omega) (fun e => hne e.symm), Lib.alloc_old w1 _ b hlt]
    exact hbk
  have d0 : w2.cell? ⟨b, 0, none⟩ = some (.pointer (some ⟨b, 0, none⟩)) := by rw [Lib.cell_of_heap hb2]; rfl
  have d1 : w2.cell? ⟨b, 1, none⟩ = some v := by rw [Lib.cell_of_heap hb2]; rfl
  have f1 : w2.frozen? ⟨b, 1, none⟩ = false := Lib.frozen_of_heap hb2 1
  obtain ⟨g, cap, rfl⟩ : ∃ g cap, v' = .slice (some ⟨g, 0, none⟩) (bs.length + 1) cap := by
    rcases hown'.2 with ⟨_, h0⟩ | ⟨g, cap, cur, hv, _⟩
    · omega
    · exact ⟨g, cap, hv⟩
  go_wp2
  go_ret
  refine ⟨rfl, ?_, ?_⟩
  · exact Lib.BuilderAt.put (T := 204) (e := 5) hB hb2 (bs' := bs ++ [.int .u8 c]) (by simpa using hown') (by decide)
  · exact ((hb1.alloc (by have := hb1.size; omega) _).grown hgrow (by have := hb1.size; simp; omega) (fun k hk => (hown.lt k hk).1)).setCell (p := ⟨b, 1, none⟩) hB _
end Go.Proofs.YtdaedkolpfkdjaaGreat
end

section
namespace Go.Proofs.YtdaedkolpfkdjaaGreat
open Go.RowKit Go.Shelf

/-- a digit of base 16. -/
def hexC (n : Nat) : UInt8 := if n < 10 then UInt8.ofNat (48 + n) else UInt8.ofNat (87 + n)
def hexB (b : UInt8) : List UInt8 := [hexC (b.toNat / 16), hexC (b.toNat % 16)]
/-- the text of rows of bytes. -/
def rowT (l : List UInt8) : List UInt8 := l.flatMap hexB ++ [10]
def textB (W H : Nat) (px : List Int) : List UInt8 := (List.range H).flatMap fun y : Nat => rowT (Gr.rowB W H px (y : Int))
theorem Blk.belowB {X W : World} {B g : Nat} {t : TypeId} {cs : Array Value} (h : Blk X g t cs) (hb : Below B X W) (hg : g < B) : Blk W g t cs := (hb.block g hg).trans h
theorem bld_below {W W' : World} {T e B b : Nat} {bs : List Value} (h : Lib.IsBuilder T e B b bs W) (hb : Below W.heap.size W W') : Lib.IsBuilder T e B b bs W' := by
  have key : ∀ p, Lib.BuilderAt T e B b p bs W → Lib.BuilderAt T e B b p bs W' := fun p hp => by
    have hl := hp.lt
    obtain ⟨h1, v, h2, h3, h4⟩ := hp
    exact ⟨h1, v, (hb.block b hl).trans h2, ownsRow_below h3 hb, h4⟩
  rcases h with h | h
  · exact .inl (key _ h)
  · exact .inr (key _ h)
theorem bytes_snoc (l : List UInt8) (b : UInt8) : Lib.byteCells l ++ [.int .u8 b.toNat] = Lib.byteCells (l ++ [b]) := by simp [Lib.byteCells]
theorem dig_at (n : Nat) (h : n < 16) (h' : n < (⟨#[48, 49, 50, 51, 52, 53, 54, 55, 56, 57, 97, 98, 99, 100, 101, 102]⟩ : ByteArray).size) : (⟨#[48, 49, 50, 51, 52, 53, 54, 55, 56, 57, 97, 98, 99, 100, 101, 102]⟩ : ByteArray)[n]'h' = hexC n := by
  match n, h with
  | 0, _ => rfl
  | 1, _ => rfl
  | 2, _ => rfl
  | 3, _ => rfl
  | 4, _ => rfl
  | 5, _ => rfl
  | 6, _ => rfl
  | 7, _ => rfl
  | 8, _ => rfl
  | 9, _ => rfl
  | 10, _ => rfl
  | 11, _ => rfl
  | 12, _ => rfl
  | 13, _ => rfl
  | 14, _ => rfl
  | 15, _ => rfl
  | n + 16, h => omega
theorem str_at {row : List UInt8} {k : Nat} {q : UInt8} (hq : row[k]? = some q) (h : k < (⟨row.toArray⟩ : ByteArray).size) : (⟨row.toArray⟩ : ByteArray)[k]'h = q := by
  obtain ⟨h1, h2⟩ := List.getElem?_eq_some_iff.1 hq
  exact h2
theorem flatT_le {α β : Type} (f : α → List β) (B : Nat) : ∀ (l : List α), (∀ a ∈ l, (f a).length ≤ B) → (l.flatMap f).length ≤ l.length * B
  | [], _ => by simp
  | a :: l, h => by
    have h1 := flatT_le f B l (fun b hb => h b (List.mem_cons_of_mem _ hb))
    have h2 := h a (List.mem_cons_self ..)
    rw [List.flatMap_cons, List.length_append, List.length_cons, Nat.add_mul]
    omega
theorem rowB_le (W H : Nat) (px : List Int) (y : Int) : (Gr.rowB W H px y).length ≤ W := by
  unfold Gr.rowB
  split
  · simp [Gr.B8]
    omega
  · simp
theorem take_snocT {α : Type} {l : List α} {k : Nat} {a : α} (h : l[k]? = some a) : l.take (k + 1) = l.take k ++ [a] := by
  obtain ⟨hk, rfl⟩ := List.getElem?_eq_some_iff.1 h
  exact List.take_succ_eq_append_getElem hk
theorem text_le (W H : Nat) (px : List Int) (y : Nat) (hW : W ≤ 128) : ((List.range y).flatMap fun y : Nat => rowT (Gr.rowB W H px (y : Int))).length ≤ y * 257 := by
  have := flatT_le (fun y : Nat => rowT (Gr.rowB W H px (y : Int))) 257 (List.range y) (fun a _ => by
    have h1 := rowB_le W H px (a : Int)
    have h2 := flatT_le hexB 2 (Gr.rowB W H px (a : Int)) (fun b _ => by simp [hexB])
    unfold rowT
    rw [List.length_append]
    simp only [List.length_singleton]
    omega)
  simpa using this
set_option maxRecDepth 100000 in
set_option maxHeartbeats 4000000 in
theorem text_any (W H : Nat) (px : List Int) (A : Option Addr) (n c : Nat) (w : World) (hn : n = W * H) (hW : (1 ≤ W ∨ H = 0) ∧ W ≤ 128) (hH : H ≤ 128) (hc : n ≤ c) (hr : Rd w A n (Gr.U8 px)) (hp : Gr.Pix px) :
    Calls Tryz.prog 51 #[.agg #[.int .i64 W, .int .i64 H, .slice A n c]] w fun e w' => e = .returned (.string ⟨(textB W H px).toArray⟩) ∧ Below w.heap.size w w' := by
  have xb := bal (bre w) (.cells #[.int .i64 W, .int .i64 H, .slice A n c] 75)
  have xk := Blk.new w 75 #[.int .i64 W, .int .i64 H, .slice A n c]
  have HR := Lib.hid hr
  have HN := Lib.hid hn
  have HW := Lib.hid hW
  have hW128 := hW.2
  clear hr hn hW
  go_enter Tryz.func51, Tryz.ntmps51
  go_upto_region 1 with fail
  obtain ⟨X, hX⟩ : ∃ X, w.alloc (.cells #[.int .i64 W, .int .i64 H, .slice A n c] 75) = X := ⟨_, rfl⟩
  rw [hX] at xb xk ⊢
  have HB := Lib.hid xb
  have K1 := Lib.hid xk
  have k0 := xk.cellV (i := 0) (v := .int .i64 W) rfl
  have k1 := xk.cellV (i := 1) (v := .int .i64 H) rfl
  have k2 := xk.cellV (i := 2) (v := .slice A n c) rfl
  clear xb xk hX
  go_wp2_with fail
  refine (Gr.size_any W H A n c _).mono ?_
  rintro e w1 ⟨rfl, hb1⟩
  have yb := bal (bstep HB.out hb1) (.cells #[.pointer none, .slice none 0 0] 204)
  have yk := (K1.out.belowS hb1).alloc (.cells #[.pointer none, .slice none 0 0] 204)
  have yl := Nat.lt_of_lt_of_le K1.out.lt hb1.size
  have yi : Lib.IsBuilder 204 5 w1.heap.size w1.heap.size (Lib.byteCells []) (w1.alloc (.cells #[.pointer none, .slice none 0 0] 204)) := .inl ⟨Nat.le_refl _, .slice none 0 0, Blk.new w1 204 #[.pointer none, .slice none 0 0], World.ownsRow_nil _ _ _ _, by simp [Value.ownBlock]⟩
  clear hb1 k0 k1 k2
  go_upto_region 3 with fail
  obtain ⟨b, hb⟩ : ∃ b, w1.heap.size = b := ⟨_, rfl⟩
  obtain ⟨Y, hY⟩ : ∃ Y, w1.alloc (.cells #[.pointer none, .slice none 0 0] 204) = Y := ⟨_, rfl⟩
  rw [hY] at yb yk yi ⊢
  rw [hb] at yi yl ⊢
  have hbY : b ≤ Y.heap.size := by rw [← hY, ← hb]; simp
  replace HB := Lib.hid yb
  replace K1 := Lib.hid yk
  have HL := Lib.hid yl
  have HI := Lib.hid yi
  have HBY := Lib.hid hbY
  clear yb yk yl yi hb hY hbY
  go_wp2_with fail
  go_loopw [15, 6, 7, 8] (fun i _ _ _ wr => ∃ y : Nat, i = .int .i64 y ∧ y ≤ H ∧ Lib.IsBuilder 204 5 b b (Lib.byteCells ((List.range y).flatMap fun y : Nat => rowT (Gr.rowB W H px (y : Int)))) wr ∧ Blk wr w.heap.size 75 #[.int .i64 W, .int .i64 H, .slice A n c] ∧ b ≤ wr.heap.size ∧ Below w.heap.size w wr) (fun i _ _ _ _ => H - (intOf i).toNat)
  case atStart => exact ⟨0, rfl, by omega, HI.out, K1.out, HBY.out, HB.out⟩
  case round =>
    obtain ⟨y, rfl, hy, hi, hk, hbw, hbr⟩ := hrel
    replace HI := Lib.hid hi
    replace K1 := Lib.hid hk
    replace HBY := Lib.hid hbw
    replace HB := Lib.hid hbr
    clear hi hk hbw hbr
    by_cases hlt : y < H
    · have y0 : (0 : Int) ≤ (y : Int) := by omega
      have y1 : (y : Int) < (H : Int) := by omega
      have k0 := K1.out.cellV (i := 0) (v := .int .i64 W) rfl
      have k1 := K1.out.cellV (i := 1) (v := .int .i64 H) rfl
      have k2 := K1.out.cellV (i := 2) (v := .slice A n c) rfl
      go_wp2_with fail
      refine (Gr.row_any W H px y A n c _ HN.out ⟨by rcases HW.out.1 with h | h <;> omega, HW.out.2⟩ hH hc (HR.out.below HB.out) hp).mono ?_
      rintro e w2 ⟨rfl, hb2⟩
      obtain ⟨row, hrow⟩ : ∃ r, Gr.rowB W H px y = r := ⟨_, rfl⟩
      have HRW := Lib.hid hrow
      have HRL := Lib.hid (show row.length ≤ W from hrow ▸ rowB_le W H px (y : Int))
      have HLE := Lib.hid (text_le W H px y HW.out.2)
      rw [hrow]
      have hi2 : Lib.IsBuilder 204 5 b b (Lib.byteCells ((List.range y).flatMap fun y : Nat => rowT (Gr.rowB W H px (y : Int)))) w2 := bld_below HI.out hb2
      replace HI := Lib.hid hi2
      replace K1 := Lib.hid (K1.out.belowS hb2)
      replace HBY := Lib.hid (Nat.le_trans HBY.out hb2.size)
      replace HB := Lib.hid (bstep HB.out hb2)
      clear hi2 hb2 hrow k0 k1 k2
      go_wp2_with fail
      go_loopw [23, 8] (fun i _ wr => ∃ k : Nat, i = .int .i64 k ∧ k ≤ row.length ∧ Lib.IsBuilder 204 5 b b (Lib.byteCells (((List.range y).flatMap fun y : Nat => rowT (Gr.rowB W H px (y : Int))) ++ (row.take k).flatMap hexB)) wr ∧ Blk wr w.heap.size 75 #[.int .i64 W, .int .i64 H, .slice A n c] ∧ b ≤ wr.heap.size ∧ Below w.heap.size w wr) (fun i _ _ => row.length - (intOf i).toNat)
      case atStart => exact ⟨0, rfl, by omega, by simpa using HI.out, K1.out, HBY.out, HB.out⟩
      case round =>
        obtain ⟨k, rfl, hk, hi, hk1, hbw, hbr⟩ := hrel
        replace HI := Lib.hid hi
        replace K1 := Lib.hid hk1
        replace HBY := Lib.hid hbw
        replace HB := Lib.hid hbr
        clear hi hk1 hbw hbr
        by_cases hlt2 : k < row.length
        · have hrb : row.length ≤ 128 := Nat.le_trans HRL.out HW.out.2
          have k0 : (0 : Int) ≤ (k : Int) := by omega
          have k1 : (k : Int) < (row.length : Int) := by omega
          obtain ⟨q, hq⟩ : ∃ q, row[k]? = some q := ⟨_, List.getElem?_eq_getElem hlt2⟩
          have HQ := Lib.hid hq
          go_upto_region 10 with fail
          go_wp2_with fail
          rotate_left
          · rename_i hx
            exfalso
            apply hx
            have := UInt8.toNat_lt ((⟨row.toArray⟩ : ByteArray)[k]'(by show k < row.toArray.size; simpa using hlt2))
            omega
          refine (wbyte_any b b _ _ wr HI.out (by rw [Lib.byteCells_length]; have h1 := HLE.out; have h2 := flatT_le hexB 2 (row.take k) (fun _ _ => by simp [hexB]); have h3 := HRL.out; rw [List.length_append]; rw [List.length_take] at h2; omega) HBY.out).mono ?_
          rintro e w3 ⟨rfl, hi3, hb3⟩
          go_upto_region 11 with fail
          go_wp2_with fail
          refine (wbyte_any b b _ _ w3 (.inr hi3) (by rw [List.length_append, Lib.byteCells_length]; have h1 := HLE.out; have h2 := flatT_le hexB 2 (row.take k) (fun _ _ => by simp [hexB]); have h3 := HRL.out; rw [List.length_append]; rw [List.length_take] at h2; simp only [List.length_singleton]; omega) (Nat.le_trans HBY.out hb3.size)).mono ?_
          rintro e w4 ⟨rfl, hi4, hb4⟩
          have hqb := UInt8.toNat_lt q
          have hi5 : Lib.IsBuilder 204 5 b b (Lib.byteCells (((List.range y).flatMap fun y : Nat => rowT (Gr.rowB W H px (y : Int))) ++ (row.take (k + 1)).flatMap hexB)) w4 := by
            have h9 := hi4
            simp only [str_at HQ.out, dig_at (q.toNat / 16) (by omega), dig_at (q.toNat % 16) (by omega)] at h9
            rw [bytes_snoc, bytes_snoc] at h9
            rw [take_snocT HQ.out, List.flatMap_append]
            have e9 : (((List.range y).flatMap fun y : Nat => rowT (Gr.rowB W H px (y : Int))) ++ (row.take k).flatMap hexB ++ [hexC (q.toNat / 16)]) ++ [hexC (q.toNat % 16)] = ((List.range y).flatMap fun y : Nat => rowT (Gr.rowB W H px (y : Int))) ++ ((row.take k).flatMap hexB ++ [q].flatMap hexB) := by simp [hexB]
            rw [e9] at h9
            exact .inr h9
          have HI5 := Lib.hid hi5
          have hb5 := hb3.trans hb4
          have hwb : w.heap.size ≤ b := Nat.le_of_lt HL.out
          have K15 := Lib.hid (K1.out.belowB hb5 HL.out)
          have HB5 := Lib.hid (HB.out.trans (hb5.mono hwb))
          have HY5 := Lib.hid (Nat.le_trans HBY.out hb5.size)
          clear hi3 hb3 hi4 hb4 hi5 hb5
          go_wp2_with fail
          go_roundw
          case rel => exact ⟨k + 1, by go_num, by omega, HI5.out, K15.out, HY5.out, HB5.out⟩
          case measure => simp [intOf]; omega
        · obtain rfl : k = row.length := by omega
          have k1 : ¬ (row.length : Int) < (row.length : Int) := by omega
          have hi2 := HI.out
          rw [List.take_length] at hi2
          replace HI := Lib.hid hi2
          clear hi2
          go_wp2_with fail
          refine (wbyte_any b b _ _ wr HI.out (by rw [Lib.byteCells_length]; have h1 := HLE.out; have h2 := flatT_le hexB 2 row (fun _ _ => by simp [hexB]); have h3 := HRL.out; rw [List.length_append]; omega) HBY.out).mono ?_
          rintro e w3 ⟨rfl, hi3, hb3⟩
          have hi5 : Lib.IsBuilder 204 5 b b (Lib.byteCells ((List.range (y + 1)).flatMap fun y : Nat => rowT (Gr.rowB W H px (y : Int)))) w3 := by
            have h9 := hi3
            rw [show (Value.int .u8 10) = .int .u8 ((10 : UInt8).toNat : Int) from rfl, bytes_snoc] at h9
            rw [List.range_succ, List.flatMap_append]
            have e9 : ((List.range y).flatMap fun y : Nat => rowT (Gr.rowB W H px (y : Int))) ++ row.flatMap hexB ++ [10] = ((List.range y).flatMap fun y : Nat => rowT (Gr.rowB W H px (y : Int))) ++ ([y].flatMap fun y : Nat => rowT (Gr.rowB W H px (y : Int))) := by simp [rowT, HRW.out]
            rw [e9] at h9
            exact .inr h9
          have HI5 := Lib.hid hi5
          have hwb : w.heap.size ≤ b := Nat.le_of_lt HL.out
          have K15 := Lib.hid (K1.out.belowB hb3 HL.out)
          have HB5 := Lib.hid (HB.out.trans (hb3.mono hwb))
          have HY5 := Lib.hid (Nat.le_trans HBY.out hb3.size)
          clear hi3 hb3 hi5
          go_wp2_with fail
          go_roundw
          case rel => exact ⟨y + 1, by go_num, by omega, HI5.out, K15.out, HY5.out, HB5.out⟩
          case measure => simp [intOf]; omega
    · obtain rfl : y = H := by omega
      have y1 : ¬ (y : Int) < (y : Int) := by omega
      go_wp2_with fail
      refine (Tryz.Builder_String_any b b _ _ HI.out HBY.out).mono ?_
      rintro e w3 ⟨rfl, hb3⟩
      have hwb : w.heap.size ≤ b := Nat.le_of_lt HL.out
      go_wp2_with fail
      go_ret
      exact ⟨rfl, HB.out.trans (hb3.mono hwb)⟩
end Go.Proofs.YtdaedkolpfkdjaaGreat
end

section
namespace Go.Proofs.YtdaedkolpfkdjaaGreat
open Go.RowKit Go.Maps Go.Shelf

section
variable {W : World} {l : List R34} {d : R34} {mk mu mp mc : Option Nat} {RW RH : Int}
theorem dws_snoc (hl : 1 ≤ l.length) : dws (l ++ [d]) = dws l ++ [d.dw] := by
  unfold dws
  cases l with
  | nil => simp at hl
  | cons a t => simp
theorem dws_len : (dws l).length = l.length - 1 := by simp [dws]
theorem dws_lenI (hl : 1 ≤ l.length) : (((dws l).length : Nat) : Int) = (l.length : Int) - 1 := by rw [dws_len]; omega
/-- each lies in one ahead of it. -/
def UpR (l : List R34) : Prop := ∀ (j : Nat) (d : R34), l[j]? = some d → 1 ≤ j → 0 ≤ d.U ∧ d.U < (j : Int)
theorem UpR.upOk (h : UpR l) : UpOk (dws l) := fun i e he => by
  unfold dws at he
  rw [List.getElem?_map, List.getElem?_tail] at he
  cases hd : l[i + 1]? with
  | none => rw [hd] at he; cases he
  | some d =>
    rw [hd] at he
    have e0 : d.dw = e := by simpa using he
    subst e0
    have := h (i + 1) d hd (by omega)
    show -1 ≤ d.U - 1 ∧ d.U - 1 < (i : Int)
    omega
theorem get_snoc {α : Type} {l : List α} {d e : α} {j : Nat} (h : (l ++ [d])[j]? = some e) : (j < l.length ∧ l[j]? = some e) ∨ (j = l.length ∧ e = d) := by
  rw [List.getElem?_append] at h
  split at h
  · exact .inl ⟨by assumption, h⟩
  · cases hj : j - l.length with
    | zero => rw [hj] at h; simp at h; exact .inr ⟨by omega, h.symm⟩
    | succ m => rw [hj] at h; simp at h
theorem UpR.snoc (hu : UpR l) (hd : 0 ≤ d.U ∧ d.U < (l.length : Int)) : UpR (l ++ [d]) := fun j e he hj => by
  rcases get_snoc he with ⟨_, h⟩ | ⟨rfl, rfl⟩
  · exact hu j e h hj
  · exact hd
theorem set_34 {bs : Bxs} (hs : SceneIs W bs RW RH (dws l)) (hk : 1 ≤ l.length) (h7 : l.length ≤ 7) (hD : DWok d.dw) {b : BX} (hb : BoxOf W d.dw b) (hG : b.G = 0 ∧ b.B = 0) (hn : b.S = false → b.n = 0) :
    setC bs l.length (idW ((l.length : Int) - 1)) b = 0 ∧ setN bs l.length (idW ((l.length : Int) - 1)) b = l.length + 1 ∧ setB bs l.length (idW ((l.length : Int) - 1)) b = fun j => if j = idW ((dws l).length : Nat) then some b else bs j := by
  have h := setC_W hs (by rw [dws_len]; omega) hD hb hG hn
  have hf := hs.fresh
  have e : (dws l).length + 1 = l.length := by rw [dws_len]; omega
  rw [e] at h
  rw [← dws_lenI hk]
  refine ⟨h, ?_, ?_⟩
  · unfold setN
    rw [h, if_pos rfl, hf]
    rfl
  · unfold setB
    rw [h, if_pos rfl]
theorem mp_step {bs : Bxs} {b : BX} (hk : 1 ≤ l.length) (hp : PlaceIs W (.agg #[.map mp]) (l.length + 1) (fun j => if j = idW ((dws l).length : Nat) then some b else bs j)) (hs : SceneIs W bs RW RH (dws l)) (hb : BoxOf W d.dw b) : MP W (l ++ [d]) mp RW RH := by
  have h := hs.snoc hb
  rw [← dws_snoc hk] at h
  exact .inr ⟨by simp, _, by simpa using hp, h⟩
end
end Go.Proofs.YtdaedkolpfkdjaaGreat
end

section
namespace Go.Proofs.YtdaedkolpfkdjaaGreat
open Go.RowKit Go.Maps Go.Shelf

section
variable {l : List DW} {RW RH : Int}
/-- the place in the window that is the topmost one at a place of a window. -/
def locD (l : List DW) : Nat → Int → Int → Int → Int × Int
  | 0, _, x, y => (x, y)
  | f + 1, p, x, y => if lastHit (hitW p x y) l.zipIdx < 0 then (x, y) else
      locD l f (lastHit (hitW p x y) l.zipIdx) (x - ((l[(lastHit (hitW p x y) l.zipIdx).toNat]?).map DW.X).getD 0) (y - ((l[(lastHit (hitW p x y) l.zipIdx).toNat]?).map DW.Y).getD 0)
theorem locD_no {f : Nat} {p x y : Int} (h : lastHit (hitW p x y) l.zipIdx < 0) : locD l (f + 1) p x y = (x, y) := by unfold locD; rw [if_pos h]
theorem locD_yes {f : Nat} {p x y : Int} {i : Nat} {d : DW} (h : lastHit (hitW p x y) l.zipIdx = (i : Int)) (hd : l[i]? = some d) : locD l (f + 1) p x y = locD l f i (x - d.X) (y - d.Y) := by
  show (if lastHit (hitW p x y) l.zipIdx < 0 then (x, y) else _) = _
  rw [if_neg (by omega), h, show ((i : Int)).toNat = i from by omega, hd]
  rfl
theorem locD_org (hu : UpOk l) : ∀ (f : Nat) (p x y : Int) (o : Int × Int), -1 ≤ p → orgN (nodesW l) (bxW RW RH l) (idW p) = o → locD l f p x y = (x + o.1 - (orgN (nodesW l) (bxW RW RH l) (idW (atD l f p x y))).1, y + o.2 - (orgN (nodesW l) (bxW RW RH l) (idW (atD l f p x y))).2)
  | 0, p, x, y, o, _, ho => by
    show (x, y) = (x + o.1 - (orgN (nodesW l) (bxW RW RH l) (idW p)).1, y + o.2 - (orgN (nodesW l) (bxW RW RH l) (idW p)).2)
    rw [ho, Prod.mk.injEq]
    omega
  | f + 1, p, x, y, o, hp, ho => by
    by_cases hh : lastHit (hitW p x y) l.zipIdx < 0
    · rw [locD_no hh, atD_no hh, ho, Prod.mk.injEq]
      omega
    · obtain ⟨i, d, e, hd, hit⟩ := lastHit_is hh
      have hP := hitW_up hit
      have hou := orgW (RW := RW) (RH := RH) hu hd
      rw [hP, ho] at hou
      rw [locD_yes e hd, atD_yes e hd, locD_org hu f i (x - d.X) (y - d.Y) _ (by omega) hou, Prod.mk.injEq]
      dsimp only
      omega
/-- has a window a place? -/
def hasD (l : List DW) (RW RH : Int) (p x y : Int) : Prop := (p = -1 ∧ (0 ≤ x ∧ x < RW) ∧ 0 ≤ y ∧ y < RH) ∨ ∃ (i : Nat) (d : DW), p = i ∧ l[i]? = some d ∧ d.has x y = true
theorem hasD_at : ∀ (f : Nat) (p x y : Int), hasD l RW RH p x y → hasD l RW RH (atD l f p x y) (locD l f p x y).1 (locD l f p x y).2
  | 0, _, _, _, h => h
  | f + 1, p, x, y, h => by
    by_cases hh : lastHit (hitW p x y) l.zipIdx < 0
    · rw [locD_no hh, atD_no hh]; exact h
    · obtain ⟨i, d, e, hd, hit⟩ := lastHit_is hh
      rw [locD_yes e hd, atD_yes e hd]
      unfold hitW at hit
      simp only [Bool.and_eq_true] at hit
      exact hasD_at f i _ _ (.inr ⟨i, d, rfl, hd, hit.2.2⟩)
theorem has_box {d : DW} {x y : Int} (h : d.has x y = true) : (0 ≤ x ∧ x < d.W) ∧ 0 ≤ y ∧ y < d.H := by
  unfold DW.has at h
  rw [Bool.and_eq_true, inB_iff] at h
  obtain ⟨⟨q, hq, h1⟩, _⟩ := h
  rw [List.mem_singleton] at hq
  subst hq
  dsimp only at h1
  omega
theorem rectP_iff {W H : Int} (x y : Int) : rectP W H x y = true ↔ (0 ≤ x ∧ x < W) ∧ 0 ≤ y ∧ y < H := by
  unfold rectP
  rw [inB_iff]
  constructor
  · rintro ⟨q, hq, h1⟩
    rw [List.mem_singleton] at hq
    subst hq
    dsimp only at h1
    omega
  · intro h
    exact ⟨_, List.mem_singleton_self _, by dsimp only; omega⟩
end
/-- the steps that a search down may take. -/
def F34 (l : List R34) : Nat := (belowAt (nodesW (dws l)) 1).length
/-- the document's topmost window at a place, and the place in it. -/
def topI (l : List R34) (x y : Int) : Int := atD (dws l) (F34 l) (-1) x y + 1
def topL (l : List R34) (x y : Int) : Int × Int := locD (dws l) (F34 l) (-1) x y
/-- the document's pixel there. -/
def pixAt (l : List R34) (i : Nat) (q : Int × Int) : Int := match l[i]? with
  | some d => d.px.getD (q.2.toNat * d.W + q.1.toNat) 0
  | none => 0
def pixD (l : List R34) (RW RH : Nat) (x y : Int) : Int := if rectP RW RH x y then pixAt l (topI l x y).toNat (topL l x y) else 0
/-- the grids of a canvas are the windows'. -/
def ItsOf (l : List R34) (cs : Its) : Prop := ∀ (j : Nat) (d : R34), l[j]? = some d → ∃ it : IT, cs (idW ((j : Int) - 1)) = some it ∧ it.W = d.W ∧ it.H = d.H ∧ it.px = d.px
section
variable {l : List R34} {RW RH : Nat} {cs : Its}
theorem dws_at {i : Nat} : (dws l)[i]? = (l[i + 1]?).map R34.dw := by
  unfold dws
  rw [List.getElem?_map, List.getElem?_tail]
theorem topI_bd (hu : UpR l) (hl : 1 ≤ l.length) (x y : Int) : 0 ≤ topI l x y ∧ topI l x y < (l.length : Int) := by
  have := atD_bd hu.upOk (F34 l) (-1) x y (by omega) (by omega)
  rw [dws_lenI hl] at this
  unfold topI
  omega
/-- the topmost window's place lies in it. -/
theorem topL_in (_hu : UpR l) {r : R34} (hr : l[0]? = some r) (hW : r.W = RW ∧ r.H = RH) {x y : Int} (hxy : rectP RW RH x y = true) : ∃ d, l[(topI l x y).toNat]? = some d ∧ (0 ≤ (topL l x y).1 ∧ (topL l x y).1 < d.W) ∧ 0 ≤ (topL l x y).2 ∧ (topL l x y).2 < d.H := by
  have h := hasD_at (l := dws l) (RW := RW) (RH := RH) (F34 l) (-1) x y (.inl ⟨rfl, (rectP_iff x y).1 hxy⟩)
  rcases h with ⟨h1, h2⟩ | ⟨i, d, h1, h2, h3⟩
  · refine ⟨r, ?_, ?_⟩
    · unfold topI
      rw [h1]
      exact hr
    · rw [hW.1, hW.2]
      exact h2
  · rw [dws_at] at h2
    cases hd : l[i + 1]? with
    | none => rw [hd] at h2; cases h2
    | some e =>
      rw [hd] at h2
      have e0 : e.dw = d := by simpa using h2
      subst e0
      refine ⟨e, ?_, has_box h3⟩
      unfold topI
      rw [h1, show ((i : Int) + 1).toNat = i + 1 from by omega]
      exact hd
/-- the screen is the document's. -/
theorem scr_doc (hu : UpR l) {r : R34} (hr : l[0]? = some r) (hW : r.W = RW ∧ r.H = RH) (hc : ItsOf l cs) (x y : Int) : scrP RW RH (nodesW (dws l)) (bxW RW RH (dws l)) cs x y = pixD l RW RH x y := by
  unfold scrP pixD
  cases hxy : rectP RW RH x y with
  | false => rfl
  | true =>
    rw [if_pos rfl, if_pos rfl]
    have hl : 1 ≤ l.length := by
      have := (List.getElem?_eq_some_iff.1 hr).1
      omega
    have hok := nodesW_ok hu.upOk
    have e := atD_root (RW := RW) (RH := RH) hu.upOk x y
    have hb := topI_bd hu hl x y
    obtain ⟨d, hd, hq⟩ := topL_in hu hr hW hxy
    obtain ⟨it, h1, h2, h3, h4⟩ := hc _ d hd
    have ei : (((topI l x y).toNat : Int) - 1) = atD (dws l) (F34 l) (-1) x y := by
      unfold topI at hb ⊢
      omega
    rw [ei] at h1
    have e' : idW (atD (dws l) (F34 l) (-1) x y) = topN (nodesW (dws l)) (bxW RW RH (dws l)) x y := e
    rw [e'] at h1
    unfold scrI pixAt
    rw [h1, hd]
    dsimp only
    rw [h2, h3, h4]
    have ho : ogG (nodesW (dws l)) (bxW RW RH (dws l)) (topN (nodesW (dws l)) (bxW RW RH (dws l)) x y) = orgN (nodesW (dws l)) (bxW RW RH (dws l)) (topN (nodesW (dws l)) (bxW RW RH (dws l)) x y) := by
      unfold ogG
      have h5 := look_some (bx := bxW RW RH (dws l)) hok (rectP RW RH) (topN (nodesW (dws l)) (bxW RW RH (dws l)) x y)
      rw [top_look hok] at h5
      rw [← h5]
      rfl
    have hloc := locD_org (RW := RW) (RH := RH) hu.upOk (F34 l) (-1) x y (0, 0) (by omega) (orgN_root hok)
    rw [e'] at hloc
    rw [ho]
    have hq' : topL l x y = (x - (orgN (nodesW (dws l)) (bxW RW RH (dws l)) (topN (nodesW (dws l)) (bxW RW RH (dws l)) x y)).1, y - (orgN (nodesW (dws l)) (bxW RW RH (dws l)) (topN (nodesW (dws l)) (bxW RW RH (dws l)) x y)).2) := by
      unfold topL
      rw [hloc, Prod.mk.injEq]
      dsimp only
      omega
    rw [hq'] at hq ⊢
    dsimp only at hq ⊢
    unfold Gr.gat
    rw [if_pos ((Gr.has_iff _ _ _ _).2 (by omega))]
end
end Go.Proofs.YtdaedkolpfkdjaaGreat
end

section
namespace Go.Proofs.YtdaedkolpfkdjaaGreat
open Go.RowKit Go.Maps Go.Shelf

section
variable {l : List DW}
end
def DW.strip (d : DW) : DW := { d with A := none, n := 0, c := 0 }
def R34.strip (d : R34) : R34 := { d with A := none, n := 0, c := 0, Ap := none, np := 0, cp := 0 }
section
variable {l : List R34}
theorem UpR.strip (h : UpR l) : UpR (l.map R34.strip) := fun j d hd hj => by
  rw [List.getElem?_map] at hd
  cases he : l[j]? with
  | none => rw [he] at hd; cases hd
  | some e =>
    rw [he] at hd
    have e0 : e.strip = d := by simpa using hd
    subst e0
    exact h j e he hj
end
/-- grids whose pixels are the same. -/
theorem px_ext {W H : Nat} {p q : List Int} (hp : p.length = W * H) (hq : q.length = W * H) (h : ∀ x y : Nat, x < W → y < H → Gr.gat W H p x y = Gr.gat W H q x y) : p = q := by
  apply List.ext_getElem (by omega)
  intro i h1 h2
  have hW : 0 < W := by
    rcases Nat.eq_zero_or_pos W with h0 | h0
    · rw [h0, Nat.zero_mul] at hp; omega
    · exact h0
  have hx : i % W < W := Nat.mod_lt _ hW
  have hy : i / W < H := Nat.div_lt_of_lt_mul (show i < W * H by rw [← hp]; exact h1)
  have := h (i % W) (i / W) hx hy
  unfold Gr.gat at this
  have hb : Gr.hasB W H ((i % W : Nat) : Int) ((i / W : Nat) : Int) = true := (Gr.has_iff _ _ _ _).2 ⟨Int.natCast_nonneg _, Int.ofNat_lt.2 hx, Int.natCast_nonneg _, Int.ofNat_lt.2 hy⟩
  rw [if_pos hb, if_pos hb] at this
  simp only [Int.toNat_natCast] at this
  rw [show i / W * W + i % W = i from by have := Nat.div_add_mod i W; rw [Nat.mul_comm]; exact this, List.getD_eq_getElem?_getD, List.getD_eq_getElem?_getD, List.getElem?_eq_getElem h1, List.getElem?_eq_getElem h2] at this
  simpa using this
end Go.Proofs.YtdaedkolpfkdjaaGreat
end

section
namespace Go.Proofs.YtdaedkolpfkdjaaGreat

/-- a window that is made: its parent's number, whether it is mapped, whether it lies outside. -/
structure FW where
  U : Int
  M : Bool
  O : Bool
def FW.cells (f : FW) : List Value := [.int .u8 f.U, .bool f.M, .bool f.O]
theorem FW.cells_len (f : FW) : f.cells.length = 3 := rfl
def FW.ok (f : FW) : Prop := 0 ≤ f.U ∧ f.U ≤ 255
def FW.dw (f : FW) (i : Nat) : DW := ⟨f.U % ((i : Int) + 1) - 1, if f.O then 100 else 0, 0, 8, 8, f.M, false, none, 0, 0, []⟩
def dwsF (fs : List FW) : List DW := fs.zipIdx.map fun q => q.1.dw q.2
section
variable {l : List DW}
/-- is a window of a number, the root's is 0, viewable? -/
def isAt (l : List DW) (j : Nat) : Bool := vw (nodesW l) (bxS 8 8 l) (idW ((j : Int) - 1))
def isL (l : List DW) (k : Nat) : List Bool := (List.range (k + 1)).map (isAt l)
def shL (l : List DW) (k : Nat) : List Int := ((List.range (k + 1)).filter (isAt l)).map fun (j : Nat) => idW ((j : Int) - 1)
end
end Go.Proofs.YtdaedkolpfkdjaaGreat
end

section
namespace Go.Proofs.YtdaedkolpfkdjaaGreat
open Go.RowKit Go.Maps Go.Shelf

def BL (l : List Bool) : List Value := l.map Value.bool
theorem TreeOwn.below {w w' : World} {base : Nat} {ns : Nodes} {kb ub nk : Nat} {fk : Int → Option Value} (h : TreeOwn w base ns kb ub nk fk) (hb : Below w.heap.size w w') : TreeOwn w' base ns kb ub nk fk :=
  ⟨h.kids.below hb, h.up.below hb, fun i v hv => ownsRow_below (h.own i v hv) hb, h.nil, h.lok, h.lou, h.room, h.few, h.ok, h.keys⟩
theorem TreeOwn.setBlk {w : World} {base : Nat} {ns : Nodes} {kb ub nk : Nat} {fk : Int → Option Value} (h : TreeOwn w base ns kb ub nk fk) {B : Nat} {t : TypeId} {cs : Array Value} (hB : Blk w B t cs) (ht : t ≠ 48) (i : Nat) (u : Value) : TreeOwn (w.setCell ⟨B, i, none⟩ u) base ns kb ub nk fk :=
  ⟨h.kids.setCell (h.kids.neBlk hB) u, h.up.setCell (h.up.neBlk hB) u, fun j v hv => (h.own j v hv).kept (grown_setCell w ⟨B, i, none⟩ u) (.inr (own_other (h.own j v hv) hB ht)), h.nil, h.lok, h.lou, h.room, h.few, h.ok, h.keys⟩
theorem TreeOwn.row {w w' : World} {base : Nat} {ns : Nodes} {kb ub nk : Nat} {fk : Int → Option Value} {row : Option Nat} (h : TreeOwn w base ns kb ub nk fk) (hg : w.grownBy w' row) (hr : ∀ g, row = some g → g < base) : TreeOwn w' base ns kb ub nk fk :=
  ⟨h.kids.kept hg (fun e => by have h1 := hr kb e.symm; have h2 := h.lok; omega), h.up.kept hg (fun e => by have h1 := hr ub e.symm; have h2 := h.lou; omega), fun i v hv => (h.own i v hv).kept hg (by
    cases hb : v.ownBlock with
    | none => exact .inl rfl
    | some g => exact .inr (fun e => by have h1 := hr g e.symm; have h2 := own_ge (h.own i v hv) g hb; omega)), h.nil, h.lok, h.lou, h.room, h.few, h.ok, h.keys⟩
theorem PlaceIs.row {w w' : World} {pv : Value} {n : Nat} {bs : Bxs} {base size m : Nat} {e : TypeId} {v : Value} {xs : List Value} (h : PlaceIs w pv n bs) (ho : w.ownsRow base e size v m xs) (hg : w.grownBy w' v.ownBlock) : PlaceIs w' pv n bs := by
  obtain ⟨mb, e1, h1⟩ := h
  refine ⟨mb, e1, ?_⟩
  rcases h1 with h2 | ⟨b, rfl, h2⟩
  · exact .inl h2
  · exact .inr ⟨b, rfl, h2.kept hg (fun e => h2.not_row ho e.symm)⟩
/-- windows without shapes are so in any world. -/
theorem SceneIs.any {W W' : World} {bs : Bxs} {RW RH : Int} {l : List DW} (h : SceneIs W bs RW RH l) (hs : ∀ d ∈ l, d.sh = []) : SceneIs W' bs RW RH l :=
  ⟨h.root, fun i d hd => by
    obtain ⟨b, h1, h2, out, h3, h4⟩ := h.each i d hd
    have h5 := hs d (List.mem_of_getElem? hd)
    have h6 : out = [] := by
      obtain ⟨_, _, _, _, hc, _⟩ := h3
      exact no_places hc (fun x y hxy => by
        have h7 := (inB_iff out x y).2 hxy
        rw [h4, h5] at h7
        cases h7)
    subst h6
    obtain ⟨A, c, e, _⟩ := h3
    refine ⟨b, h1, h2, [], ?_, h4⟩
    rw [e]
    exact ⟨A, c, rfl, ⟨rfl, fun h => absurd h (by decide)⟩, canon_nilV, by simp, by simp⟩, h.only⟩
/-- a row of ids of the call's own. -/
def IdsOwn (w : World) (lo : Nat) (v : Value) (zs : List Int) : Prop := w.ownsRow lo 48 1 v zs.length (U32 zs)
theorem IdsOwn.below {w w' : World} {lo : Nat} {v : Value} {zs : List Int} (h : IdsOwn w lo v zs) (hb : Below w.heap.size w w') : IdsOwn w' lo v zs := ownsRow_below h hb
/-- what is held. -/
structure MK (w : World) (lo g6 g7 : Nat) (l : List DW) (k : Nat) (mk mu mp : Option Nat) (nk : Nat) (fk : Int → Option Value) (bs : Bxs) (v9 v10 : Value) : Prop where
  k6 : Blk w g6 37 #[.map mk, .map mu]
  k7 : Blk w g7 40 #[.map mp]
  tree : TreeIs w (.agg #[.map mk, .map mu]) (nodesW (l.take k)) mk mu nk fk
  place : PlaceIs w (.agg #[.map mp]) (k + 1) bs
  scene : SceneIs w bs 8 8 (l.take k)
  own9 : w.ownsRow lo 48 1 v9 (shL l k).length (U32 (shL l k))
  own10 : w.ownsRow lo 4 1 v10 (k + 1) (BL (isL l k))
theorem MK.below {w w' : World} {lo g6 g7 : Nat} {l : List DW} {k : Nat} {mk mu mp : Option Nat} {nk : Nat} {fk : Int → Option Value} {bs : Bxs} {v9 v10 : Value} (h : MK w lo g6 g7 l k mk mu mp nk fk bs v9 v10) (hb : Below w.heap.size w w') : MK w' lo g6 g7 l k mk mu mp nk fk bs v9 v10 :=
  ⟨h.k6.belowS hb, h.k7.belowS hb, h.tree.below hb, h.place.below hb, h.scene.below hb, ownsRow_below h.own9 hb, ownsRow_below h.own10 hb⟩
/-- what is held when a round's tree and place are laid down. -/
structure MN (w : World) (base g6 g7 : Nat) (l : List DW) (k : Nat) (kb ub : Nat) (mp : Option Nat) (nk : Nat) (fk : Int → Option Value) (bs : Bxs) : Prop where
  k6 : Blk w g6 37 #[.map (some kb), .map (some ub)]
  k7 : Blk w g7 40 #[.map mp]
  tree : TreeOwn w base (nodesW (l.take (k + 1))) kb ub nk fk
  place : PlaceIs w (.agg #[.map mp]) (k + 1 + 1) bs
  scene : SceneIs w bs 8 8 (l.take (k + 1))
section
variable {w w' : World} {base lo g6 g7 : Nat} {l : List DW} {k : Nat} {kb ub : Nat} {mp : Option Nat} {nk : Nat} {fk : Int → Option Value} {bs : Bxs}
theorem MN.below (h : MN w base g6 g7 l k kb ub mp nk fk bs) (hb : Below w.heap.size w w') : MN w' base g6 g7 l k kb ub mp nk fk bs :=
  ⟨h.k6.belowS hb, h.k7.belowS hb, h.tree.below hb, h.place.below hb, h.scene.below hb⟩
theorem MN.done (h : MN w base g6 g7 l k kb ub mp nk fk bs) {v9 v10 : Value} (h9 : w.ownsRow lo 48 1 v9 (shL l (k + 1)).length (U32 (shL l (k + 1)))) (h10 : w.ownsRow lo 4 1 v10 (k + 1 + 1) (BL (isL l (k + 1)))) : MK w lo g6 g7 l (k + 1) (some kb) (some ub) mp nk fk bs v9 v10 :=
  ⟨h.k6, h.k7, h.tree.tree, h.place, h.scene, h9, h10⟩
end
end Go.Proofs.YtdaedkolpfkdjaaGreat
end

section
namespace Go.Proofs.YtdaedkolpfkdjaaGreat
open Go.RowKit Go.Maps Go.Shelf

/-- what is kept by each store into a block without numbers is kept by all. -/
theorem sets_ind {P : World → Prop} {g : Nat} {t : TypeId} (hstep : ∀ (V : World) (cs : Array Value) (i : Nat) (u : Value), Blk V g t cs → NoI cs → P V → P (V.setCell ⟨g, i, none⟩ u)) : ∀ (vs : List Value) (o : Nat) (W : World) (cs : List Value), Blk W g t cs.toArray → NoI cs.toArray → (∀ v ∈ vs, ∀ k x, v ≠ .int k x) → P W → P (W.setCells g o vs)
  | [], _, _, _, _, _, _, h => h
  | v :: vs, o, W, cs, hB, hn, hv, h => by
    have h1 : Blk (W.setCell ⟨g, o, none⟩ v) g t (cs.set o v).toArray := by simpa using hB.set_ o v
    refine sets_ind hstep vs (o + 1) _ _ h1 (fun j k x => ?_) (fun u hu => hv u (List.mem_cons_of_mem _ hu)) (hstep W _ o v hB hn h)
    have h2 := hn j k x
    rw [List.getElem?_toArray] at h2 ⊢
    rw [List.getElem?_set]
    split
    · split
      · simpa using hv v (List.mem_cons_self ..) k x
      · simp
    · exact h2
/-- a row lies apart from what is appended to. -/
def Far (v : Value) (A : Option Addr) (n : Nat) : Prop := 0 < n → ∀ a, A = some a → v.ownBlock ≠ some a.block
theorem Far.zero (v : Value) (A : Option Addr) : Far v A 0 := fun h => absurd h (by simp)
/-- the tree, the place, the canvas, the pixels, apart from what is appended to. -/
def MTf (W : World) (v : Value) (l : List R34) (mk mu : Option Nat) : Prop := (nodesW (dws l) = [] ∧ mk = none ∧ mu = none) ∨ ∃ kb ub nk fk base, mk = some kb ∧ mu = some ub ∧ TreeOwn W base (nodesW (dws l)) kb ub nk fk ∧ ∀ g, v.ownBlock = some g → g < base
def MPf (W : World) (v : Value) (l : List R34) (mp : Option Nat) (RW RH : Int) : Prop := (l = [] ∧ mp = none) ∨ (l ≠ [] ∧ ∃ bs, PlaceIs W (.agg #[.map mp]) l.length bs ∧ SceneIs W bs RW RH (dws l) ∧ ∀ i b, bs i = some b → Far v b.A b.n)
def MCf (W : World) (v : Value) (l : List R34) (mc : Option Nat) : Prop := ∃ cs, CanvasIs W (.agg #[.map mc]) l.length cs ∧ (∀ (j : Nat) (d : R34), l[j]? = some d → ∃ it : IT, cs (idW ((j : Int) - 1)) = some it ∧ it.W = d.W ∧ it.H = d.H ∧ it.px = d.px) ∧ (∀ k it, cs k = some it → ∃ j : Nat, j < l.length ∧ k = idW ((j : Int) - 1)) ∧ ∀ k it, cs k = some it → Far v it.A it.n
def MXf (W : World) (v : Value) (l : List R34) : Prop := ∀ d ∈ l, Rd W d.Ap d.np (Gr.U8 d.px) ∧ Far v d.Ap d.np
section
variable {W W' : World} {v v' : Value} {l : List R34} {mk mu mp mc : Option Nat} {RW RH : Int} {d : R34}
theorem MTf.below (h : MTf W v l mk mu) (hb : Below W.heap.size W W') : MTf W' v l mk mu := by
  rcases h with h | ⟨kb, ub, nk, fk, base, h1, h2, h3, h4⟩
  · exact .inl h
  · exact .inr ⟨kb, ub, nk, fk, base, h1, h2, h3.below hb, h4⟩
theorem MPf.below (h : MPf W v l mp RW RH) (hb : Below W.heap.size W W') : MPf W' v l mp RW RH := by
  rcases h with h | ⟨h1, bs, h2, h3, h4⟩
  · exact .inl h
  · exact .inr ⟨h1, bs, h2.below hb, h3.below hb, h4⟩
theorem MCf.below (h : MCf W v l mc) (hb : Below W.heap.size W W') : MCf W' v l mc := by
  obtain ⟨cs, h1, h2⟩ := h
  exact ⟨cs, h1.below hb, h2⟩
theorem MXf.below (h : MXf W v l) (hb : Below W.heap.size W W') : MXf W' v l := fun d hd => ⟨(h d hd).1.below hb, (h d hd).2⟩
theorem MTf.set (h : MTf W v l mk mu) {g : Nat} {cs : Array Value} (hB : Blk W g 70 cs) (_hn : NoI cs) (i : Nat) (u : Value) : MTf (W.setCell ⟨g, i, none⟩ u) v l mk mu := by
  rcases h with h | ⟨kb, ub, nk, fk, base, h1, h2, h3, h4⟩
  · exact .inl h
  · exact .inr ⟨kb, ub, nk, fk, base, h1, h2, h3.setBlk hB (by decide) i u, h4⟩
theorem MPf.set (h : MPf W v l mp RW RH) {g : Nat} {t : TypeId} {cs : Array Value} (hB : Blk W g t cs) (hn : NoI cs) (i : Nat) (u : Value) : MPf (W.setCell ⟨g, i, none⟩ u) v l mp RW RH := by
  rcases h with h | ⟨h1, bs, h2, h3, h4⟩
  · exact .inl h
  · exact .inr ⟨h1, bs, h2.setBlk hB i u, h3.keepG (grown_setCell W ⟨g, i, none⟩ u) (noI_blk hB hn), h4⟩
theorem MCf.set (h : MCf W v l mc) {g : Nat} {t : TypeId} {cs : Array Value} (hB : Blk W g t cs) (hn : NoI cs) (i : Nat) (u : Value) : MCf (W.setCell ⟨g, i, none⟩ u) v l mc := by
  obtain ⟨cs, h1, h2⟩ := h
  exact ⟨cs, h1.setX hB hn i u, h2⟩
theorem MXf.set (h : MXf W v l) {g : Nat} {t : TypeId} {cs : Array Value} (hB : Blk W g t cs) (hn : NoI cs) (i : Nat) (u : Value) : MXf (W.setCell ⟨g, i, none⟩ u) v l := fun d hd => ⟨rd_noint (h d hd).1 hB hn i u, (h d hd).2⟩
end
/-- what is at hand in a round of Make, but the tree, the place and the canvas. -/
structure Rest34 (w V : World) (g9 g10 : Nat) (c9 c10 : Array Value) (l : List R34) (n : Nat) (px : List Int) (Ap Ag AL : Option Addr) (k cL : Nat) : Prop where
  k2 : Blk V w.heap.size 70 #[.map none, .map none, .map none, .map none, .slice none 0 0]
  k9 : Blk V g9 88 c9
  k10 : Blk V g10 75 c10
  mx : MXf V (.slice AL k cL) l
  own : V.ownsRow (w.heap.size + 1 + 1) 88 9 (.slice AL k cL) k (l.flatMap R34.cells)
  rp : Rd V Ap n (Gr.U8 px)
  rg : Rd V Ag n (Gr.U8 px)
  fp : Far (.slice AL k cL) Ap n
  fg : Far (.slice AL k cL) Ag n
  bel : Below w.heap.size w V
/-- with the tree, the place and the canvas. -/
structure St34 (w V : World) (g9 g10 : Nat) (c9 c10 : Array Value) (l : List R34) (n : Nat) (px : List Int) (Ap Ag AL : Option Addr) (k cL : Nat) (RW RH : Int) (lt lp lc : List R34) (mk mu mp mc : Option Nat) : Prop where
  r : Rest34 w V g9 g10 c9 c10 l n px Ap Ag AL k cL
  t : MTf V (.slice AL k cL) lt mk mu
  p : MPf V (.slice AL k cL) lp mp RW RH
  c : MCf V (.slice AL k cL) lc mc
section
variable {w V V' : World} {g9 g10 : Nat} {c9 c10 : Array Value} {l : List R34} {n : Nat} {px : List Int} {Ap Ag AL : Option Addr} {k cL : Nat} {RW RH : Int} {lt lp lc : List R34} {mk mu mp mc : Option Nat}
theorem Rest34.below (h : Rest34 w V g9 g10 c9 c10 l n px Ap Ag AL k cL) (hb : Below V.heap.size V V') : Rest34 w V' g9 g10 c9 c10 l n px Ap Ag AL k cL :=
  ⟨h.k2.belowS hb, h.k9.belowS hb, h.k10.belowS hb, h.mx.below hb, ownsRow_below h.own hb, h.rp.below hb, h.rg.below hb, h.fp, h.fg, bstep h.bel hb⟩
theorem St34.below (h : St34 w V g9 g10 c9 c10 l n px Ap Ag AL k cL RW RH lt lp lc mk mu mp mc) (hb : Below V.heap.size V V') : St34 w V' g9 g10 c9 c10 l n px Ap Ag AL k cL RW RH lt lp lc mk mu mp mc :=
  ⟨h.r.below hb, h.t.below hb, h.p.below hb, h.c.below hb⟩
theorem Rest34.set (h : Rest34 w V g9 g10 c9 c10 l n px Ap Ag AL k cL) (h9 : w.heap.size + 1 < g9) (h10 : w.heap.size + 1 < g10) {cs : Array Value} (hB : Blk V (w.heap.size + 1) 70 cs) (hn : NoI cs) (i : Nat) (u : Value) : Rest34 w (V.setCell ⟨w.heap.size + 1, i, none⟩ u) g9 g10 c9 c10 l n px Ap Ag AL k cL :=
  ⟨h.k2.far (p := ⟨w.heap.size + 1, i, none⟩) (by show _ ≠ _; simp) u, h.k9.far (p := ⟨w.heap.size + 1, i, none⟩) (by show _ ≠ _; simp only; omega) u, h.k10.far (p := ⟨w.heap.size + 1, i, none⟩) (by show _ ≠ _; simp only; omega) u, h.mx.set hB hn i u, h.own.kept (grown_setCell V ⟨w.heap.size + 1, i, none⟩ u) (.inr (own_other h.own hB (by decide))), rd_noint h.rp hB hn i u, rd_noint h.rg hB hn i u, h.fp, h.fg, bset (p := ⟨w.heap.size + 1, i, none⟩) h.bel (by show w.heap.size ≤ w.heap.size + 1; omega) u⟩
theorem St34.set (h : St34 w V g9 g10 c9 c10 l n px Ap Ag AL k cL RW RH lt lp lc mk mu mp mc) (h9 : w.heap.size + 1 < g9) (h10 : w.heap.size + 1 < g10) {cs : Array Value} (hB : Blk V (w.heap.size + 1) 70 cs) (hn : NoI cs) (i : Nat) (u : Value) : St34 w (V.setCell ⟨w.heap.size + 1, i, none⟩ u) g9 g10 c9 c10 l n px Ap Ag AL k cL RW RH lt lp lc mk mu mp mc :=
  ⟨h.r.set h9 h10 hB hn i u, h.t.set hB hn i u, h.p.set hB hn i u, h.c.set hB hn i u⟩
/-- a store into the block of what is made. -/
theorem St34.put (h : St34 w V g9 g10 c9 c10 l n px Ap Ag AL k cL RW RH lt lp lc mk mu mp mc) (h9 : w.heap.size + 1 < g9) (h10 : w.heap.size + 1 < g10) {cs : List Value} (hB : Blk V (w.heap.size + 1) 70 cs.toArray) (hn : NoI cs.toArray) (vs : List Value) (o : Nat) (hv : ∀ v ∈ vs, ∀ k x, v ≠ .int k x) (hl : o + vs.length ≤ cs.length) :
    St34 w (V.setCells (w.heap.size + 1) o vs) g9 g10 c9 c10 l n px Ap Ag AL k cL RW RH lt lp lc mk mu mp mc ∧ Blk (V.setCells (w.heap.size + 1) o vs) (w.heap.size + 1) 70 (cs.take o ++ vs ++ cs.drop (o + vs.length)).toArray :=
  ⟨sets_ind (P := fun V => St34 w V g9 g10 c9 c10 l n px Ap Ag AL k cL RW RH lt lp lc mk mu mp mc) (fun _ _ i u hB hn h => h.set h9 h10 hB hn i u) vs o V cs hB hn hv h, blk_all vs o V cs hB hl⟩
theorem St34.mono (h : St34 w V g9 g10 c9 c10 l n px Ap Ag AL k cL RW RH lt lp lc mk mu mp mc) {lc' : List R34} {mc' : Option Nat} (hc : MCf V (.slice AL k cL) lc' mc') : St34 w V g9 g10 c9 c10 l n px Ap Ag AL k cL RW RH lt lp lc' mk mu mp mc' := ⟨h.r, h.t, h.p, hc⟩
end
end Go.Proofs.YtdaedkolpfkdjaaGreat
end
