/-
  What the laws of chapter 34 do with what Make makes: its view, its screen, the document's answers.
  A builder of strings: a byte written.
  The walk of screen.Text.
-/
import Derived.Test.YtdaedkolpfkdjaaGreatZV33
import Derived.Test.YtdaedkolpfkdjaaGreatZV25
import Derived.Test.YtdaedkolpfkdjaaGreatZV13
import Derived.Lib.Builder
import Derived.Laws.Externs
import Derived.Test.YtdaedkolpfkdjaaGreatShelfB
import Derived.Test.YtdaedkolpfkdjaaGreatZV01
import Derived.Test.YtdaedkolpfkdjaaGreatZV24
section
namespace Go.Proofs.YtdaedkolpfkdjaaGreat
open Go.RowKit Go.Maps Go.Shelf

section
variable {w : World} {v : Value} {ps : List PN34} {l : List R34} {mk mu mp mc : Option Nat} {AL : Option Addr} {cL RW RH : Nat}
theorem Made34.up (h : Made34 w v ps l mk mu mp mc AL cL RW RH) : UpR l := upR_of (by rw [h.len]; exact Nat.le_refl _) h.like
theorem Made34.at_ (h : Made34 w v ps l mk mu mp mc AL cL RW RH) {d : R34} (hd : d ∈ l) : ∃ (j : Nat) (p : PN34), ps[j]? = some p ∧ l[j]? = some d ∧ Like34 j p d := by
  obtain ⟨j, hj⟩ := List.mem_iff_getElem?.1 hd
  have hlt := (List.getElem?_eq_some_iff.1 hj).1
  obtain ⟨p, hp⟩ : ∃ p, ps[j]? = some p := ⟨_, List.getElem?_eq_getElem (by rw [← h.len]; exact hlt)⟩
  exact ⟨j, p, hp, hj, h.like j p d hp hj⟩
theorem Made34.rootIs (h : Made34 w v ps l mk mu mp mc AL cL RW RH) : ∃ r, l[0]? = some r ∧ r.W = RW ∧ r.H = RH ∧ r.S = false ∧ (1 ≤ RW ∧ RW ≤ 16) ∧ 1 ≤ RH ∧ RH ≤ 16 := by
  obtain ⟨r, h1, h2, h3⟩ := h.root
  obtain ⟨p, hp⟩ : ∃ p, ps[0]? = some p := ⟨_, List.getElem?_eq_getElem (by have := h.len; have := h.few; omega)⟩
  have hk := h.like 0 p r hp h1
  have hb := hk.bounds
  refine ⟨r, h1, h2, h3, by rw [hk.S]; rfl, by omega, by omega⟩
theorem Made34.oks (h : Made34 w v ps l mk mu mp mc AL cL RW RH) (hok : ∀ p ∈ ps, p.ok) : ∀ d ∈ l, DWok d.dw := fun d hd => by
  obtain ⟨j, p, hp, _, hk⟩ := h.at_ hd
  exact hk.dw_ok (hok p (List.mem_of_getElem? hp))
theorem dws_ok (hok : ∀ d ∈ l, DWok d.dw) : ∀ d ∈ dws l, DWok d := fun d hd => by
  unfold dws at hd
  obtain ⟨e, he, rfl⟩ := List.mem_map.1 hd
  exact hok e (List.mem_of_mem_tail he)
/-- the view of what is made. -/
theorem view34 (h : Made34 w v ps l mk mu mp mc AL cL RW RH) (hok : ∀ p ∈ ps, p.ok) :
    Calls Tryz.prog 25 #[.agg #[.map mk, .map mu], .agg #[.map mp]] w fun e w' => ∃ Av nv cv mv og, e = .returned (.agg #[.slice Av nv cv, .map mv]) ∧ SeenG w' (.agg #[.slice Av nv cv, .map mv]) RW RH (nodesW (dws l)) (bxS RW RH (dws l)) og ∧ Below w.heap.size w w' := by
  obtain ⟨nk, fk, ht⟩ := h.tree
  obtain ⟨_, bs, hp, hs⟩ := h.place.resolve_left (fun hh => by have := h.few; rw [hh.1] at this; simp at this)
  obtain ⟨_, _, _, _, _, hb⟩ := h.rootIs
  refine (seenG_of (RW := RW) (RH := RH) (l := dws l) (ns := nodesW (dws l)) w ht hp hs (nodesW_ok h.up.upOk) (fun _ hh => hh) (dws_ok (h.oks hok)) (by rw [nodesW_len, dws_len]; have := h.few; omega) (by omega)).mono ?_
  rintro e w' ⟨u, og, rfl, hse, hbw⟩
  obtain ⟨Av, nv, cv, mv, rfl⟩ := hse.form
  exact ⟨Av, nv, cv, mv, og, rfl, hse, hbw⟩
/-- the screen of what is made. -/
theorem show34 (h : Made34 w v ps l mk mu mp mc AL cL RW RH) {u : Value} {og : Int → Int × Int} (hu : SeenG w u RW RH (nodesW (dws l)) (bxS RW RH (dws l)) og) {W H : Nat} (hW : 1 ≤ W ∧ W ≤ 128) (hH : 1 ≤ H ∧ H ≤ 128) :
    Calls Tryz.prog 35 #[u, .agg #[.map mc], .int .i64 W, .int .i64 H] w fun e w' => ∃ A c px, e = .returned (.tuple #[.agg #[.int .i64 W, .int .i64 H, .slice A (W * H) c], .int .i64 0]) ∧ Rd w' A (W * H) (Gr.U8 px) ∧ W * H ≤ c ∧ (px.length = W * H ∧ ∀ x y : Nat, x < W → y < H → Gr.gat W H px x y = pixD l RW RH x y) ∧ Below w.heap.size w w' := by
  obtain ⟨cs, hc1, hc2, _⟩ := h.canvas
  obtain ⟨r, h1, h2, h3, _⟩ := h.rootIs
  have hok := nodesW_ok h.up.upOk
  refine (show_any u (.agg #[.map mc]) RW RH _ _ og _ cs W H w hu hok hc1 hW hH).mono ?_
  rintro e w' ⟨A, c, px, rfl, hr, hcp, hs, hb⟩
  exact ⟨A, c, px, rfl, hr, hcp, ⟨hs.len, fun x y hx hy => (hs.all hok x y hx hy).trans (scr_doc h.up h1 ⟨h2, h3⟩ hc2 x y)⟩, hb⟩
theorem Made34.form {m1 m2 m3 m4 : Option Nat} {A0 : Option Addr} {n0 c0 : Nat} (h : Made34 w (.agg #[.map m1, .map m2, .map m3, .map m4, .slice A0 n0 c0]) ps l mk mu mp mc AL cL RW RH) : m1 = mk ∧ m2 = mu ∧ m3 = mp ∧ m4 = mc ∧ A0 = AL ∧ n0 = l.length ∧ c0 = cL := by
  have hs := h.shape
  simpa using hs
end
end Go.Proofs.YtdaedkolpfkdjaaGreat
end

section
namespace Go.Proofs.YtdaedkolpfkdjaaGreat
open Go.RowKit Go.Shelf

set_option maxRecDepth 100000 in
theorem Tryz.infoBu : (Tryz.prog.info? 5).map (fun i => (i.zero, i.size, i.bytes)) = some (some (.int .u8 0), 1, 1) := by kernel_rfl
set_option maxRecDepth 100000 in
theorem Tryz.infoBd : (Tryz.prog.info? 204).map (·.size) = some 2 := by kernel_rfl
set_option maxRecDepth 100000 in
theorem Tryz.liesBd : liesAt Tryz.prog Tryz.prog.depth 204 (2 / Tryz.prog.cellsOf 204) 0 204 1 = true := by kernel_rfl
set_option maxRecDepth 100000 in
set_option maxHeartbeats 2000000 in
theorem bcheck_used (b : Nat) (w : World) (h0 : w.cell? ⟨b, 0, none⟩ = some (.pointer (some ⟨b, 0, none⟩))) :
    Calls Tryz.prog 158 #[.pointer (some ⟨b, 0, none⟩)] w fun e w' => e = .returned (.tuple #[]) ∧ w' = w := by
  obtain ⟨j, hj, _⟩ := Option.map_eq_some_iff.1 Tryz.infoBd
  go_enter Tryz.func158, Tryz.ntmps158
  go_wp2
  rw [Lib.run_neq_ptr_same w _ Tryz.underlying202 hj]
  go_wp2
  go_end0
  exact ⟨rfl, rfl⟩
set_option maxRecDepth 100000 in
set_option maxHeartbeats 2000000 in
theorem bcheck_fresh (b : Nat) (w : World) (h0 : w.cell? ⟨b, 0, none⟩ = some (.pointer none)) (hsh : w.shape? b = some (204, 2)) (hfz : w.frozen? ⟨b, 0, none⟩ = false) :
    Calls Tryz.prog 158 #[.pointer (some ⟨b, 0, none⟩)] w fun e w' => e = .returned (.tuple #[]) ∧ w' = w.setCell ⟨b, 0, none⟩ (.pointer (some ⟨b, 0, none⟩)) := by
  obtain ⟨j, hj, hjs⟩ := Option.map_eq_some_iff.1 Tryz.infoBd
  go_enter Tryz.func158, Tryz.ntmps158
  go_wp2
  rw [Lib.run_to_unsafe w ⟨b, 0, none⟩ Tryz.underlying202 Tryz.underlying295 hj (by rw [hjs]; decide) hsh (Nat.zero_lt_succ 1)]
  simp only [Result.andThen]
  rw [Oper.upon_value]
  go_wp2
  rw [run_callFunc_extern Tryz.func188 (by kernel_rfl) (by kernel_rfl) (by kernel_rfl) (e := Extern.AbiNoEscape.same) (by kernel_rfl)]
  rw [Lib.run_noEscape]
  simp only [Result.andThen]
  rw [Oper.upon_value]
  go_wp2
  rw [Lib.run_from_unsafe w ⟨b, 0, none⟩ Tryz.underlying295 Tryz.underlying202 hj hsh Tryz.liesBd]
  simp only [Result.andThen]
  rw [Oper.upon_value]
  go_wp2
  go_end0
  exact ⟨rfl, rfl⟩
theorem bcheck_any (B b : Nat) (bs : List Value) (w : World) (h : Lib.IsBuilder 204 5 B b bs w) :
    Calls Tryz.prog 158 #[.pointer (some ⟨b, 0, none⟩)] w fun e w' => e = .returned (.tuple #[]) ∧ (Lib.BuilderAt 204 5 B b (.pointer (some ⟨b, 0, none⟩)) bs w' ∧ Below B w w') := by
  rcases h with h | h
  · refine (bcheck_fresh b w h.cell0 h.shape h.frozen0).mono ?_
    rintro e w' ⟨rfl, rfl⟩
    exact ⟨rfl, h.used _, (Below.refl B w).setCell (p := ⟨b, 0, none⟩) h.1 _⟩
  · refine (bcheck_used b w h.cell0).mono ?_
    rintro e w' ⟨rfl, rfl⟩
    exact ⟨rfl, h, Below.refl B _⟩
set_option maxRecDepth 100000 in
set_option maxHeartbeats 2000000 in
theorem wbyte_any (B b : Nat) (bs : List Value) (c : Int) (w : World) (h : Lib.IsBuilder 204 5 B b bs w) (hlen : bs.length + 1 ≤ 140737488355328) (hBw : B ≤ w.heap.size) :
    Calls Tryz.prog 106 #[.pointer (some ⟨b, 0, none⟩), .int .u8 c] w fun e w' => e = .returned .nilIface ∧ (Lib.BuilderAt 204 5 B b (.pointer (some ⟨b, 0, none⟩)) (bs ++ [.int .u8 c]) w' ∧ Below B w w') := by
  obtain ⟨i0, hi, hz0, hz1, hz2⟩ := info_parts Tryz.infoBu
  go_enter Tryz.func106, Tryz.ntmps106
  go_wp2_with (go_at_call 158; refine (bcheck_any B b bs _ h).mono ?_)
  rintro e w1 ⟨rfl, h1, hb1⟩
  obtain ⟨hB, v, hbk, hown, hne⟩ := h1
  have c0 : w1.cell? ⟨b, 0, none⟩ = some (.pointer (some ⟨b, 0, none⟩)) := by rw [Lib.cell_of_heap hbk]; rfl
  have c1 : w1.cell? ⟨b, 1, none⟩ = some v := by rw [Lib.cell_of_heap hbk]; rfl
  go_wp2_with (at_builtin; refine wpList_append_own _ rfl _ _ 86 rfl B 5 i0 (.int .u8 0) 1 1 Tryz.underlying86 hi hz0 hz1 hz2 rfl (by decide) _ _ _ rfl (hown.alloc _) ⟨w1.heap.size, 0, none⟩ 1 1 [.int .u8 c] rfl rfl ?c1 ?c2 ?c3 ?c4 ?c5 ?_)
  case c1 =>
    intro j u hj
    match j, hj with
    | 0, hj => simp at hj; subst hj; simp [Addr.add]
  case c2 => intro u hu; simp at hu; subst hu; rfl
  case c3 => unfold maxLen; omega
  case c4 => omega
  case c5 => have := hb1.size; simp; omega
  intro v' w2 hown' hgrow _
  have hlt : b < w1.heap.size := by
    rcases Nat.lt_or_ge b w1.heap.size with h' | h'
    · exact h'
    · simp [Array.getElem?_eq_none h'] at hbk
  have hb2 : w2.heap[b]? = some (.cells #[.pointer (some ⟨b, 0, none⟩), v] 204 (0, 0)) := by
    rw [hgrow.block b (by simp; omega) (fun e => hne e.symm), Lib.alloc_old w1 _ b hlt]
    exact hbk
  have d0 : w2.cell? ⟨b, 0, none⟩ = some (.pointer (some ⟨b, 0, none⟩)) := by rw [Lib.cell_of_heap hb2]; rfl
  have d1 : w2.cell? ⟨b, 1, none⟩ = some v := by rw [Lib.cell_of_heap hb2]; rfl
  have f1 : w2.frozen? ⟨b, 1, none⟩ = false := Lib.frozen_of_heap hb2 1
  obtain ⟨g, cap, rfl⟩ : ∃ g cap, v' = .slice (some ⟨g, 0, none⟩) (bs.length + 1) cap := by
    rcases hown'.2 with ⟨_, h0⟩ | ⟨g, cap, cur, hv, _⟩
    · omega
    · exact ⟨g, cap, hv⟩
  go_wp2
  go_ret
  refine ⟨rfl, ?_, ?_⟩
  · exact Lib.BuilderAt.put (T := 204) (e := 5) hB hb2 (bs' := bs ++ [.int .u8 c]) (by simpa using hown') (by decide)
  · exact ((hb1.alloc (by have := hb1.size; omega) _).grown hgrow (by have := hb1.size; simp; omega) (fun k hk => (hown.lt k hk).1)).setCell (p := ⟨b, 1, none⟩) hB _
end Go.Proofs.YtdaedkolpfkdjaaGreat
end

section
namespace Go.Proofs.YtdaedkolpfkdjaaGreat
open Go.RowKit Go.Shelf

/-- a digit of base 16. -/
def hexC (n : Nat) : UInt8 := if n < 10 then UInt8.ofNat (48 + n) else UInt8.ofNat (87 + n)
def hexB (b : UInt8) : List UInt8 := [hexC (b.toNat / 16), hexC (b.toNat % 16)]
/-- the text of rows of bytes. -/
def rowT (l : List UInt8) : List UInt8 := l.flatMap hexB ++ [10]
def textB (W H : Nat) (px : List Int) : List UInt8 := (List.range H).flatMap fun y : Nat => rowT (Gr.rowB W H px (y : Int))
theorem Blk.belowB {X W : World} {B g : Nat} {t : TypeId} {cs : Array Value} (h : Blk X g t cs) (hb : Below B X W) (hg : g < B) : Blk W g t cs := (hb.block g hg).trans h
theorem bld_below {W W' : World} {T e B b : Nat} {bs : List Value} (h : Lib.IsBuilder T e B b bs W) (hb : Below W.heap.size W W') : Lib.IsBuilder T e B b bs W' := by
  have key : ∀ p, Lib.BuilderAt T e B b p bs W → Lib.BuilderAt T e B b p bs W' := fun p hp => by
    have hl := hp.lt
    obtain ⟨h1, v, h2, h3, h4⟩ := hp
    exact ⟨h1, v, (hb.block b hl).trans h2, ownsRow_below h3 hb, h4⟩
  rcases h with h | h
  · exact .inl (key _ h)
  · exact .inr (key _ h)
theorem bytes_snoc (l : List UInt8) (b : UInt8) : Lib.byteCells l ++ [.int .u8 b.toNat] = Lib.byteCells (l ++ [b]) := by simp [Lib.byteCells]
theorem dig_at (n : Nat) (h : n < 16) (h' : n < (⟨#[48, 49, 50, 51, 52, 53, 54, 55, 56, 57, 97, 98, 99, 100, 101, 102]⟩ : ByteArray).size) : (⟨#[48, 49, 50, 51, 52, 53, 54, 55, 56, 57, 97, 98, 99, 100, 101, 102]⟩ : ByteArray)[n]'h' = hexC n := by
  match n, h with
  | 0, _ => rfl
  | 1, _ => rfl
  | 2, _ => rfl
  | 3, _ => rfl
  | 4, _ => rfl
  | 5, _ => rfl
  | 6, _ => rfl
  | 7, _ => rfl
  | 8, _ => rfl
  | 9, _ => rfl
  | 10, _ => rfl
  | 11, _ => rfl
  | 12, _ => rfl
  | 13, _ => rfl
  | 14, _ => rfl
  | 15, _ => rfl
  | n + 16, h => omega
theorem str_at {row : List UInt8} {k : Nat} {q : UInt8} (hq : row[k]? = some q) (h : k < (⟨row.toArray⟩ : ByteArray).size) : (⟨row.toArray⟩ : ByteArray)[k]'h = q := by
  obtain ⟨h1, h2⟩ := List.getElem?_eq_some_iff.1 hq
  exact h2
theorem flatT_le {α β : Type} (f : α → List β) (B : Nat) : ∀ (l : List α), (∀ a ∈ l, (f a).length ≤ B) → (l.flatMap f).length ≤ l.length * B
  | [], _ => by simp
  | a :: l, h => by
    have h1 := flatT_le f B l (fun b hb => h b (List.mem_cons_of_mem _ hb))
    have h2 := h a (List.mem_cons_self ..)
    rw [List.flatMap_cons, List.length_append, List.length_cons, Nat.add_mul]
    omega
theorem rowB_le (W H : Nat) (px : List Int) (y : Int) : (Gr.rowB W H px y).length ≤ W := by
  unfold Gr.rowB
  split
  · simp [Gr.B8]
    omega
  · simp
theorem text_le (W H : Nat) (px : List Int) (y : Nat) (hW : W ≤ 128) : ((List.range y).flatMap fun y : Nat => rowT (Gr.rowB W H px (y : Int))).length ≤ y * 257 := by
  have := flatT_le (fun y : Nat => rowT (Gr.rowB W H px (y : Int))) 257 (List.range y) (fun a _ => by
    have h1 := rowB_le W H px (a : Int)
    have h2 := flatT_le hexB 2 (Gr.rowB W H px (a : Int)) (fun b _ => by simp [hexB])
    unfold rowT
    rw [List.length_append]
    simp only [List.length_singleton]
    omega)
  simpa using this
set_option maxRecDepth 100000 in
set_option maxHeartbeats 4000000 in
theorem text_any (W H : Nat) (px : List Int) (A : Option Addr) (n c : Nat) (w : World) (hn : n = W * H) (hW : 1 ≤ W ∧ W ≤ 128) (hH : H ≤ 128) (hc : n ≤ c) (hr : Rd w A n (Gr.U8 px)) (hp : Gr.Pix px) :
    Calls Tryz.prog 51 #[.agg #[.int .i64 W, .int .i64 H, .slice A n c]] w fun e w' => e = .returned (.string ⟨(textB W H px).toArray⟩) ∧ Below w.heap.size w w' := by
  have xb := bal (bre w) (.cells #[.int .i64 W, .int .i64 H, .slice A n c] 75)
  have xk := Blk.new w 75 #[.int .i64 W, .int .i64 H, .slice A n c]
  have HR := Lib.hid hr
  have HN := Lib.hid hn
  clear hr hn
  go_enter Tryz.func51, Tryz.ntmps51
  go_upto_region 1 with fail
  obtain ⟨X, hX⟩ : ∃ X, w.alloc (.cells #[.int .i64 W, .int .i64 H, .slice A n c] 75) = X := ⟨_, rfl⟩
  rw [hX] at xb xk ⊢
  have HB := Lib.hid xb
  have K1 := Lib.hid xk
  have k0 := xk.cellV (i := 0) (v := .int .i64 W) rfl
  have k1 := xk.cellV (i := 1) (v := .int .i64 H) rfl
  have k2 := xk.cellV (i := 2) (v := .slice A n c) rfl
  clear xb xk hX
  go_wp2_with fail
  refine (Gr.size_any W H A n c _).mono ?_
  rintro e w1 ⟨rfl, hb1⟩
  have yb := bal (bstep HB.out hb1) (.cells #[.pointer none, .slice none 0 0] 204)
  have yk := (K1.out.belowS hb1).alloc (.cells #[.pointer none, .slice none 0 0] 204)
  have yl := Nat.lt_of_lt_of_le K1.out.lt hb1.size
  have yi : Lib.IsBuilder 204 5 w1.heap.size w1.heap.size (Lib.byteCells []) (w1.alloc (.cells #[.pointer none, .slice none 0 0] 204)) := .inl ⟨Nat.le_refl _, .slice none 0 0, Blk.new w1 204 #[.pointer none, .slice none 0 0], World.ownsRow_nil _ _ _ _, by simp [Value.ownBlock]⟩
  clear hb1 k0 k1 k2
  go_upto_region 3 with fail
  obtain ⟨b, hb⟩ : ∃ b, w1.heap.size = b := ⟨_, rfl⟩
  obtain ⟨Y, hY⟩ : ∃ Y, w1.alloc (.cells #[.pointer none, .slice none 0 0] 204) = Y := ⟨_, rfl⟩
  rw [hY] at yb yk yi ⊢
  rw [hb] at yi yl ⊢
  have hbY : b ≤ Y.heap.size := by rw [← hY, ← hb]; simp
  replace HB := Lib.hid yb
  replace K1 := Lib.hid yk
  have HL := Lib.hid yl
  have HI := Lib.hid yi
  have HBY := Lib.hid hbY
  clear yb yk yl yi hb hY hbY
  go_wp2_with fail
  go_loopw [15, 6, 7, 8] (fun i _ _ _ wr => ∃ y : Nat, i = .int .i64 y ∧ y ≤ H ∧ Lib.IsBuilder 204 5 b b (Lib.byteCells ((List.range y).flatMap fun y : Nat => rowT (Gr.rowB W H px (y : Int)))) wr ∧ Blk wr w.heap.size 75 #[.int .i64 W, .int .i64 H, .slice A n c] ∧ b ≤ wr.heap.size ∧ Below w.heap.size w wr) (fun i _ _ _ _ => H - (intOf i).toNat)
  case atStart => exact ⟨0, rfl, by omega, HI.out, K1.out, HBY.out, HB.out⟩
  case round =>
    obtain ⟨y, rfl, hy, hi, hk, hbw, hbr⟩ := hrel
    replace HI := Lib.hid hi
    replace K1 := Lib.hid hk
    replace HBY := Lib.hid hbw
    replace HB := Lib.hid hbr
    clear hi hk hbw hbr
    by_cases hlt : y < H
    · have y0 : (0 : Int) ≤ (y : Int) := by omega
      have y1 : (y : Int) < (H : Int) := by omega
      have k0 := K1.out.cellV (i := 0) (v := .int .i64 W) rfl
      have k1 := K1.out.cellV (i := 1) (v := .int .i64 H) rfl
      have k2 := K1.out.cellV (i := 2) (v := .slice A n c) rfl
      go_wp2_with fail
      refine (Gr.row_any W H px y A n c _ HN.out hW hH hc (HR.out.below HB.out) hp).mono ?_
      rintro e w2 ⟨rfl, hb2⟩
      obtain ⟨row, hrow⟩ : ∃ r, Gr.rowB W H px y = r := ⟨_, rfl⟩
      have HRW := Lib.hid hrow
      have HRL := Lib.hid (show row.length ≤ W from hrow ▸ rowB_le W H px (y : Int))
      have HLE := Lib.hid (text_le W H px y hW.2)
      rw [hrow]
      have hi2 : Lib.IsBuilder 204 5 b b (Lib.byteCells ((List.range y).flatMap fun y : Nat => rowT (Gr.rowB W H px (y : Int)))) w2 := bld_below HI.out hb2
      replace HI := Lib.hid hi2
      replace K1 := Lib.hid (K1.out.belowS hb2)
      replace HBY := Lib.hid (Nat.le_trans HBY.out hb2.size)
      replace HB := Lib.hid (bstep HB.out hb2)
      clear hi2 hb2 hrow k0 k1 k2
      go_wp2_with fail
      go_loopw [23, 8] (fun i _ wr => ∃ k : Nat, i = .int .i64 k ∧ k ≤ row.length ∧ Lib.IsBuilder 204 5 b b (Lib.byteCells (((List.range y).flatMap fun y : Nat => rowT (Gr.rowB W H px (y : Int))) ++ (row.take k).flatMap hexB)) wr ∧ Blk wr w.heap.size 75 #[.int .i64 W, .int .i64 H, .slice A n c] ∧ b ≤ wr.heap.size ∧ Below w.heap.size w wr) (fun i _ _ => row.length - (intOf i).toNat)
      case atStart => exact ⟨0, rfl, by omega, by simpa using HI.out, K1.out, HBY.out, HB.out⟩
      case round =>
        obtain ⟨k, rfl, hk, hi, hk1, hbw, hbr⟩ := hrel
        replace HI := Lib.hid hi
        replace K1 := Lib.hid hk1
        replace HBY := Lib.hid hbw
        replace HB := Lib.hid hbr
        clear hi hk1 hbw hbr
        by_cases hlt2 : k < row.length
        · have hrb : row.length ≤ 128 := Nat.le_trans HRL.out hW.2
          have k0 : (0 : Int) ≤ (k : Int) := by omega
          have k1 : (k : Int) < (row.length : Int) := by omega
          obtain ⟨q, hq⟩ : ∃ q, row[k]? = some q := ⟨_, List.getElem?_eq_getElem hlt2⟩
          have HQ := Lib.hid hq
          go_upto_region 10 with fail
          go_wp2_with fail
          rotate_left
          · rename_i hx
            exfalso
            apply hx
            have := UInt8.toNat_lt ((⟨row.toArray⟩ : ByteArray)[k]'(by show k < row.toArray.size; simpa using hlt2))
            omega
          refine (wbyte_any b b _ _ wr HI.out (by rw [Lib.byteCells_length]; have h1 := HLE.out; have h2 := flatT_le hexB 2 (row.take k) (fun _ _ => by simp [hexB]); have h3 := HRL.out; rw [List.length_append]; rw [List.length_take] at h2; omega) HBY.out).mono ?_
          rintro e w3 ⟨rfl, hi3, hb3⟩
          go_upto_region 11 with fail
          go_wp2_with fail
          refine (wbyte_any b b _ _ w3 (.inr hi3) (by rw [List.length_append, Lib.byteCells_length]; have h1 := HLE.out; have h2 := flatT_le hexB 2 (row.take k) (fun _ _ => by simp [hexB]); have h3 := HRL.out; rw [List.length_append]; rw [List.length_take] at h2; simp only [List.length_singleton]; omega) (Nat.le_trans HBY.out hb3.size)).mono ?_
          rintro e w4 ⟨rfl, hi4, hb4⟩
          have hqb := UInt8.toNat_lt q
          have hi5 : Lib.IsBuilder 204 5 b b (Lib.byteCells (((List.range y).flatMap fun y : Nat => rowT (Gr.rowB W H px (y : Int))) ++ (row.take (k + 1)).flatMap hexB)) w4 := by
            have h9 := hi4
            simp only [str_at HQ.out, dig_at (q.toNat / 16) (by omega), dig_at (q.toNat % 16) (by omega)] at h9
            rw [bytes_snoc, bytes_snoc] at h9
            rw [take_snocI' HQ.out, List.flatMap_append]
            have e9 : (((List.range y).flatMap fun y : Nat => rowT (Gr.rowB W H px (y : Int))) ++ (row.take k).flatMap hexB ++ [hexC (q.toNat / 16)]) ++ [hexC (q.toNat % 16)] = ((List.range y).flatMap fun y : Nat => rowT (Gr.rowB W H px (y : Int))) ++ ((row.take k).flatMap hexB ++ [q].flatMap hexB) := by simp [hexB]
            rw [e9] at h9
            exact .inr h9
          have HI5 := Lib.hid hi5
          have hb5 := hb3.trans hb4
          have hwb : w.heap.size ≤ b := Nat.le_of_lt HL.out
          have K15 := Lib.hid (K1.out.belowB hb5 HL.out)
          have HB5 := Lib.hid (HB.out.trans (hb5.mono hwb))
          have HY5 := Lib.hid (Nat.le_trans HBY.out hb5.size)
          clear hi3 hb3 hi4 hb4 hi5 hb5
          go_wp2_with fail
          go_roundw
          case rel => exact ⟨k + 1, by go_num, by omega, HI5.out, K15.out, HY5.out, HB5.out⟩
          case measure => simp [intOf]; omega
        · obtain rfl : k = row.length := by omega
          have k1 : ¬ (row.length : Int) < (row.length : Int) := by omega
          have hi2 := HI.out
          rw [List.take_length] at hi2
          replace HI := Lib.hid hi2
          clear hi2
          go_wp2_with fail
          refine (wbyte_any b b _ _ wr HI.out (by rw [Lib.byteCells_length]; have h1 := HLE.out; have h2 := flatT_le hexB 2 row (fun _ _ => by simp [hexB]); have h3 := HRL.out; rw [List.length_append]; omega) HBY.out).mono ?_
          rintro e w3 ⟨rfl, hi3, hb3⟩
          have hi5 : Lib.IsBuilder 204 5 b b (Lib.byteCells ((List.range (y + 1)).flatMap fun y : Nat => rowT (Gr.rowB W H px (y : Int)))) w3 := by
            have h9 := hi3
            rw [show (Value.int .u8 10) = .int .u8 ((10 : UInt8).toNat : Int) from rfl, bytes_snoc] at h9
            rw [List.range_succ, List.flatMap_append]
            have e9 : ((List.range y).flatMap fun y : Nat => rowT (Gr.rowB W H px (y : Int))) ++ row.flatMap hexB ++ [10] = ((List.range y).flatMap fun y : Nat => rowT (Gr.rowB W H px (y : Int))) ++ ([y].flatMap fun y : Nat => rowT (Gr.rowB W H px (y : Int))) := by simp [rowT, HRW.out]
            rw [e9] at h9
            exact .inr h9
          have HI5 := Lib.hid hi5
          have hwb : w.heap.size ≤ b := Nat.le_of_lt HL.out
          have K15 := Lib.hid (K1.out.belowB hb3 HL.out)
          have HB5 := Lib.hid (HB.out.trans (hb3.mono hwb))
          have HY5 := Lib.hid (Nat.le_trans HBY.out hb3.size)
          clear hi3 hb3 hi5
          go_wp2_with fail
          go_roundw
          case rel => exact ⟨y + 1, by go_num, by omega, HI5.out, K15.out, HY5.out, HB5.out⟩
          case measure => simp [intOf]; omega
    · obtain rfl : y = H := by omega
      have y1 : ¬ (y : Int) < (y : Int) := by omega
      go_wp2_with fail
      refine (Tryz.Builder_String_any b b _ _ HI.out HBY.out).mono ?_
      rintro e w3 ⟨rfl, hb3⟩
      have hwb : w.heap.size ≤ b := Nat.le_of_lt HL.out
      go_wp2_with fail
      go_ret
      exact ⟨rfl, HB.out.trans (hb3.mono hwb)⟩
end Go.Proofs.YtdaedkolpfkdjaaGreat
end
