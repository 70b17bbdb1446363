/-
  Screens, plainly: a window that isn't mapped plays no part; windows that are alike look alike.
  The walks of the document's answers of a scene: Counts, In, Has; a window's Has; Viewable; Origin.
  The walks of the document's answers of a scene: Origin; the window at a place; those below one.
  The walk of the document's own area of a window (in).
  The walks of the document's topmost window and pixel at a place.
  The walk of screen.Show.
-/
import Derived.Test.YtdaedkolpfkdjaaGreatZV32
import Derived.Test.YtdaedkolpfkdjaaGreatZV24
import Derived.Test.YtdaedkolpfkdjaaGreatZV27
import Derived.BigRegion
import Derived.Test.YtdaedkolpfkdjaaGreatZV28
import Derived.Test.YtdaedkolpfkdjaaGreatZV02
import Derived.Test.YtdaedkolpfkdjaaGreatZV29
section
namespace Go.Proofs.YtdaedkolpfkdjaaGreat
open Go.RowKit Go.Maps Go.Shelf

section
variable {l : List DW}
theorem lastHit_more {hit : DW × Nat → Bool} {d : DW} (h : hit (d, l.length) = false) : lastHit hit (l ++ [d]).zipIdx = lastHit hit l.zipIdx := by
  have e : (l ++ [d]).zipIdx = l.zipIdx ++ [(d, l.length)] := by simp [List.zipIdx_append]
  rw [e, lastHit_snoc, h]
  rfl
theorem hit_no {d : DW} (hM : d.M = false) (p x y : Int) (i : Nat) : hitW p x y (d, i) = false := by unfold hitW; rw [hM]; simp
theorem at_snoc {i : Nat} {q : DW} (d : DW) (h : l[i]? = some q) : (l ++ [d])[i]? = some q := by rw [List.getElem?_append_left (List.getElem?_eq_some_iff.1 h).1]; exact h
theorem atD_more {d : DW} (hM : d.M = false) : ∀ (f : Nat) (p x y : Int), atD (l ++ [d]) f p x y = atD l f p x y
  | 0, _, _, _ => rfl
  | f + 1, p, x, y => by
    have e : lastHit (hitW p x y) (l ++ [d]).zipIdx = lastHit (hitW p x y) l.zipIdx := lastHit_more (hit_no hM p x y _)
    by_cases hh : lastHit (hitW p x y) l.zipIdx < 0
    · rw [atD_no hh, atD_no (by rw [e]; exact hh)]
    · obtain ⟨i, q, ei, hq, _⟩ := lastHit_is hh
      rw [atD_yes ei hq, atD_yes (e.trans ei) (at_snoc d hq), atD_more hM f]
theorem locD_more {d : DW} (hM : d.M = false) : ∀ (f : Nat) (p x y : Int), locD (l ++ [d]) f p x y = locD l f p x y
  | 0, _, _, _ => rfl
  | f + 1, p, x, y => by
    have e : lastHit (hitW p x y) (l ++ [d]).zipIdx = lastHit (hitW p x y) l.zipIdx := lastHit_more (hit_no hM p x y _)
    by_cases hh : lastHit (hitW p x y) l.zipIdx < 0
    · rw [locD_no hh, locD_no (by rw [e]; exact hh)]
    · obtain ⟨i, q, ei, hq, _⟩ := lastHit_is hh
      rw [locD_yes ei hq, locD_yes (e.trans ei) (at_snoc d hq), locD_more hM f]
theorem atD_fuel1 (hu : UpOk l) : ∀ (f : Nat) (p x y : Int), -1 ≤ p → p < (l.length : Int) → (l.length : Int) - p ≤ f → atD l (f + 1) p x y = atD l f p x y ∧ locD l (f + 1) p x y = locD l f p x y
  | 0, p, x, y, h1, h2, h3 => by omega
  | f + 1, p, x, y, h1, h2, h3 => by
    by_cases hh : lastHit (hitW p x y) l.zipIdx < 0
    · rw [atD_no hh, atD_no hh, locD_no hh, locD_no hh]; exact ⟨rfl, rfl⟩
    · obtain ⟨i, q, ei, hq, hit⟩ := lastHit_is hh
      have hP := hitW_up hit
      have hui := hu i q hq
      have hil := (List.getElem?_eq_some_iff.1 hq).1
      rw [atD_yes ei hq, atD_yes ei hq, locD_yes ei hq, locD_yes ei hq]
      exact atD_fuel1 hu f i _ _ (by omega) (by omega) (by omega)
theorem atD_fuel (hu : UpOk l) {f : Nat} {p : Int} (x y : Int) (h1 : -1 ≤ p) (h2 : p < (l.length : Int)) (h3 : (l.length : Int) - p ≤ f) : ∀ g : Nat, f ≤ g → atD l g p x y = atD l f p x y ∧ locD l g p x y = locD l f p x y := fun g hg => by
  induction g with
  | zero => rw [show f = 0 from by omega]; exact ⟨rfl, rfl⟩
  | succ g ih =>
    by_cases h : f ≤ g
    · have h4 := ih h
      have h5 := atD_fuel1 hu g p x y h1 h2 (by omega)
      rw [h5.1, h5.2]
      exact h4
    · rw [show f = g + 1 from by omega]; exact ⟨rfl, rfl⟩
end
def DW.strip (d : DW) : DW := { d with A := none, n := 0, c := 0 }
def R34.strip (d : R34) : R34 := { d with A := none, n := 0, c := 0, Ap := none, np := 0, cp := 0 }
theorem lastHit_strip (l : List DW) (p x y : Int) : lastHit (hitW p x y) (l.map DW.strip).zipIdx = lastHit (hitW p x y) l.zipIdx := by
  have e : (l.map DW.strip).zipIdx = l.zipIdx.map (Prod.map DW.strip id) := List.zipIdx_map ..
  unfold lastHit
  rw [e, ← List.map_reverse, List.find?_map]
  have e2 : (hitW p x y ∘ Prod.map DW.strip id) = hitW p x y := funext fun q => rfl
  rw [e2]
  cases l.zipIdx.reverse.find? (hitW p x y) <;> rfl
theorem atD_strip (l : List DW) : ∀ (f : Nat) (p x y : Int), atD (l.map DW.strip) f p x y = atD l f p x y ∧ locD (l.map DW.strip) f p x y = locD l f p x y
  | 0, _, _, _ => ⟨rfl, rfl⟩
  | f + 1, p, x, y => by
    have e := lastHit_strip l p x y
    by_cases hh : lastHit (hitW p x y) l.zipIdx < 0
    · rw [atD_no hh, locD_no hh, atD_no (by rw [e]; exact hh), locD_no (by rw [e]; exact hh)]; exact ⟨rfl, rfl⟩
    · obtain ⟨i, q, ei, hq, _⟩ := lastHit_is hh
      have hq' : (l.map DW.strip)[i]? = some q.strip := by rw [List.getElem?_map, hq]; rfl
      rw [atD_yes ei hq, atD_yes (e.trans ei) hq', locD_yes ei hq, locD_yes (e.trans ei) hq']
      exact atD_strip l f _ _ _
section
variable {l : List R34}
theorem dws_strip (l : List R34) : dws (l.map R34.strip) = (dws l).map DW.strip := by
  cases l with
  | nil => rfl
  | cons a t =>
    unfold dws
    simp only [List.map_cons, List.tail_cons, List.map_map]
    rfl
theorem UpR.strip (h : UpR l) : UpR (l.map R34.strip) := fun j d hd hj => by
  rw [List.getElem?_map] at hd
  cases he : l[j]? with
  | none => rw [he] at hd; cases hd
  | some e =>
    rw [he] at hd
    have e0 : e.strip = d := by simpa using hd
    subst e0
    exact h j e he hj
/-- any steps that are enough. -/
theorem topI_fuel (hu : UpR l) (hl : 1 ≤ l.length) (x y : Int) : topI l x y = atD (dws l) l.length (-1) x y + 1 ∧ topL l x y = locD (dws l) l.length (-1) x y := by
  have h1 := below_lenW hu.upOk
  have h2 := dws_lenI hl
  have h3 : (dws l).length + 1 = l.length := by rw [dws_len]; omega
  have := atD_fuel hu.upOk (f := l.length) (p := -1) x y (by omega) (by omega) (by omega) (F34 l) (by unfold F34; omega)
  unfold topI topL
  rw [this.1, this.2]
  exact ⟨rfl, rfl⟩
theorem pixD_strip (hu : UpR l) (hl : 1 ≤ l.length) (RW RH : Nat) (x y : Int) : pixD (l.map R34.strip) RW RH x y = pixD l RW RH x y := by
  have h1 := topI_fuel hu hl x y
  have h2 := topI_fuel hu.strip (by simpa using hl) x y
  have h3 := atD_strip (dws l) l.length (-1) x y
  rw [dws_strip, List.length_map, h3.1, h3.2] at h2
  unfold pixD
  rw [h2.1, h2.2, h1.1, h1.2]
  congr 1
  unfold pixAt
  rw [List.getElem?_map]
  cases l[(atD (dws l) l.length (-1) x y + 1).toNat]? <;> rfl
theorem pixD_more (hu : UpR l) (hl : 1 ≤ l.length) {d : R34} (hM : d.M = false) (hd : 0 ≤ d.U ∧ d.U < (l.length : Int)) (RW RH : Nat) (x y : Int) : pixD (l ++ [d]) RW RH x y = pixD l RW RH x y := by
  have h1 := topI_fuel hu hl x y
  have hus := hu.snoc hd
  have h2 := topI_fuel hus (by simp) x y
  have h0 := atD_fuel hu.upOk (f := l.length) (p := -1) x y (by omega) (by have := dws_lenI hl; omega) (by have := dws_lenI hl; omega) (l ++ [d]).length (by simp)
  rw [dws_snoc hl, atD_more (show d.dw.M = false from hM), locD_more (show d.dw.M = false from hM), h0.1, h0.2] at h2
  unfold pixD
  rw [h2.1, h2.2, h1.1, h1.2]
  congr 1
  unfold pixAt
  have hb := topI_bd hu hl x y
  rw [h1.1] at hb
  rw [List.getElem?_append_left (by omega)]
end
/-- windows that are made of the same ones. -/
theorem like_strip {i : Nat} {p : PN34} {d e : R34} (h : Like34 i p d) (g : Like34 i p e) : d.strip = e.strip := by
  have hS : d.S = e.S := h.S.trans g.S.symm
  have hW : d.W = e.W := by have := h.W; have := g.W; omega
  have hH : d.H = e.H := by have := h.H; have := g.H; omega
  have h1 : d.U = e.U := h.U.trans g.U.symm
  have h2 : d.X = e.X := h.X.trans g.X.symm
  have h3 : d.Y = e.Y := h.Y.trans g.Y.symm
  have h4 : d.M = e.M := h.M.trans g.M.symm
  have h5 : d.sh = e.sh := by rw [h.sh, g.sh, hS]
  have h6 : d.px = e.px := by rw [h.px, g.px, hW, hH]
  unfold R34.strip
  rw [h1, h2, h3, hW, hH, h4, hS, h5, h6]
theorem strip_more {ps : List PN34} {q : PN34} {la lb : List R34} (ha : la.length = ps.length) (hb : lb.length = (ps ++ [q]).length) (ka : ∀ (j : Nat) (p : PN34) (d : R34), ps[j]? = some p → la[j]? = some d → Like34 j p d) (kb : ∀ (j : Nat) (p : PN34) (d : R34), (ps ++ [q])[j]? = some p → lb[j]? = some d → Like34 j p d) : ∃ d, lb[la.length]? = some d ∧ Like34 la.length q d ∧ lb.map R34.strip = la.map R34.strip ++ [d.strip] := by
  have hb' : lb.length = la.length + 1 := by rw [hb, ha]; simp
  obtain ⟨d, hd⟩ : ∃ d, lb[la.length]? = some d := ⟨_, List.getElem?_eq_getElem (by omega)⟩
  refine ⟨d, hd, kb _ q d (by rw [ha]; simp) hd, ?_⟩
  apply List.ext_getElem?
  intro j
  rw [List.getElem?_map]
  by_cases hj : j < la.length
  · rw [List.getElem?_append_left (by simpa using hj), List.getElem?_map]
    obtain ⟨a, hA⟩ : ∃ a, la[j]? = some a := ⟨_, List.getElem?_eq_getElem hj⟩
    obtain ⟨b, hB⟩ : ∃ b, lb[j]? = some b := ⟨_, List.getElem?_eq_getElem (by omega)⟩
    obtain ⟨p, hP⟩ : ∃ p, ps[j]? = some p := ⟨_, List.getElem?_eq_getElem (by omega)⟩
    rw [hA, hB]
    have h1 := ka j p a hP hA
    have h2 := kb j p b (by rw [List.getElem?_append_left (by omega)]; exact hP) hB
    simp only [Option.map_some]
    rw [like_strip h2 h1]
  · by_cases hj2 : j = la.length
    · subst hj2
      rw [hd, List.getElem?_append_right (by simp)]
      simp
    · rw [List.getElem?_eq_none (by omega), List.getElem?_eq_none (by simp; omega)]
      rfl
/-- a window more, that isn't mapped: the same screen. -/
theorem pixD_unmapped {ps : List PN34} {q : PN34} {la lb : List R34} (hl : 1 ≤ la.length) (hM : q.M = false) (ha : la.length = ps.length) (hb : lb.length = (ps ++ [q]).length) (ka : ∀ (j : Nat) (p : PN34) (d : R34), ps[j]? = some p → la[j]? = some d → Like34 j p d) (kb : ∀ (j : Nat) (p : PN34) (d : R34), (ps ++ [q])[j]? = some p → lb[j]? = some d → Like34 j p d) (RW RH : Nat) (x y : Int) : pixD lb RW RH x y = pixD la RW RH x y := by
  obtain ⟨d, hd, hk, e⟩ := strip_more ha hb ka kb
  have hua := upR_of (by omega) ka
  have hub := upR_of (by omega) kb
  have hU := hub la.length d hd hl
  rw [← pixD_strip hub (by rw [hb]; simp), e, ← pixD_strip hua hl]
  refine pixD_more hua.strip (by simpa using hl) ?_ (by rw [List.length_map]; exact hU) RW RH x y
  show d.M = false
  rw [hk.M, hM, decide_eq_false (by omega)]
  rfl
/-- grids whose pixels are the same. -/
theorem px_ext {W H : Nat} {p q : List Int} (hp : p.length = W * H) (hq : q.length = W * H) (h : ∀ x y : Nat, x < W → y < H → Gr.gat W H p x y = Gr.gat W H q x y) : p = q := by
  apply List.ext_getElem (by omega)
  intro i h1 h2
  have hW : 0 < W := by
    rcases Nat.eq_zero_or_pos W with h0 | h0
    · rw [h0, Nat.zero_mul] at hp; omega
    · exact h0
  have hx : i % W < W := Nat.mod_lt _ hW
  have hy : i / W < H := Nat.div_lt_of_lt_mul (show i < W * H by rw [← hp]; exact h1)
  have := h (i % W) (i / W) hx hy
  unfold Gr.gat at this
  have hb : Gr.hasB W H ((i % W : Nat) : Int) ((i / W : Nat) : Int) = true := (Gr.has_iff _ _ _ _).2 ⟨Int.natCast_nonneg _, Int.ofNat_lt.2 hx, Int.natCast_nonneg _, Int.ofNat_lt.2 hy⟩
  rw [if_pos hb, if_pos hb] at this
  simp only [Int.toNat_natCast] at this
  rw [show i / W * W + i % W = i from by have := Nat.div_add_mod i W; rw [Nat.mul_comm]; exact this, List.getD_eq_getElem?_getD, List.getD_eq_getElem?_getD, List.getElem?_eq_getElem h1, List.getElem?_eq_getElem h2] at this
  simpa using this
end Go.Proofs.YtdaedkolpfkdjaaGreat
end

section
namespace Go.Proofs.YtdaedkolpfkdjaaGreat
open Go.RowKit Go.Maps Go.Shelf

/-- is a place one of a rectangle's? -/
def oneB (r : RC) (x y : Int) : Bool := decide (r.X ≤ x) && decide (x < r.X + r.W) && decide (r.Y ≤ y) && decide (y < r.Y + r.H)
def smallR (r : RC) : Prop := ((0 ≤ r.X ∧ r.X ≤ 50) ∧ 0 ≤ r.Y ∧ r.Y ≤ 50) ∧ (0 ≤ r.W ∧ r.W ≤ 50) ∧ 0 ≤ r.H ∧ r.H ≤ 50
end Go.Proofs.YtdaedkolpfkdjaaGreat
end

section
namespace Go.Proofs.YtdaedkolpfkdjaaGreat
open Go.RowKit Go.Maps Go.Shelf

/-- what is told below a window of the first k windows. -/
def blwT (l : List DW) (f : Nat) (p : Int) (k : Nat) : List Int := ((l.zipIdx.take k).filter (fun q => decide (q.1.P = p) && q.1.M)).flatMap fun q => blwD l f q.2
end Go.Proofs.YtdaedkolpfkdjaaGreat
end

section
namespace Go.Proofs.YtdaedkolpfkdjaaGreat
open Go.RowKit Go.Maps Go.Shelf

end Go.Proofs.YtdaedkolpfkdjaaGreat
end

section
namespace Go.Proofs.YtdaedkolpfkdjaaGreat
open Go.RowKit Go.Maps Go.Shelf

/-- the document's windows, as its answers read them. -/
structure Doc34 (w : World) (A : Option Addr) (n : Nat) (l : List R34) (RW RH : Nat) : Prop where
 recs : RdF R34.cells 9 w A n l
 shapes : ∀ d ∈ l, RdR w d.A d.n d.sh
 pix : MX w l
 up : UpR l
 ok : ∀ d ∈ l, DWok d.dw
 root : ∃ r, l[0]? = some r ∧ r.W = RW ∧ r.H = RH ∧ r.S = false
 few : 1 ≤ n ∧ n ≤ 7
 area : ∀ d ∈ l, d.np = d.W * d.H ∧ d.W ≤ 128 ∧ d.H ≤ 128 ∧ Gr.Pix d.px
theorem Doc34.below {w w' : World} {A : Option Addr} {n : Nat} {l : List R34} {RW RH : Nat} (h : Doc34 w A n l RW RH) (hb : Below w.heap.size w w') : Doc34 w' A n l RW RH :=
 ⟨h.recs.below hb, fun d hd => (h.shapes d hd).below hb, h.pix.below hb, h.up, h.ok, h.root, h.few, h.area⟩
theorem Doc34.len {w : World} {A : Option Addr} {n : Nat} {l : List R34} {RW RH : Nat} (h : Doc34 w A n l RW RH) : l.length = n := h.recs.1
def topV (l : List R34) (RW RH : Nat) (x y : Int) : Value := if rectP RW RH x y then .tuple #[.int .i64 (topI l x y), .int .i64 (topL l x y).1, .int .i64 (topL l x y).2] else .tuple #[.int .i64 (-1), .int .i64 0, .int .i64 0]
end Go.Proofs.YtdaedkolpfkdjaaGreat
end

section
namespace Go.Proofs.YtdaedkolpfkdjaaGreat
open Go.RowKit Go.Maps Go.Shelf

theorem rd_nou8s {w : World} {A : Option Addr} {n : Nat} {px : List Int} (h : Rd w A n (Gr.U8 px)) {B : Nat} {t : TypeId} {cs : Array Value} (hB : Blk w B t cs) (hno : ∀ (j : Nat) (x : Int), cs[j]? ≠ some (.int .u8 x)) (i : Nat) (u : Value) : Rd (w.setCell ⟨B, i, none⟩ u) A n (Gr.U8 px) := by
 refine h.far' (p := ⟨B, i, none⟩) (fun hn a ha e => ?_) u
 obtain ⟨b, off, e1, _, hc⟩ := h.2 hn
 rw [e1] at ha
 cases ha
 dsimp only at e
 subst e
 have hl := h.1
 match px, hl with
 | [], hl => simp [Gr.U8] at hl; omega
 | x :: l, _ =>
  have := hc 0 (.int .u8 x) rfl
  rw [hB.cell] at this
  exact hno _ _ this
theorem grid_no8s (W H : Int) (A : Option Addr) (n c : Nat) : ∀ (j : Nat) (x : Int), (#[.int .i64 W, .int .i64 H, .slice A n c] : Array Value)[j]? ≠ some (.int .u8 x) := fun j x => by
 match j with
 | 0 => simp
 | 1 => simp
 | 2 => simp
 | j + 3 => simp
theorem rd_nou32s {w : World} {A : Option Addr} {n : Nat} {l : List Int} (h : Rd w A n (U32 l)) {B : Nat} {t : TypeId} {cs : Array Value} (hB : Blk w B t cs) (hno : ∀ (j : Nat) (x : Int), cs[j]? ≠ some (.int .u32 x)) (i : Nat) (u : Value) : Rd (w.setCell ⟨B, i, none⟩ u) A n (U32 l) := by
 refine h.far' (p := ⟨B, i, none⟩) (fun hn a ha e => ?_) u
 obtain ⟨b, off, e1, _, hc⟩ := h.2 hn
 rw [e1] at ha
 cases ha
 dsimp only at e
 subst e
 have hl := h.1
 match l, hl with
 | [], hl => simp [U32] at hl; omega
 | x :: l, _ =>
  have := hc 0 (.int .u32 x) rfl
  rw [hB.cell] at this
  exact hno _ _ this
theorem grid_no32s (W H : Int) (A : Option Addr) (n c : Nat) : ∀ (j : Nat) (x : Int), (#[.int .i64 W, .int .i64 H, .slice A n c] : Array Value)[j]? ≠ some (.int .u32 x) := fun j x => by
 match j with
 | 0 => simp
 | 1 => simp
 | 2 => simp
 | j + 3 => simp
set_option maxRecDepth 100000 in
set_option maxHeartbeats 8000000 in
theorem show_any (v cv : Value) (RW RH : Nat) (ns : Nodes) (bx : Int → Option VB) (og : Int → Int × Int) (nc : Nat) (cs : Its) (W H : Nat) (w : World) (hv : SeenG w v RW RH ns bx og) (hn : TreeOk ns) (hc : CanvasIs w cv nc cs) (hW : 1 ≤ W ∧ W ≤ 128) (hH : 1 ≤ H ∧ H ≤ 128) :
 Calls Tryz.prog 35 #[v, cv, .int .i64 W, .int .i64 H] w fun e w' => ∃ A c px, e = .returned (.tuple #[.agg #[.int .i64 W, .int .i64 H, .slice A (W * H) c], .int .i64 0]) ∧ Rd w' A (W * H) (Gr.U8 px) ∧ W * H ≤ c ∧ ScrAt RW RH W H ns bx cs (ordW ns bx 1) px ∧ Below w.heap.size w w' := by
 have hWH := Gr.mul_le_128 hW.2 hH.2
 have HV := Lib.hid hv
 have HN := Lib.hid hn
 have HC := Lib.hid hc
 obtain ⟨Av, nv, cw, mv, rfl⟩ := hv.form
 obtain ⟨mb, rfl⟩ : ∃ mb, cv = .agg #[.map mb] := by obtain ⟨mb, e, _⟩ := hc; exact ⟨mb, e⟩
 clear hv hn hc
 have xb := bal (bal (bal (bre w) (.cells #[.slice Av nv cw, .map mv] 52)) (.cells #[.map mb] 67)) (.cells #[.int .i64 0, .int .i64 0, .slice none 0 0] 75)
 have xv := ((Blk.new w 52 #[.slice Av nv cw, .map mv]).alloc (.cells #[.map mb] 67)).alloc (.cells #[.int .i64 0, .int .i64 0, .slice none 0 0] 75)
 have xc := (blk_new2 w (.cells #[.slice Av nv cw, .map mv] 52) 67 #[.map mb]).alloc (.cells #[.int .i64 0, .int .i64 0, .slice none 0 0] 75)
 have xr := blk_new3 w (.cells #[.slice Av nv cw, .map mv] 52) (.cells #[.map mb] 67) 75 #[.int .i64 0, .int .i64 0, .slice none 0 0]
 go_enter Tryz.func35, Tryz.ntmps35
 go_upto_region 1 with fail
 obtain ⟨X, hX⟩ : ∃ X, ((w.alloc (.cells #[.slice Av nv cw, .map mv] 52)).alloc (.cells #[.map mb] 67)).alloc (.cells #[.int .i64 0, .int .i64 0, .slice none 0 0] 75) = X := ⟨_, rfl⟩
 rw [hX] at xb xv xc xr ⊢
 have HB := Lib.hid xb
 have KV := Lib.hid xv
 have KC := Lib.hid xc
 have KR := Lib.hid xr
 clear xb xv xc xr hX
 go_wp2_with fail
 refine (Gr.new_any W H 0 _ hW hH).mono ?_
 rintro e w1 ⟨A1, c1, rfl, hr1, hc1, _, hb1⟩
 have ha1 := bal (bre w1) (.cells #[.int .i64 W, .int .i64 H, .slice A1 (W * H) c1] 75)
 have x8 := Blk.new w1 75 #[.int .i64 W, .int .i64 H, .slice A1 (W * H) c1]
 have xb := bstep (bstep HB.out hb1) ha1
 have xv := (KV.out.belowS hb1).belowS ha1
 have xc := (KC.out.belowS hb1).belowS ha1
 have xr := (KR.out.belowS hb1).belowS ha1
 have xd := hr1.below ha1
 have HLT := Lib.hid (show w.heap.size + 1 + 1 < w1.heap.size from Nat.lt_of_lt_of_le KR.out.lt hb1.size)
 clear hb1 ha1 hr1
 go_upto_region 2 with fail
 obtain ⟨g, hg⟩ : ∃ g, w1.heap.size = g := ⟨_, rfl⟩
 obtain ⟨Y, hY⟩ : ∃ Y, w1.alloc (.cells #[.int .i64 W, .int .i64 H, .slice A1 (W * H) c1] 75) = Y := ⟨_, rfl⟩
 have hlt := HLT.out
 rw [hY] at xb xv xc xr x8 xd ⊢
 rw [hg] at x8 hlt ⊢
 replace HB := Lib.hid xb
 replace KV := Lib.hid xv
 replace KC := Lib.hid xc
 replace KR := Lib.hid xr
 have KG := Lib.hid x8
 have HR1 := Lib.hid xd
 replace HLT := Lib.hid hlt
 have v0 := xv.cellV (i := 0) (v := .slice Av nv cw) rfl
 have v1 := xv.cellV (i := 1) (v := .map mv) rfl
 clear xb xv xc xr x8 xd hY hg hlt
 go_wp2_with fail
 refine (HV.out.below HB.out).windows.mono ?_
 rintro e w4 ⟨u, rfl, ho4, hid4, hln4, hb4⟩
 obtain ⟨Au, cu, rfl, _⟩ := own_form ho4
 have HRO := Lib.hid (Rd.of_own ho4)
 have HID := Lib.hid hid4
 have HFO := Lib.hid hln4
 replace HB := Lib.hid (bstep HB.out hb4)
 replace KV := Lib.hid (KV.out.belowS hb4)
 replace KC := Lib.hid (KC.out.belowS hb4)
 replace KR := Lib.hid (KR.out.belowS hb4)
 replace KG := Lib.hid (KG.out.belowS hb4)
 replace HR1 := Lib.hid (HR1.out.below hb4)
 clear ho4 hid4 hln4 hb4 v0 v1
 obtain ⟨ord, hord⟩ : ∃ o, ordW ns bx 1 = o := ⟨_, rfl⟩
 have HOE := Lib.hid hord
 have hro := HRO.out
 have hido := HID.out
 have hfo := HFO.out
 rw [hord] at hro hido hfo ⊢
 replace HRO := Lib.hid hro
 replace HID := Lib.hid hido
 obtain ⟨N, hN⟩ : ∃ N, ord.length = N := ⟨_, rfl⟩
 rw [hN] at hfo hro ⊢
 replace HRO := Lib.hid hro
 have HNL := Lib.hid hN
 clear hro hido hord hN HFO
 go_wp2_with fail
 go_loopw [32, 13, 14, 15, 16, 17, 18] (fun i _ _ _ _ _ _ wr => ∃ (k : Nat) (A2 : Option Addr) (c2 : Nat) (px : List Int), i = .int .i64 k ∧ k ≤ N ∧ W * H ≤ c2 ∧ Blk wr g 75 #[.int .i64 W, .int .i64 H, .slice A2 (W * H) c2] ∧ Rd wr A2 (W * H) (Gr.U8 px) ∧ ScrAt RW RH W H ns bx cs (ord.take k) px ∧ (Blk wr w.heap.size 52 #[.slice Av nv cw, .map mv] ∧ Blk wr (w.heap.size + 1) 67 #[.map mb] ∧ Blk wr (w.heap.size + 1 + 1) 75 #[.int .i64 0, .int .i64 0, .slice none 0 0]) ∧ Rd wr Au N (U32 ord) ∧ Below w.heap.size w wr) (fun i _ _ _ _ _ _ _ => N - (intOf i).toNat)
 case atStart => exact ⟨0, A1, c1, _, rfl, by omega, hc1, KG.out, HR1.out, ScrAt.start, ⟨KV.out, KC.out, KR.out⟩, HRO.out, HB.out⟩
 case round =>
  obtain ⟨k, A2, c2, px, rfl, hk, hc2, hkg, hr2, hsc, ⟨hkv, hkc, hkr⟩, hro, hbr⟩ := hrel
  replace KG := Lib.hid hkg
  have HR2 := Lib.hid hr2
  have HSC := Lib.hid hsc
  replace KV := Lib.hid hkv
  replace KC := Lib.hid hkc
  replace KR := Lib.hid hkr
  replace HRO := Lib.hid hro
  replace HB := Lib.hid hbr
  clear hkg hr2 hsc hkv hkc hkr hbr
  by_cases hlt : k < N
  ·
   obtain ⟨id, hid⟩ : ∃ id, ord[k]? = some id := ⟨_, List.getElem?_eq_getElem (by rw [HNL.out]; exact hlt)⟩
   obtain ⟨b, off, rfl, hbl, hcl⟩ := hro.2 (by omega)
   have q0 := hcl k (.int .u32 id) (by simp [U32, hid])
   have HII := Lib.hid (HID.out id (List.mem_of_getElem? hid))
   have HTK := Lib.hid (take_snocI' hid)
   have k0 : (0 : Int) ≤ (k : Int) := by omega
   have k1 : (k : Int) < (N : Int) := by omega
   clear hro hcl hid
   have v0 := KV.out.cellV (i := 0) (v := .slice Av nv cw) rfl
   have v1 := KV.out.cellV (i := 1) (v := .map mv) rfl
   go_wp2_with fail
   refine ((HV.out.below HB.out).clip HN.out id HII.out).mono ?_
   rintro e w5 ⟨u5, out, rfl, hreg, hpl, _, hlo, hb5⟩
   obtain ⟨Ao, co, rfl, hro5, hcan, hnr, hcnt⟩ := hreg
   have ha5 := bal (bre w5) (.cells #[.slice Ao out.length co] 57)
   have xk5 := Blk.new w5 57 #[.slice Ao out.length co]
   have HPL := Lib.hid hpl
   have HLO := Lib.hid hnr
   have HCT := Lib.hid hcnt
   have HRR := Lib.hid hro5
   have K5 := Lib.hid xk5
   replace KV := Lib.hid (KV.out.belowS hb5)
   replace KC := Lib.hid (KC.out.belowS hb5)
   replace KR := Lib.hid (KR.out.belowS hb5)
   replace KG := Lib.hid (KG.out.belowS hb5)
   replace HR2 := Lib.hid (HR2.out.below hb5)
   replace HRO := Lib.hid (HRO.out.below hb5)
   replace HB := Lib.hid (bstep HB.out hb5)
   replace KV := Lib.hid (KV.out.belowS ha5)
   replace KC := Lib.hid (KC.out.belowS ha5)
   replace KR := Lib.hid (KR.out.belowS ha5)
   replace KG := Lib.hid (KG.out.belowS ha5)
   replace HR2 := Lib.hid (HR2.out.below ha5)
   replace HRO := Lib.hid (HRO.out.below ha5)
   replace HRR := Lib.hid (HRR.out.below ha5)
   replace HB := Lib.hid (bstep HB.out ha5)
   clear hb5 ha5 hro5 xk5 hpl hnr hcnt hcan hlo q0 v0 v1
   go_upto_region 8 with fail
   have z0 := KV.out
   have z1 := KC.out
   have z2 := KR.out
   have z3 := KG.out
   have z4 := HR2.out
   have z5 := HRO.out
   have z6 := HB.out
   have z7 := HRR.out
   have z8 := K5.out
   obtain ⟨g5, hg5⟩ : ∃ g, w5.heap.size = g := ⟨_, rfl⟩
   obtain ⟨X5, hX5⟩ : ∃ X, w5.alloc (.cells #[.slice Ao out.length co] 57) = X := ⟨_, rfl⟩
   rw [hX5] at z0 z1 z2 z3 z4 z5 z6 z7 z8 ⊢
   try rw [hg5] at z8
   rw [hg5]
   replace KV := Lib.hid z0
   replace KC := Lib.hid z1
   replace KR := Lib.hid z2
   replace KG := Lib.hid z3
   replace HR2 := Lib.hid z4
   replace HRO := Lib.hid z5
   replace HB := Lib.hid z6
   replace HRR := Lib.hid z7
   replace K5 := Lib.hid z8
   clear hX5 z0 z1 z2 z3 z4 z5 z6 z7 z8
   clear hg5
   have c0 := KC.out.cellV (i := 0) (v := .map mb) rfl
   go_wp2_with fail
   refine (cgrid_any (.agg #[.map mb]) nc cs id _ HII.out (HC.out.below HB.out)).mono ?_
   rintro e w6 ⟨rfl, hb6⟩
   obtain ⟨it, hit⟩ : ∃ it, (cs id).getD zIT = it := ⟨_, rfl⟩
   obtain ⟨tb, htb⟩ : ∃ tb, (cs id).isSome = tb := ⟨_, rfl⟩
   rw [hit, htb]
   have HIT := Lib.hid hit
   have HTB := Lib.hid htb
   obtain ⟨iW, iH, iA, inn, ic, iG, iw, ib, ip⟩ := it
   have ha6 := bal (bre w6) (.cells #[.int .i64 iW, .int .i64 iH, .slice iA inn ic] 75)
   have xk6 := Blk.new w6 75 #[.int .i64 iW, .int .i64 iH, .slice iA inn ic]
   have K6 := Lib.hid xk6
   have hit' : (⟨iW, iH, iA, inn, ic, iG, iw, ib, ip⟩ : IT).g = .agg #[.int .i64 iW, .int .i64 iH, .slice iA inn ic] := rfl
   rw [hit']
   replace KV := Lib.hid (KV.out.belowS hb6)
   replace KC := Lib.hid (KC.out.belowS hb6)
   replace KR := Lib.hid (KR.out.belowS hb6)
   replace KG := Lib.hid (KG.out.belowS hb6)
   replace HR2 := Lib.hid (HR2.out.below hb6)
   replace HRO := Lib.hid (HRO.out.below hb6)
   replace HRR := Lib.hid (HRR.out.below hb6)
   replace HB := Lib.hid (bstep HB.out hb6)
   replace K5 := Lib.hid (K5.out.belowS hb6)
   replace KV := Lib.hid (KV.out.belowS ha6)
   replace KC := Lib.hid (KC.out.belowS ha6)
   replace KR := Lib.hid (KR.out.belowS ha6)
   replace KG := Lib.hid (KG.out.belowS ha6)
   replace HR2 := Lib.hid (HR2.out.below ha6)
   replace HRO := Lib.hid (HRO.out.below ha6)
   replace HRR := Lib.hid (HRR.out.below ha6)
   replace HB := Lib.hid (bstep HB.out ha6)
   replace K5 := Lib.hid (K5.out.belowS ha6)
   clear hb6 ha6 xk6 hit htb hit' c0
   go_upto_region 9 with fail
   have z0 := KV.out
   have z1 := KC.out
   have z2 := KR.out
   have z3 := KG.out
   have z4 := HR2.out
   have z5 := HRO.out
   have z6 := HB.out
   have z7 := HRR.out
   have z8 := K5.out
   have z9 := K6.out
   obtain ⟨g6, hg6⟩ : ∃ g, w6.heap.size = g := ⟨_, rfl⟩
   obtain ⟨X6, hX6⟩ : ∃ X, w6.alloc (.cells #[.int .i64 iW, .int .i64 iH, .slice iA inn ic] 75) = X := ⟨_, rfl⟩
   rw [hX6] at z0 z1 z2 z3 z4 z5 z6 z7 z8 z9 ⊢
   try rw [hg6] at z9
   rw [hg6]
   replace KV := Lib.hid z0
   replace KC := Lib.hid z1
   replace KR := Lib.hid z2
   replace KG := Lib.hid z3
   replace HR2 := Lib.hid z4
   replace HRO := Lib.hid z5
   replace HB := Lib.hid z6
   replace HRR := Lib.hid z7
   replace K5 := Lib.hid z8
   replace K6 := Lib.hid z9
   clear hX6 z0 z1 z2 z3 z4 z5 z6 z7 z8 z9
   clear hg6
   have v0 := KV.out.cellV (i := 0) (v := .slice Av nv cw) rfl
   have v1 := KV.out.cellV (i := 1) (v := .map mv) rfl
   go_wp2_with fail
   refine ((HV.out.below HB.out).origin HN.out id HII.out).mono ?_
   rintro e w7 ⟨rfl, hb7⟩
   have hco := coordB_og (HV.out.below HB.out) HN.out id
   obtain ⟨ox, hox⟩ : ∃ o, (ogG ns bx id).1 = o := ⟨_, rfl⟩
   obtain ⟨oy, hoy⟩ : ∃ o, (ogG ns bx id).2 = o := ⟨_, rfl⟩
   obtain ⟨ok, hok⟩ : ∃ o, (hasN ns id && vw ns bx id) = o := ⟨_, rfl⟩
   have HLY := Lib.hid (fun (l : List Int) (p : List Int) (it : IT) (h : ScrAt RW RH W H ns bx cs l p) (hi : cs id = some it) => h.lay hi HPL.out hco)
   have hly := HLY.out
   rw [hox, hoy] at hly
   rw [hox, hoy, hok]
   replace HLY := Lib.hid hly
   have HOK := Lib.hid hok
   have ha7 := bal (bre w7) (.cells #[.int .i64 ox, .int .i64 oy] 179)
   have xk7 := Blk.new w7 179 #[.int .i64 ox, .int .i64 oy]
   have K7 := Lib.hid xk7
   replace KV := Lib.hid (KV.out.belowS hb7)
   replace KC := Lib.hid (KC.out.belowS hb7)
   replace KR := Lib.hid (KR.out.belowS hb7)
   replace KG := Lib.hid (KG.out.belowS hb7)
   replace HR2 := Lib.hid (HR2.out.below hb7)
   replace HRO := Lib.hid (HRO.out.below hb7)
   replace HRR := Lib.hid (HRR.out.below hb7)
   replace HB := Lib.hid (bstep HB.out hb7)
   replace K5 := Lib.hid (K5.out.belowS hb7)
   replace K6 := Lib.hid (K6.out.belowS hb7)
   replace KV := Lib.hid (KV.out.belowS ha7)
   replace KC := Lib.hid (KC.out.belowS ha7)
   replace KR := Lib.hid (KR.out.belowS ha7)
   replace KG := Lib.hid (KG.out.belowS ha7)
   replace HR2 := Lib.hid (HR2.out.below ha7)
   replace HRO := Lib.hid (HRO.out.below ha7)
   replace HRR := Lib.hid (HRR.out.below ha7)
   replace HB := Lib.hid (bstep HB.out ha7)
   replace K5 := Lib.hid (K5.out.belowS ha7)
   replace K6 := Lib.hid (K6.out.belowS ha7)
   clear hb7 ha7 xk7 hox hoy hok hly hco v0 v1
   go_upto_region 10 with fail
   have z0 := KV.out
   have z1 := KC.out
   have z2 := KR.out
   have z3 := KG.out
   have z4 := HR2.out
   have z5 := HRO.out
   have z6 := HB.out
   have z7 := HRR.out
   have z8 := K5.out
   have z9 := K6.out
   have z10 := K7.out
   obtain ⟨g7, hg7⟩ : ∃ g, w7.heap.size = g := ⟨_, rfl⟩
   obtain ⟨X7, hX7⟩ : ∃ X, w7.alloc (.cells #[.int .i64 ox, .int .i64 oy] 179) = X := ⟨_, rfl⟩
   rw [hX7] at z0 z1 z2 z3 z4 z5 z6 z7 z8 z9 z10 ⊢
   try rw [hg7] at z10
   rw [hg7]
   replace KV := Lib.hid z0
   replace KC := Lib.hid z1
   replace KR := Lib.hid z2
   replace KG := Lib.hid z3
   replace HR2 := Lib.hid z4
   replace HRO := Lib.hid z5
   replace HB := Lib.hid z6
   replace HRR := Lib.hid z7
   replace K5 := Lib.hid z8
   replace K6 := Lib.hid z9
   replace K7 := Lib.hid z10
   clear hX7 z0 z1 z2 z3 z4 z5 z6 z7 z8 z9 z10
   clear hg7
   have s5 := K5.out.cellV (i := 0) (v := .slice Ao out.length co) rfl
   go_wp2_with fail
   refine (empty_any Ao out.length co _).mono ?_
   rintro e w8 ⟨rfl, hb8⟩
   replace KV := Lib.hid (KV.out.belowS hb8)
   replace KC := Lib.hid (KC.out.belowS hb8)
   replace KR := Lib.hid (KR.out.belowS hb8)
   replace KG := Lib.hid (KG.out.belowS hb8)
   replace HR2 := Lib.hid (HR2.out.below hb8)
   replace HRO := Lib.hid (HRO.out.below hb8)
   replace HRR := Lib.hid (HRR.out.below hb8)
   replace HB := Lib.hid (bstep HB.out hb8)
   replace K5 := Lib.hid (K5.out.belowS hb8)
   replace K6 := Lib.hid (K6.out.belowS hb8)
   replace K7 := Lib.hid (K7.out.belowS hb8)
   clear hb8 s5
   have HSK := Lib.hid (fun (h : cs id = none ∨ ∀ x y, shG RW RH ns bx x y id = false) => HSC.out.skip h)
   obtain ⟨ev, hev⟩ : ∃ v, decide (out.length = 0) = v := ⟨_, rfl⟩
   rw [hev]
   have HEV := Lib.hid hev
   clear hev
   cases ev
   case true =>
    as_aux_lemma =>
     have h0 : out = [] := List.length_eq_zero_iff.1 (of_decide_eq_true HEV.out)
     have hno : ∀ x y, shG RW RH ns bx x y id = false := fun x y => by
      rw [← HPL.out, h0]
      rfl
     have HSN := Lib.hid (HSK.out (.inr hno))
     clear hno h0
     go_wp2_with fail
     go_roundw
     case rel => exact ⟨k + 1, A2, c2, px, by go_num, by omega, hc2, KG.out, HR2.out, by rw [HTK.out]; exact HSN.out, ⟨KV.out, KC.out, KR.out⟩, HRO.out, HB.out⟩
     case measure => simp [intOf]; omega
   case false =>
    cases tb
    case false =>
     as_aux_lemma =>
      have hno : cs id = none := by have h1 := HTB.out; simpa using h1
      have HSN := Lib.hid (HSK.out (.inl hno))
      clear hno
      go_wp2_with fail
      go_roundw
      case rel => exact ⟨k + 1, A2, c2, px, by go_num, by omega, hc2, KG.out, HR2.out, by rw [HTK.out]; exact HSN.out, ⟨KV.out, KC.out, KR.out⟩, HRO.out, HB.out⟩
      case measure => simp [intOf]; omega
    case true =>
     cases ok
     case false =>
      as_aux_lemma =>
       have hno : ∀ x y, shG RW RH ns bx x y id = false := fun x y => by
        unfold shG
        rw [Bool.and_eq_false_iff]
        refine .inr (decide_eq_false fun e => ?_)
        obtain ⟨h1, h2⟩ := topF_vw (bx := bx) HN.out (belowAt ns 1).length 1 x y (hasN_root ns) (vw_root HN.out)
        have h3 := HOK.out
        rw [e] at h3
        unfold topN at h3
        rw [h1, h2] at h3
        cases h3
       have HSN := Lib.hid (HSK.out (.inr hno))
       clear hno
       go_wp2_with fail
       go_roundw
       case rel => exact ⟨k + 1, A2, c2, px, by go_num, by omega, hc2, KG.out, HR2.out, by rw [HTK.out]; exact HSN.out, ⟨KV.out, KC.out, KR.out⟩, HRO.out, HB.out⟩
       case measure => simp [intOf]; omega
     case true =>
      as_aux_lemma =>
       have hci : cs id = some ⟨iW, iH, iA, inn, ic, iG, iw, ib, ip⟩ := by
        have h1 := HIT.out
        have h2 := HTB.out
        cases hc : cs id with
        | none => rw [hc] at h2; cases h2
        | some i => rw [hc] at h1; exact congrArg some h1
       obtain ⟨_, _, _, hci2⟩ := HC.out.below HB.out
       have hio := hci2 id _ hci
       have HIO := Lib.hid hio
       have HCI := Lib.hid hci
       have t0 := KG.out.cellV (i := 0) (v := .int .i64 W) rfl
       have t1 := KG.out.cellV (i := 1) (v := .int .i64 H) rfl
       have t2 := KG.out.cellV (i := 2) (v := .slice A2 (W * H) c2) rfl
       have s0 := K6.out.cellV (i := 0) (v := .int .i64 iW) rfl
       have s1 := K6.out.cellV (i := 1) (v := .int .i64 iH) rfl
       have s2 := K6.out.cellV (i := 2) (v := .slice iA inn ic) rfl
       have p0 := K7.out.cellV (i := 0) (v := .int .i64 ox) rfl
       have p1 := K7.out.cellV (i := 1) (v := .int .i64 oy) rfl
       have s5 := K5.out.cellV (i := 0) (v := .slice Ao out.length co) rfl
       clear hci hci2 hio
       go_wp2_with fail
       refine (Gr.lay_any W H iW iH px ip A2 iA Ao (W * H) c2 inn ic out.length co out ox oy _ hc2 rfl hW.2 hH.2 HR2.out HIO.out.area HIO.out.wide HIO.out.high HIO.out.rd HLO.out HRR.out HCT.out).mono ?_
       rintro e w9 ⟨A9, c9, rfl, hr9, hc9, hb9⟩
       have HR9 := Lib.hid hr9
       have HSN := Lib.hid (HLY.out _ _ _ HSC.out HCI.out)
       replace KV := Lib.hid (KV.out.belowS hb9)
       replace KC := Lib.hid (KC.out.belowS hb9)
       replace KR := Lib.hid (KR.out.belowS hb9)
       replace KG := Lib.hid (KG.out.belowS hb9)
       replace HRO := Lib.hid (HRO.out.below hb9)
       replace HB := Lib.hid (bstep HB.out hb9)
       clear hb9 hr9 t0 t1 t2 s0 s1 s2 p0 p1 s5
       have t0 := KG.out.cellV (i := 0) (v := .int .i64 W) rfl
       have t1 := KG.out.cellV (i := 1) (v := .int .i64 H) rfl
       have t2 := KG.out.cellV (i := 2) (v := .slice A2 (W * H) c2) rfl
       have f0 := KG.out.frozen 0
       have f1 := KG.out.frozen 1
       have f2 := KG.out.frozen 2
       have lg := KG.out.lt
       go_wp2_with fail
       have x8 := ((KG.out.set_ 0 (.int .i64 W)).set_ 1 (.int .i64 H)).set_ 2 (.slice A9 (W * H) c9)
       have hne : ∀ b, b < g → b ≠ g := fun b h e => by omega
       have hlt := HLT.out
       have far := fun {t : TypeId} {cs : Array Value} {b : Nat} (h : Blk w9 b t cs) (hb : b < g) => ((h.far (p := ⟨g, 0, none⟩) (hne b hb) (.int .i64 W)).far (p := ⟨g, 1, none⟩) (hne b hb) (.int .i64 H)).far (p := ⟨g, 2, none⟩) (hne b hb) (.slice A9 (W * H) c9)
       have xv := far KV.out (by omega)
       have xc := far KC.out (by omega)
       have xr := far KR.out (by omega)
       have hgw : w.heap.size ≤ g := by omega
       have xb := bset (bset (bset HB.out (p := ⟨g, 0, none⟩) hgw (.int .i64 W)) (p := ⟨g, 1, none⟩) hgw (.int .i64 H)) (p := ⟨g, 2, none⟩) hgw (.slice A9 (W * H) c9)
       have x9 := rd_nou8s (rd_nou8s (rd_nou8s HR9.out KG.out (grid_no8s _ _ _ _ _) 0 (.int .i64 W)) (KG.out.set_ 0 (.int .i64 W)) (grid_no8s _ _ _ _ _) 1 (.int .i64 H)) ((KG.out.set_ 0 (.int .i64 W)).set_ 1 (.int .i64 H)) (grid_no8s _ _ _ _ _) 2 (.slice A9 (W * H) c9)
       have xo := rd_nou32s (rd_nou32s (rd_nou32s HRO.out KG.out (grid_no32s _ _ _ _ _) 0 (.int .i64 W)) (KG.out.set_ 0 (.int .i64 W)) (grid_no32s _ _ _ _ _) 1 (.int .i64 H)) ((KG.out.set_ 0 (.int .i64 W)).set_ 1 (.int .i64 H)) (grid_no32s _ _ _ _ _) 2 (.slice A9 (W * H) c9)
       go_roundw
       case rel => exact ⟨k + 1, A9, c9, _, by go_num, by omega, hc9, x8, x9, by rw [HTK.out]; exact HSN.out, ⟨xv, xc, xr⟩, xo, xb⟩
       case measure => simp [intOf]; omega
  ·
   obtain rfl : k = N := by omega
   have k1 : ¬ (k : Int) < (k : Int) := by omega
   have hall : ord.take k = ord := List.take_of_length_le (by rw [HNL.out]; exact Nat.le_refl _)
   have hsc := HSC.out
   rw [hall] at hsc
   have HSF := Lib.hid hsc
   clear hsc hall hro
   have t0 := KG.out.cellV (i := 0) (v := .int .i64 W) rfl
   have t1 := KG.out.cellV (i := 1) (v := .int .i64 H) rfl
   have t2 := KG.out.cellV (i := 2) (v := .slice A2 (W * H) c2) rfl
   have r0 := KR.out.cellV (i := 0) (v := .int .i64 0) rfl
   have r1 := KR.out.cellV (i := 1) (v := .int .i64 0) rfl
   have r2 := KR.out.cellV (i := 2) (v := .slice none 0 0) rfl
   have f0 := KR.out.frozen 0
   have f1 := KR.out.frozen 1
   have f2 := KR.out.frozen 2
   have lr := KR.out.lt
   go_wp2_with fail
   have h9 := ((KR.out.set_ 0 (.int .i64 W)).set_ 1 (.int .i64 H)).set_ 2 (.slice A2 (W * H) c2)
   have q0 := h9.cellV (i := 0) (v := .int .i64 W) rfl
   have q1 := h9.cellV (i := 1) (v := .int .i64 H) rfl
   have q2 := h9.cellV (i := 2) (v := .slice A2 (W * H) c2) rfl
   have hle : w.heap.size ≤ w.heap.size + 1 + 1 := by omega
   have xb := bset (bset (bset HB.out (p := ⟨w.heap.size + 1 + 1, 0, none⟩) hle (.int .i64 W)) (p := ⟨w.heap.size + 1 + 1, 1, none⟩) hle (.int .i64 H)) (p := ⟨w.heap.size + 1 + 1, 2, none⟩) hle (.slice A2 (W * H) c2)
   have xr := rd_nou8s (rd_nou8s (rd_nou8s HR2.out KR.out (grid_no8s _ _ _ _ _) 0 (.int .i64 W)) (KR.out.set_ 0 (.int .i64 W)) (grid_no8s _ _ _ _ _) 1 (.int .i64 H)) ((KR.out.set_ 0 (.int .i64 W)).set_ 1 (.int .i64 H)) (grid_no8s _ _ _ _ _) 2 (.slice A2 (W * H) c2)
   exact bodyPost_ret (v := .tuple #[.agg #[.int .i64 W, .int .i64 H, .slice A2 (W * H) c2], .int .i64 0]) (by simp [results, Tryz.results35, go_sem, q0, q1, q2]) rfl ⟨A2, c2, rfl, px, xr, hc2, HOE.out.symm ▸ HSF.out, xb⟩
end Go.Proofs.YtdaedkolpfkdjaaGreat
end
