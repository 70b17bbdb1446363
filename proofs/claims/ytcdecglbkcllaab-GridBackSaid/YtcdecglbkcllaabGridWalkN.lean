/-
  The walk of the law GridSets.
-/
import Derived.Test.YtcdecglbkcllaabGridWalkM
namespace Go.Proofs.Ytcdecglbkcllaab
open Go.RowKit

section
variable {P : Program} {ops : Array Oper} {Q : Exit → Act → World → Prop} {md : Region.Mode} {S : World → Prop}
/-- an operation of a region is taken first; its slot is named. -/
theorem take_at (i d : Nat) (v : Value) {oi : Oper} {fuel : Nat} {listed : Array Bool} {ts : List Value} {w : World} (hi : ops[i]? = some oi) (hd : oi.dst = some d)
    (hs : Region.noSelect ops = true) (hf : Region.free md ops listed i = true) (hr : (Region.ready md ops listed).contains i = true)
    (hQ : ∀ c a w, Q (.panic c) (a.put oi.dst v) w → Q (.panic c) a w) (hy : YieldsIf P ops S oi v ⟨ts.toArray, []⟩) (hS : S w)
    (h : wpAnyH P md ops Q S fuel (listed.setIfInBounds i true) ⟨(ts.set d v).toArray, []⟩ w) : wpAnyH P md ops Q S (fuel + 1) listed ⟨ts.toArray, []⟩ w :=
  wpAnyH_take hi hs hf hr hQ hy hS (by rw [hd]; simpa [Act.put] using h)
end

/-- a slice of triples reads as these numbers. -/
def Rd3 (w : World) (A : Option Addr) (n : Nat) (ls : List (Int × Int × Int)) : Prop :=
  ls.length = n ∧ (0 < n → ∃ b off, A = some ⟨b, off, none⟩ ∧ b < w.heap.size ∧ ∀ k t, ls[k]? = some t → w.cell? ⟨b, off + k * 3, none⟩ = some (.int .i64 t.1) ∧ w.cell? ⟨b, off + k * 3 + 1, none⟩ = some (.int .i64 t.2.1) ∧ w.cell? ⟨b, off + k * 3 + 1 + 1, none⟩ = some (.int .i64 t.2.2))
theorem Rd3.below {w w' : World} {A : Option Addr} {n : Nat} {ls : List (Int × Int × Int)} (h : Rd3 w A n ls) (hb : Below w.heap.size w w') : Rd3 w' A n ls :=
  ⟨h.1, fun hn => by
    obtain ⟨b, off, e, hl, hc⟩ := h.2 hn
    exact ⟨b, off, e, Nat.lt_of_lt_of_le hl hb.size, fun k t hk => ⟨(hb.cell (p := ⟨b, off + k * 3, none⟩) hl).trans (hc k t hk).1, (hb.cell (p := ⟨b, off + k * 3 + 1, none⟩) hl).trans (hc k t hk).2.1, (hb.cell (p := ⟨b, off + k * 3 + 1 + 1, none⟩) hl).trans (hc k t hk).2.2⟩⟩⟩

/-- the pixel that a number is. -/
def px8 (n : Int) : Int := IntKind.u8.wrap n
/-- pixel by pixel set. -/
def setsL (W H : Nat) (px : List Int) (ls : List (Int × Int × Int)) : List Int := ls.foldl (fun p t => gset W H p t.1 t.2.1 (px8 t.2.2)) px

set_option maxRecDepth 100000 in
set_option maxHeartbeats 2000000 in
theorem gridSets_skip (a b : Int) (A : Option Addr) (m c : Nat) (L : Option Addr) (nl cl : Nat) (w : World) (h : 60 < nl ∨ 300 < m) :
    Calls Try.prog 5 #[.agg #[.int .u8 a, .int .u8 b, .slice A m c], .slice L nl cl] w fun e w' => e = .returned (.bool true) ∧ Below w.heap.size w w' := by
  by_cases h1 : 60 < nl
  · have d1 : decide ((60 : Int) < (nl : Int)) = true := by simp; omega
    clear h
    go_enter Try.func5, Try.ntmps5
    go_wp2_with (go_at_call 13; refine (awake_any _).mono ?_; rintro e w3 ⟨rfl, hb3⟩)
    go_ret
    exact ⟨rfl, bstep (bal (bre w) _) hb3⟩
  · have d1 : decide ((60 : Int) < (nl : Int)) = false := by simp; omega
    have d2 : decide ((300 : Int) < (m : Int)) = true := by simp; omega
    clear h
    go_enter Try.func5, Try.ntmps5
    go_wp2_with (go_at_call 13; refine (awake_any _).mono ?_; rintro e w3 ⟨rfl, hb3⟩)
    go_ret
    exact ⟨rfl, bstep (bal (bre w) _) hb3⟩

/-- the law's plane, in its box. -/
structure PInv (a b : Int) (A : Option Addr) (m c : Nat) (w wr : World) : Prop where
  bx : Blk wr w.heap.size 41 #[.int .u8 a, .int .u8 b, .slice A m c]
  bb : Below w.heap.size w wr
section
variable {a b : Int} {A : Option Addr} {m c : Nat} {w wr w' : World}
theorem PInv.new : PInv a b A m c w (w.alloc (.cells #[.int .u8 a, .int .u8 b, .slice A m c] 41)) := ⟨Blk.new w _ _, bal (bre w) _⟩
theorem PInv.below (h : PInv a b A m c w wr) (hb : Below wr.heap.size wr w') : PInv a b A m c w w' := ⟨h.bx.belowS hb, bstep h.bb hb⟩
theorem PInv.alloc (h : PInv a b A m c w wr) (o : Obj) : PInv a b A m c w (wr.alloc o) := h.below (bal (bre _) _)
theorem PInv.set_ (h : PInv a b A m c w wr) {p : Addr} (hp : w.heap.size < p.block) (u : Value) : PInv a b A m c w (wr.setCell p u) := ⟨h.bx.far (by omega) _, bset h.bb (by omega) _⟩
theorem PInv.cells (h : PInv a b A m c w wr) : wr.cell? ⟨w.heap.size, 0, none⟩ = some (.int .u8 a) ∧ wr.cell? ⟨w.heap.size, 1, none⟩ = some (.int .u8 b) ∧ wr.cell? ⟨w.heap.size, 2, none⟩ = some (.slice A m c) :=
  ⟨h.bx.cellV rfl, h.bx.cellV rfl, h.bx.cellV rfl⟩
theorem PInv.lt (h : PInv a b A m c w wr) : w.heap.size < wr.heap.size := h.bx.lt
end
theorem Blk.new' {w : World} {g : Nat} {t : TypeId} {cs : Array Value} (h : g = w.heap.size) : Blk (w.alloc (.cells cs t)) g t cs := by
  subst h
  exact Blk.new w t cs
theorem Blk.undrew {w : World} {g : Nat} {t : TypeId} {cs : Array Value} (h : Blk w g t cs) : Blk w.drew g t cs := h
theorem Blk.three {w : World} {g : Nat} {t : TypeId} {x y z u v r : Value} (h : Blk w g t #[x, y, z]) : Blk (((w.setCell ⟨g, 0, none⟩ u).setCell ⟨g, 1, none⟩ v).setCell ⟨g, 2, none⟩ r) g t #[u, v, r] := ((h.set_ 0 u).set_ 1 v).set_ 2 r
theorem Blk.three0 {w : World} {g : Nat} {t : TypeId} {u v r : Value} (h : Blk w g t #[.int .i64 0, .int .i64 0, .slice none 0 0]) : Blk (((w.setCell ⟨g, 0, none⟩ u).setCell ⟨g, 1, none⟩ v).setCell ⟨g, 2, none⟩ r) g t #[u, v, r] := h.three
theorem size_three (w : World) (p q r : Addr) (a b c : Value) : (((w.setCell p a).setCell q b).setCell r c).heap.size = w.heap.size := by simp [World.setCell]
theorem Blk.new3 {w : World} {p q r : Addr} {a b c : Value} {t : TypeId} {cs : Array Value} : Blk ((((w.setCell p a).setCell q b).setCell r c).alloc (.cells cs t)) w.heap.size t cs := Blk.new' (size_three w p q r a b c).symm
theorem Blk.far3 {w : World} {g g' : Nat} {t : TypeId} {cs : Array Value} {u v r : Value} (h : Blk w g t cs) (hn : g ≠ g') : Blk (((w.setCell ⟨g', 0, none⟩ u).setCell ⟨g', 1, none⟩ v).setCell ⟨g', 2, none⟩ r) g t cs := ((h.far (p := ⟨g', 0, none⟩) hn u).far (p := ⟨g', 1, none⟩) hn v).far (p := ⟨g', 2, none⟩) hn r
theorem Blk.six {w : World} {g : Nat} {t : TypeId} {x y z : Value} (h : Blk w g t #[x, y, z]) : w.cell? ⟨g, 0, none⟩ = some x ∧ w.cell? ⟨g, 1, none⟩ = some y ∧ w.cell? ⟨g, 2, none⟩ = some z ∧ w.frozen? ⟨g, 0, none⟩ = false ∧ w.frozen? ⟨g, 1, none⟩ = false ∧ w.frozen? ⟨g, 2, none⟩ = false ∧ g < w.heap.size :=
  ⟨h.cellV rfl, h.cellV rfl, h.cellV rfl, h.frozen 0, h.frozen 1, h.frozen 2, h.lt⟩
theorem Rd.undrew {w : World} {A : Option Addr} {n : Nat} {vs : List Value} (h : Rd w A n vs) : Rd w.drew A n vs := h.alike rfl
theorem Rd.alloc {w : World} {A : Option Addr} {n : Nat} {vs : List Value} (h : Rd w A n vs) (o : Obj) : Rd (w.alloc o) A n vs := h.below (bal (bre w) o)
theorem Rd.far3 {w : World} {A : Option Addr} {n g' : Nat} {vs : List Value} {u v r : Value} (h : Rd w A n vs) (hn : ∀ a : Addr, A = some a → a.block ≠ g') : Rd (((w.setCell ⟨g', 0, none⟩ u).setCell ⟨g', 1, none⟩ v).setCell ⟨g', 2, none⟩ r) A n vs := ((h.far (p := ⟨g', 0, none⟩) hn u).far (p := ⟨g', 1, none⟩) hn v).far (p := ⟨g', 2, none⟩) hn r
theorem PInv.undrew {a b : Int} {A : Option Addr} {m c : Nat} {w wr : World} (h : PInv a b A m c w wr) : PInv a b A m c w wr.drew := ⟨h.bx, h.bb.drew⟩
theorem PInv.three {a b : Int} {A : Option Addr} {m c : Nat} {w wr : World} {g : Nat} {u v r : Value} (h : PInv a b A m c w wr) (hg : w.heap.size < g) : PInv a b A m c w (((wr.setCell ⟨g, 0, none⟩ u).setCell ⟨g, 1, none⟩ v).setCell ⟨g, 2, none⟩ r) :=
  ((h.set_ (p := ⟨g, 0, none⟩) hg u).set_ (p := ⟨g, 1, none⟩) hg v).set_ (p := ⟨g, 2, none⟩) hg r

/-- a grid in a box: its block, its pixels, elsewhere. -/
structure GB (t : TypeId) (W H N : Nat) (px : List Int) (lo g : Nat) (A : Option Addr) (c : Nat) (wr : World) : Prop where
  bg : Blk wr g t #[.int .i64 W, .int .i64 H, .slice A N c]
  rd : Rd wr A N (U8 px)
  fr : Fr lo A
  lg : lo ≤ g
theorem GB.below {t : TypeId} {W H N : Nat} {px : List Int} {lo g : Nat} {A : Option Addr} {c : Nat} {wr w' : World} (h : GB t W H N px lo g A c wr) (hb : Below wr.heap.size wr w') : GB t W H N px lo g A c w' := ⟨h.bg.belowS hb, h.rd.below hb, h.fr, h.lg⟩

/-- what the law's three grids hold while pixels are set. -/
structure SInv (W H N : Nat) (P0 px : List Int) (g5 g6 g7 : Nat) (A5 : Option Addr) (c5 : Nat) (Ag : Option Addr) (cg : Nat) (Ad : Option Addr) (cd : Nat) (wr : World) : Prop where
  b5 : Blk wr g5 25 #[.int .i64 W, .int .i64 H, .slice Ag N cg]
  b6 : Blk wr g6 36 #[.int .i64 W, .int .i64 H, .slice Ad N cd]
  b7 : Blk wr g7 25 #[.int .i64 W, .int .i64 H, .slice A5 N c5]
  r5 : Rd wr Ag N (U8 px)
  r6 : Rd wr Ad N (U8 px)
  r7 : Rd wr A5 N (U8 P0)
  kc : N ≤ cg
  n5 : ∀ x : Addr, Ag = some x → x.block ≠ g5 ∧ x.block ≠ g6
  n6 : ∀ x : Addr, Ad = some x → x.block ≠ g5 ∧ x.block ≠ g6
  n7 : ∀ x : Addr, A5 = some x → x.block ≠ g5 ∧ x.block ≠ g6
section
variable {W H N : Nat} {P0 px : List Int} {g5 g6 g7 : Nat} {A5 : Option Addr} {c5 : Nat} {Ag : Option Addr} {cg : Nat} {Ad : Option Addr} {cd : Nat} {wr w' : World}
theorem SInv.below (h : SInv W H N P0 px g5 g6 g7 A5 c5 Ag cg Ad cd wr) (hb : Below wr.heap.size wr w') : SInv W H N P0 px g5 g6 g7 A5 c5 Ag cg Ad cd w' :=
  ⟨h.b5.belowS hb, h.b6.belowS hb, h.b7.belowS hb, h.r5.below hb, h.r6.below hb, h.r7.below hb, h.kc, h.n5, h.n6, h.n7⟩
theorem SInv.sets (h : SInv W H N P0 px g5 g6 g7 A5 c5 Ag cg Ad cd wr) {qx : List Int} {A' : Option Addr} {c' : Nat} {A'' : Option Addr} {c'' : Nat} (r5 : Rd wr A' N (U8 qx)) (r6 : Rd wr A'' N (U8 qx)) (k5 : N ≤ c') (n5 : ∀ x : Addr, A' = some x → x.block ≠ g5 ∧ x.block ≠ g6) (n6 : ∀ x : Addr, A'' = some x → x.block ≠ g5 ∧ x.block ≠ g6) (h56 : g5 ≠ g6) (h75 : g7 ≠ g5) (h76 : g7 ≠ g6) :
    SInv W H N P0 qx g5 g6 g7 A5 c5 A' c' A'' c'' ((((((wr.setCell ⟨g5, 0, none⟩ (.int .i64 W)).setCell ⟨g5, 1, none⟩ (.int .i64 H)).setCell ⟨g5, 2, none⟩ (.slice A' N c')).setCell ⟨g6, 0, none⟩ (.int .i64 W)).setCell ⟨g6, 1, none⟩ (.int .i64 H)).setCell ⟨g6, 2, none⟩ (.slice A'' N c'')) :=
  ⟨h.b5.three.far3 h56, (h.b6.far3 (Ne.symm h56)).three, (h.b7.far3 h75).far3 h76, (r5.far3 fun x ex => (n5 x ex).1).far3 fun x ex => (n5 x ex).2, (r6.far3 fun x ex => (n6 x ex).1).far3 fun x ex => (n6 x ex).2, (h.r7.far3 fun x ex => (h.n7 x ex).1).far3 fun x ex => (h.n7 x ex).2, k5, n5, n6, h.n7⟩
end
theorem px8_bd (n : Int) : 0 ≤ px8 n ∧ px8 n < 256 := by
  unfold px8 IntKind.wrap
  simp [IntKind.bits, IntKind.signed]
  omega
theorem gset_pix {W H : Nat} {px : List Int} (x y p : Int) (h : Pix px) (hp : 0 ≤ p ∧ p < 256) : Pix (gset W H px x y p) := by
  unfold gset
  split
  · intro q hq
    rcases List.mem_or_eq_of_mem_set hq with h1 | rfl
    · exact h q h1
    · exact hp
  · exact h
theorem setsL_pix (W H : Nat) (ls : List (Int × Int × Int)) : ∀ {px : List Int}, Pix px → Pix (setsL W H px ls) := by
  induction ls with
  | nil => intro px h; exact h
  | cons t ls ih => intro px h; exact ih (gset_pix _ _ _ h (px8_bd _))
theorem pl_pix (N m : Nat) {ps : List Int} (h : ∀ z ∈ ps, 0 ≤ z ∧ z < 256) : Pix (pl N ps m) := by
  intro q hq
  unfold pl at hq
  simp only [List.mem_map, List.mem_range] at hq
  obtain ⟨i, _, rfl⟩ := hq
  split
  · rw [List.getD_eq_getElem?_getD]
    cases hh : ps[i]? with
    | none => exact ⟨by decide, by decide⟩
    | some z => exact h z (List.mem_of_getElem? hh)
  · exact ⟨by decide, by decide⟩

theorem s_cells {W H N : Nat} {P0 px : List Int} {g5 g6 g7 : Nat} {A5 : Option Addr} {c5 : Nat} {Ag : Option Addr} {cg : Nat} {Ad : Option Addr} {cd : Nat} {wr : World} {a b : Int} {A : Option Addr} {m c : Nat} {w : World} (h : SInv W H N P0 px g5 g6 g7 A5 c5 Ag cg Ad cd wr) (p : PInv a b A m c w wr) :
    wr.cell? ⟨g5, 0, none⟩ = some (.int .i64 W) ∧ wr.cell? ⟨g5, 1, none⟩ = some (.int .i64 H) ∧ wr.cell? ⟨g5, 2, none⟩ = some (.slice Ag N cg) ∧ wr.cell? ⟨g6, 0, none⟩ = some (.int .i64 W) ∧ wr.cell? ⟨g6, 1, none⟩ = some (.int .i64 H) ∧ wr.cell? ⟨g6, 2, none⟩ = some (.slice Ad N cd) ∧ wr.cell? ⟨g7, 0, none⟩ = some (.int .i64 W) ∧ wr.cell? ⟨g7, 1, none⟩ = some (.int .i64 H) ∧ wr.cell? ⟨g7, 2, none⟩ = some (.slice A5 N c5) ∧ wr.cell? ⟨w.heap.size, 0, none⟩ = some (.int .u8 a) ∧ wr.cell? ⟨w.heap.size, 1, none⟩ = some (.int .u8 b) ∧ wr.cell? ⟨w.heap.size, 2, none⟩ = some (.slice A m c) :=
  ⟨h.b5.cellV rfl, h.b5.cellV rfl, h.b5.cellV rfl, h.b6.cellV rfl, h.b6.cellV rfl, h.b6.cellV rfl, h.b7.cellV rfl, h.b7.cellV rfl, h.b7.cellV rfl, p.cells⟩
theorem setsL_snoc (W H : Nat) (P0 : List Int) (ls : List (Int × Int × Int)) (t : Int × Int × Int) : setsL W H P0 (ls ++ [t]) = gset W H (setsL W H P0 ls) t.1 t.2.1 (px8 t.2.2) := by simp [setsL]

set_option maxRecDepth 100000 in
set_option maxHeartbeats 8000000 in
theorem gridSets_go (a b : Int) (W H : Nat) (ps : List Int) (A : Option Addr) (m c : Nat) (L : Option Addr) (nl cl : Nat) (ls : List (Int × Int × Int)) (w : World) (ha : a % 16 + 1 = W) (hb : b % 16 + 1 = H) (ha0 : 0 ≤ a ∧ a ≤ 255) (hb0 : 0 ≤ b ∧ b ≤ 255) (hm : m ≤ 300) (hr : Rd w A m (U8 ps)) (hnl : nl ≤ 60) (hls : Rd3 w L nl ls) (hz : ∀ z ∈ ps, 0 ≤ z ∧ z < 256) :
    Calls Try.prog 5 #[.agg #[.int .u8 a, .int .u8 b, .slice A m c], .slice L nl cl] w fun e w' => e = .returned (.bool true) ∧ Below w.heap.size w w' := by
  have d1 : decide ((60 : Int) < (nl : Int)) = false := by simp; omega
  have d2 : decide ((300 : Int) < (m : Int)) = false := by simp; omega
  have hW : 1 ≤ W ∧ W ≤ 16 := by omega
  have hH : 1 ≤ H ∧ H ≤ 16 := by omega
  have HR := Lib.hid hr
  have HA := Lib.hid ha
  have HB := Lib.hid hb
  have HL := Lib.hid hls
  clear hr ha hb hls
  go_enter Try.func5, Try.ntmps5
  go_upto_region 3 with fail
  have I0 := Lib.hid (PInv.new (a := a) (b := b) (A := A) (m := m) (c := c) (w := w))
  obtain ⟨Z, hZ⟩ : ∃ Z, w.alloc (.cells #[.int .u8 a, .int .u8 b, .slice A m c] 41) = Z := ⟨_, rfl⟩
  rw [hZ] at I0 ⊢
  clear hZ
  obtain ⟨q0, q1, q2⟩ := I0.out.cells
  have zz := I0.out.lt
  go_cut [5, 6] (fun s5 s6 wx => ∃ (g5 g6 : Nat) (A5 A6 : Option Addr) (c5 c6 : Nat), s5 = .pointer (some ⟨g5, 0, none⟩) ∧ s6 = .pointer (some ⟨g6, 0, none⟩) ∧ GB 25 W H (W * H) (pl (W * H) ps m) (w.heap.size + 1) g5 A5 c5 wx ∧ W * H ≤ c5 ∧ GB 36 W H (W * H) (pl (W * H) ps m) (w.heap.size + 1) g6 A6 c6 wx ∧ PInv a b A m c w wx ∧ g5 ≠ g6 ∧ (∀ x : Addr, A5 = some x → x.block ≠ g5 ∧ x.block ≠ g6) ∧ (∀ x : Addr, A6 = some x → x.block ≠ g5 ∧ x.block ≠ g6))
  case first =>
    go_region_held3 (fun w' => w'.cell? ⟨w.heap.size, 0, none⟩ = some (.int .u8 a) ∧ w'.cell? ⟨w.heap.size, 1, none⟩ = some (.int .u8 b) ∧ w'.cell? ⟨w.heap.size, 2, none⟩ = some (.slice A m c))
      ((refine PInv.cells ?_; repeat (first | with_reducible exact J2.out | with_reducible exact J1.out | with_reducible exact I0.out | with_reducible refine PInv.alloc ?_ _ | with_reducible refine PInv.undrew ?_ | with_reducible refine PInv.three ?_ (by omega))))
      (first | (go_at_call 17; refine (make_any a b W H ps A m c _ HA.out HB.out ha0 hb0 hm (by refine Rd.undrew ?_; repeat (first | with_reducible exact HR.out.below I0.out.bb | with_reducible refine Rd.alloc ?_ _))).mono ?_; rintro e w1 ⟨A1, c1, rfl, r1, k1, f1, b1⟩; have R1 := Lib.hid r1; have F1 := Lib.hid f1; have B1 := Lib.hid b1; have J1 : Hid (PInv a b A m c w w1) := Lib.hid (by refine PInv.below ?_ b1; refine PInv.undrew ?_; repeat (first | with_reducible exact I0.out | with_reducible refine PInv.alloc ?_ _)); have zz1 := J1.out.lt; have hs1 := b1.size; simp at hs1; clear r1 f1 b1) | (go_at_call 20; refine (ref_fr a b W H ps A m c _ HA.out HB.out ha0 hb0 hm (by repeat (first | with_reducible exact HR.out.below J1.out.bb | with_reducible refine Rd.alloc ?_ _))).mono ?_; rintro e w2 ⟨A2, c2, rfl, r2, f2, b2⟩; have R2 := Lib.hid r2; have F2 := Lib.hid f2; have B2 := Lib.hid b2; have J2 : Hid (PInv a b A m c w w2) := Lib.hid (by refine PInv.below ?_ b2; repeat (first | with_reducible exact J1.out | with_reducible refine PInv.alloc ?_ _)); have zz2 := J2.out.lt; have hs2 := b2.size; (try simp at hs2); (first | (have y5 : Blk w2 (Z.heap.size) 25 #[.int .i64 0, .int .i64 0, .slice none 0 0] := ((Blk.new Z 25 #[.int .i64 0, .int .i64 0, .slice none 0 0]).belowS (undrewX (w := Z.alloc (.cells #[.int .i64 0, .int .i64 0, .slice none 0 0] 25)) B1.out rfl rfl rfl rfl)).belowS b2; obtain ⟨y50, y51, y52, y53, y54, y55, y56⟩ := y5.six; clear y5; have y57 := Nat.ne_of_lt y56; have y58 := Nat.ne_of_gt y56) | (have y5 : Blk w2 (Z.heap.size) 25 #[.int .i64 0, .int .i64 0, .slice none 0 0] := (((Blk.new Z 25 #[.int .i64 0, .int .i64 0, .slice none 0 0]).belowS (undrewX (w := Z.alloc (.cells #[.int .i64 0, .int .i64 0, .slice none 0 0] 25)) B1.out rfl rfl rfl rfl)).alloc (.cells #[.int .i64 0, .int .i64 0, .slice none 0 0] 36)).belowS b2; obtain ⟨y50, y51, y52, y53, y54, y55, y56⟩ := y5.six; clear y5; have y57 := Nat.ne_of_lt y56; have y58 := Nat.ne_of_gt y56) | (have y5 : Blk w2 (Z.heap.size) 25 #[.int .i64 0, .int .i64 0, .slice none 0 0] := (((Blk.new Z 25 #[.int .i64 0, .int .i64 0, .slice none 0 0]).alloc (.cells #[.int .i64 0, .int .i64 0, .slice none 0 0] 36)).belowS (undrewX (w := (Z.alloc (.cells #[.int .i64 0, .int .i64 0, .slice none 0 0] 25)).alloc (.cells #[.int .i64 0, .int .i64 0, .slice none 0 0] 36)) B1.out rfl rfl rfl rfl)).belowS b2; obtain ⟨y50, y51, y52, y53, y54, y55, y56⟩ := y5.six; clear y5; have y57 := Nat.ne_of_lt y56; have y58 := Nat.ne_of_gt y56) | (have y5 : Blk w2 (Z.heap.size + 1) 25 #[.int .i64 0, .int .i64 0, .slice none 0 0] := ((Blk.new' (w := Z.alloc (.cells #[.int .i64 0, .int .i64 0, .slice none 0 0] 36)) (t := 25) (cs := #[.int .i64 0, .int .i64 0, .slice none 0 0]) (World.size_alloc Z (.cells #[.int .i64 0, .int .i64 0, .slice none 0 0] 36)).symm).belowS (undrewX (w := (Z.alloc (.cells #[.int .i64 0, .int .i64 0, .slice none 0 0] 36)).alloc (.cells #[.int .i64 0, .int .i64 0, .slice none 0 0] 25)) B1.out rfl rfl rfl rfl)).belowS b2; obtain ⟨y50, y51, y52, y53, y54, y55, y56⟩ := y5.six; clear y5; have y57 := Nat.ne_of_lt y56; have y58 := Nat.ne_of_gt y56) | (have y5 : Blk w2 (w1.heap.size) 25 #[.int .i64 0, .int .i64 0, .slice none 0 0] := ((Blk.new w1 25 #[.int .i64 0, .int .i64 0, .slice none 0 0]).belowS b2); obtain ⟨y50, y51, y52, y53, y54, y55, y56⟩ := y5.six; clear y5; have y57 := Nat.ne_of_lt y56; have y58 := Nat.ne_of_gt y56) | (have y5 : Blk w2 (w1.heap.size) 25 #[.int .i64 0, .int .i64 0, .slice none 0 0] := (((Blk.new w1 25 #[.int .i64 0, .int .i64 0, .slice none 0 0]).alloc (.cells #[.int .i64 0, .int .i64 0, .slice none 0 0] 36)).belowS b2); obtain ⟨y50, y51, y52, y53, y54, y55, y56⟩ := y5.six; clear y5; have y57 := Nat.ne_of_lt y56; have y58 := Nat.ne_of_gt y56) | (have y5 : Blk w2 (w1.heap.size + 1) 25 #[.int .i64 0, .int .i64 0, .slice none 0 0] := ((Blk.new' (w := w1.alloc (.cells #[.int .i64 0, .int .i64 0, .slice none 0 0] 36)) (t := 25) (cs := #[.int .i64 0, .int .i64 0, .slice none 0 0]) (World.size_alloc w1 (.cells #[.int .i64 0, .int .i64 0, .slice none 0 0] 36)).symm).belowS b2); obtain ⟨y50, y51, y52, y53, y54, y55, y56⟩ := y5.six; clear y5; have y57 := Nat.ne_of_lt y56; have y58 := Nat.ne_of_gt y56) | skip); (first | (have y6 : Blk w2 (Z.heap.size) 36 #[.int .i64 0, .int .i64 0, .slice none 0 0] := ((Blk.new Z 36 #[.int .i64 0, .int .i64 0, .slice none 0 0]).belowS (undrewX (w := Z.alloc (.cells #[.int .i64 0, .int .i64 0, .slice none 0 0] 36)) B1.out rfl rfl rfl rfl)).belowS b2; obtain ⟨y60, y61, y62, y63, y64, y65, y66⟩ := y6.six; clear y6; have y67 := Nat.ne_of_lt y66; have y68 := Nat.ne_of_gt y66) | (have y6 : Blk w2 (Z.heap.size) 36 #[.int .i64 0, .int .i64 0, .slice none 0 0] := (((Blk.new Z 36 #[.int .i64 0, .int .i64 0, .slice none 0 0]).belowS (undrewX (w := Z.alloc (.cells #[.int .i64 0, .int .i64 0, .slice none 0 0] 36)) B1.out rfl rfl rfl rfl)).alloc (.cells #[.int .i64 0, .int .i64 0, .slice none 0 0] 25)).belowS b2; obtain ⟨y60, y61, y62, y63, y64, y65, y66⟩ := y6.six; clear y6; have y67 := Nat.ne_of_lt y66; have y68 := Nat.ne_of_gt y66) | (have y6 : Blk w2 (Z.heap.size) 36 #[.int .i64 0, .int .i64 0, .slice none 0 0] := (((Blk.new Z 36 #[.int .i64 0, .int .i64 0, .slice none 0 0]).alloc (.cells #[.int .i64 0, .int .i64 0, .slice none 0 0] 25)).belowS (undrewX (w := (Z.alloc (.cells #[.int .i64 0, .int .i64 0, .slice none 0 0] 36)).alloc (.cells #[.int .i64 0, .int .i64 0, .slice none 0 0] 25)) B1.out rfl rfl rfl rfl)).belowS b2; obtain ⟨y60, y61, y62, y63, y64, y65, y66⟩ := y6.six; clear y6; have y67 := Nat.ne_of_lt y66; have y68 := Nat.ne_of_gt y66) | (have y6 : Blk w2 (Z.heap.size + 1) 36 #[.int .i64 0, .int .i64 0, .slice none 0 0] := ((Blk.new' (w := Z.alloc (.cells #[.int .i64 0, .int .i64 0, .slice none 0 0] 25)) (t := 36) (cs := #[.int .i64 0, .int .i64 0, .slice none 0 0]) (World.size_alloc Z (.cells #[.int .i64 0, .int .i64 0, .slice none 0 0] 25)).symm).belowS (undrewX (w := (Z.alloc (.cells #[.int .i64 0, .int .i64 0, .slice none 0 0] 25)).alloc (.cells #[.int .i64 0, .int .i64 0, .slice none 0 0] 36)) B1.out rfl rfl rfl rfl)).belowS b2; obtain ⟨y60, y61, y62, y63, y64, y65, y66⟩ := y6.six; clear y6; have y67 := Nat.ne_of_lt y66; have y68 := Nat.ne_of_gt y66) | (have y6 : Blk w2 (w1.heap.size) 36 #[.int .i64 0, .int .i64 0, .slice none 0 0] := ((Blk.new w1 36 #[.int .i64 0, .int .i64 0, .slice none 0 0]).belowS b2); obtain ⟨y60, y61, y62, y63, y64, y65, y66⟩ := y6.six; clear y6; have y67 := Nat.ne_of_lt y66; have y68 := Nat.ne_of_gt y66) | (have y6 : Blk w2 (w1.heap.size) 36 #[.int .i64 0, .int .i64 0, .slice none 0 0] := (((Blk.new w1 36 #[.int .i64 0, .int .i64 0, .slice none 0 0]).alloc (.cells #[.int .i64 0, .int .i64 0, .slice none 0 0] 25)).belowS b2); obtain ⟨y60, y61, y62, y63, y64, y65, y66⟩ := y6.six; clear y6; have y67 := Nat.ne_of_lt y66; have y68 := Nat.ne_of_gt y66) | (have y6 : Blk w2 (w1.heap.size + 1) 36 #[.int .i64 0, .int .i64 0, .slice none 0 0] := ((Blk.new' (w := w1.alloc (.cells #[.int .i64 0, .int .i64 0, .slice none 0 0] 25)) (t := 36) (cs := #[.int .i64 0, .int .i64 0, .slice none 0 0]) (World.size_alloc w1 (.cells #[.int .i64 0, .int .i64 0, .slice none 0 0] 25)).symm).belowS b2); obtain ⟨y60, y61, y62, y63, y64, y65, y66⟩ := y6.six; clear y6; have y67 := Nat.ne_of_lt y66; have y68 := Nat.ne_of_gt y66) | skip); (try (have n1 : Z.heap.size ≠ w1.heap.size := Nat.ne_of_lt hs1; have n2 : w1.heap.size ≠ Z.heap.size := Nat.ne_of_gt hs1)); clear r2 f2 b2))
    all_goals
      go_wp2_with fail
      go_meet
      have hpos : 0 < W * H := Nat.mul_pos hW.1 hH.1
      have m1 : ∀ x : Addr, A1 = some x → _ ∧ x.block < w1.heap.size := fun x ex => ⟨F1.out x ex, R1.out.lt hpos x ex⟩
      have m2 : ∀ x : Addr, A2 = some x → _ ∧ x.block < w2.heap.size := fun x ex => ⟨F2.out x ex, R2.out.lt hpos x ex⟩
      (try simp only [World.size_drew, World.size_alloc] at m1)
      (try simp only [World.size_alloc] at m2)
      refine ⟨_, _, A1, A2, c1, c2, rfl, rfl, ⟨?_, ?_, ?_, ?_⟩, k1, ⟨?_, ?_, ?_, ?_⟩, ?_, ?_, ?_, ?_⟩
      · repeat (first | with_reducible exact Blk.new _ _ _ | with_reducible exact Blk.new' (World.size_alloc _ _).symm | with_reducible exact Blk.new3 | with_reducible refine Blk.three0 ?_ | (with_reducible refine Blk.far3 ?_ ?_; rotate_left; · omega) | with_reducible refine Blk.alloc ?_ _ | with_reducible refine Blk.undrew ?_ | with_reducible refine Blk.belowS ?_ B2.out | with_reducible refine Blk.belowS ?_ B1.out)
      · repeat (first | with_reducible exact R1.out | with_reducible exact R2.out | (with_reducible refine Rd.far3 ?_ ?_; rotate_left; · intro x ex; have h1 := m1 x ex; omega) | with_reducible refine Rd.alloc ?_ _ | with_reducible refine Rd.below ?_ B2.out)
      · exact fun x ex => by have h1 := m1 x ex; omega
      · omega
      · repeat (first | with_reducible exact Blk.new _ _ _ | with_reducible exact Blk.new' (World.size_alloc _ _).symm | with_reducible exact Blk.new3 | with_reducible refine Blk.three0 ?_ | (with_reducible refine Blk.far3 ?_ ?_; rotate_left; · omega) | with_reducible refine Blk.alloc ?_ _ | with_reducible refine Blk.undrew ?_ | with_reducible refine Blk.belowS ?_ B2.out | with_reducible refine Blk.belowS ?_ B1.out)
      · repeat (first | with_reducible exact R1.out | with_reducible exact R2.out | (with_reducible refine Rd.far3 ?_ ?_; rotate_left; · intro x ex; have h1 := m2 x ex; omega) | with_reducible refine Rd.alloc ?_ _ | with_reducible refine Rd.below ?_ B2.out)
      · exact fun x ex => by have h1 := m2 x ex; omega
      · omega
      · repeat (first | with_reducible exact J2.out | with_reducible refine PInv.alloc ?_ _ | with_reducible refine PInv.three ?_ (by omega))
      · omega
      · exact fun x ex => by have h1 := m1 x ex; constructor <;> omega
      · exact fun x ex => by have h1 := m2 x ex; constructor <;> omega
  case rest =>
    obtain ⟨g5, g6, A5, A6, c5, c6, rfl, rfl, G5, k5, G6, PP, ne56, n5, n6⟩ := hcut
    clear q0 q1 q2 zz I0
    obtain ⟨N, hNN⟩ : ∃ N, W * H = N := ⟨_, rfl⟩
    have HNN := Lib.hid hNN
    rw [hNN] at G5 k5 G6
    obtain ⟨P0, hP0⟩ : ∃ P0, pl N ps m = P0 := ⟨_, rfl⟩
    have HP0 := Lib.hid hP0
    rw [hP0] at G5 G6
    have gl5 := G5.bg.lt
    have gl6 := G6.bg.lt
    have lg5 := G5.lg
    have lg6 := G6.lg
    have x0 := G5.bg.cellV (i := 0) (v := .int .i64 W) rfl
    have x1 := G5.bg.cellV (i := 1) (v := .int .i64 H) rfl
    have x2 := G5.bg.cellV (i := 2) (v := .slice A5 N c5) rfl
    have PI := Lib.hid (PP.alloc (.cells #[.int .i64 W, .int .i64 H, .slice A5 N c5] 25))
    have SI := Lib.hid (SInv.mk (g7 := wc.heap.size) (G5.bg.alloc (.cells #[.int .i64 W, .int .i64 H, .slice A5 N c5] 25)) (G6.bg.alloc _) (Blk.new wc _ _) (G5.rd.alloc _) (G6.rd.alloc _) (G5.rd.alloc _) k5 n5 n6 n5)
    have NE := Lib.hid ne56
    clear G5 G6 PP n5 n6 hP0 hNN k5 ne56
    go_upto_region 5 with fail
    obtain ⟨Z1, hZ1⟩ : ∃ Z1, wc.alloc (.cells #[.int .i64 W, .int .i64 H, .slice A5 N c5] 25) = Z1 := ⟨_, rfl⟩
    have hz1 : Z1.heap.size = wc.heap.size + 1 := by rw [← hZ1]; simp
    obtain ⟨g7, hg7⟩ : ∃ g7, wc.heap.size = g7 := ⟨_, rfl⟩
    rw [hZ1] at PI SI ⊢
    rw [hg7] at SI gl5 gl6 hz1 ⊢
    clear hZ1 hg7 x0 x1 x2
    have h75 : g7 ≠ g5 := by omega
    have h76 : g7 ≠ g6 := by omega
    have H75 := Lib.hid h75
    have H76 := Lib.hid h76
    clear h75 h76
    go_wp2_with fail
    go_loopw [30] (fun i wr => ∃ (k : Nat) (Ag : Option Addr) (cg : Nat) (Ad : Option Addr) (cd : Nat), i = .int .i64 k ∧ k ≤ nl ∧ SInv W H N P0 (setsL W H P0 (ls.take k)) g5 g6 g7 A5 c5 Ag cg Ad cd wr ∧ PInv a b A m c w wr) (fun i _ => nl - (intOf i).toNat)
    case atStart => exact ⟨0, _, _, _, _, rfl, by omega, SI.out, PI.out⟩
    case round =>
      obtain ⟨k, Ag, cg, Ad, cd, rfl, hk, si, pi⟩ := hrel
      clear SI PI
      have SI := Lib.hid si
      have PI := Lib.hid pi
      have l5 := si.b5.lt
      have l6 := si.b6.lt
      have l7 := si.b7.lt
      have kc := si.kc
      clear si pi
      by_cases hlt : k < nl
      · obtain ⟨t, ht⟩ : ∃ t, ls[k]? = some t := ⟨_, List.getElem?_eq_getElem (by have := HL.out.1; omega)⟩
        obtain ⟨bL, offL, rfl, hbL, hcL⟩ := (HL.out.below PI.out.bb).2 (by omega)
        obtain ⟨e0, e1, e2⟩ := hcL k t ht
        have htk : ls.take (k + 1) = ls.take k ++ [t] := by rw [List.take_add_one, ht]; rfl
        have HTK := Lib.hid htk
        have k0 : (0 : Int) ≤ (k : Int) := by omega
        have k1 : (k : Int) < (nl : Int) := by omega
        clear hcL ht htk
        go_upto_region 8 with fail
        have S1 := Lib.hid (SI.out.below (bal (bre wr) (.cells #[.int .i64 t.1, .int .i64 t.2.1, .int .i64 t.2.2] 50)))
        have P1 := Lib.hid (PI.out.alloc (.cells #[.int .i64 t.1, .int .i64 t.2.1, .int .i64 t.2.2] 50))
        have bs := Blk.new wr 50 #[.int .i64 t.1, .int .i64 t.2.1, .int .i64 t.2.2]
        obtain ⟨V, hV⟩ : ∃ V, wr.alloc (.cells #[.int .i64 t.1, .int .i64 t.2.1, .int .i64 t.2.2] 50) = V := ⟨_, rfl⟩
        have hVs : V.heap.size = wr.heap.size + 1 := by rw [← hV]; simp
        obtain ⟨gs, hgs⟩ : ∃ gs, wr.heap.size = gs := ⟨_, rfl⟩
        rw [hV] at S1 P1 bs ⊢
        rw [hgs] at bs l5 l6 l7 hVs ⊢
        have BS := Lib.hid bs
        clear hV hgs e0 e1 e2 SI PI bs
        obtain ⟨s0, s1, s2, _, _, _, _⟩ := BS.out.six
        obtain ⟨x0, x1, x2, _, _, _, _⟩ := S1.out.b5.six
        obtain ⟨y0, y1, y2, _, _, _, _⟩ := S1.out.b6.six
        refine wp_region_noPanic ?_
        refine wp_region_held_drew (S := (fun w' => w'.cell? ⟨gs, 0, none⟩ = some (.int .i64 t.1) ∧ w'.cell? ⟨gs, 1, none⟩ = some (.int .i64 t.2.1) ∧ w'.cell? ⟨gs, 2, none⟩ = some (.int .i64 t.2.2))) (by kernel_rfl) ?_ (fun hHeld => ?_)
        · (try dsimp only)
          go_keep
        refine take_at 1 35 (.pointer (some ⟨gs, 0, none⟩)) rfl rfl (by kernel_rfl) (by kernel_rfl) (by kernel_rfl) (fun _ _ _ h => h) (Or.inl ⟨by rfl, ?_⟩) (by assumption) ?_
        · intro W0 hSw
          (try dsimp only at hSw)
          go_simp
        simp only [List.set_cons_zero, List.set_cons_succ]
        refine take_at 2 36 (.int .i64 t.1) rfl rfl (by kernel_rfl) (by kernel_rfl) (by kernel_rfl) (fun _ _ _ h => h) (Or.inl ⟨by rfl, ?_⟩) (by assumption) ?_
        · intro W0 hSw
          (try dsimp only at hSw)
          go_simp
        simp only [List.set_cons_zero, List.set_cons_succ]
        refine take_at 3 37 (.pointer (some ⟨gs, 1, none⟩)) rfl rfl (by kernel_rfl) (by kernel_rfl) (by kernel_rfl) (fun _ _ _ h => h) (Or.inl ⟨by rfl, ?_⟩) (by assumption) ?_
        · intro W0 hSw
          (try dsimp only at hSw)
          go_simp
        simp only [List.set_cons_zero, List.set_cons_succ]
        refine take_at 4 38 (.int .i64 t.2.1) rfl rfl (by kernel_rfl) (by kernel_rfl) (by kernel_rfl) (fun _ _ _ h => h) (Or.inl ⟨by rfl, ?_⟩) (by assumption) ?_
        · intro W0 hSw
          (try dsimp only at hSw)
          go_simp
        simp only [List.set_cons_zero, List.set_cons_succ]
        refine take_at 5 39 (.pointer (some ⟨gs, 2, none⟩)) rfl rfl (by kernel_rfl) (by kernel_rfl) (by kernel_rfl) (fun _ _ _ h => h) (Or.inl ⟨by rfl, ?_⟩) (by assumption) ?_
        · intro W0 hSw
          (try dsimp only at hSw)
          go_simp
        simp only [List.set_cons_zero, List.set_cons_succ]
        refine take_at 6 40 (.int .i64 t.2.2) rfl rfl (by kernel_rfl) (by kernel_rfl) (by kernel_rfl) (fun _ _ _ h => h) (Or.inl ⟨by rfl, ?_⟩) (by assumption) ?_
        · intro W0 hSw
          (try dsimp only at hSw)
          go_simp
        simp only [List.set_cons_zero, List.set_cons_succ]
        refine take_at 7 41 (.int .u8 (px8 t.2.2)) rfl rfl (by kernel_rfl) (by kernel_rfl) (by kernel_rfl) (fun _ _ _ h => h) (Or.inl ⟨by rfl, ?_⟩) (by assumption) ?_
        · intro W0 hSw
          (try dsimp only at hSw)
          go_simp
          rfl
        simp only [List.set_cons_zero, List.set_cons_succ]
        refine take_at 10 44 (.pointer (some ⟨gs, 0, none⟩)) rfl rfl (by kernel_rfl) (by kernel_rfl) (by kernel_rfl) (fun _ _ _ h => h) (Or.inl ⟨by rfl, ?_⟩) (by assumption) ?_
        · intro W0 hSw
          (try dsimp only at hSw)
          go_simp
        simp only [List.set_cons_zero, List.set_cons_succ]
        refine take_at 11 45 (.int .i64 t.1) rfl rfl (by kernel_rfl) (by kernel_rfl) (by kernel_rfl) (fun _ _ _ h => h) (Or.inl ⟨by rfl, ?_⟩) (by assumption) ?_
        · intro W0 hSw
          (try dsimp only at hSw)
          go_simp
        simp only [List.set_cons_zero, List.set_cons_succ]
        refine take_at 12 46 (.pointer (some ⟨gs, 1, none⟩)) rfl rfl (by kernel_rfl) (by kernel_rfl) (by kernel_rfl) (fun _ _ _ h => h) (Or.inl ⟨by rfl, ?_⟩) (by assumption) ?_
        · intro W0 hSw
          (try dsimp only at hSw)
          go_simp
        simp only [List.set_cons_zero, List.set_cons_succ]
        refine take_at 13 47 (.int .i64 t.2.1) rfl rfl (by kernel_rfl) (by kernel_rfl) (by kernel_rfl) (fun _ _ _ h => h) (Or.inl ⟨by rfl, ?_⟩) (by assumption) ?_
        · intro W0 hSw
          (try dsimp only at hSw)
          go_simp
        simp only [List.set_cons_zero, List.set_cons_succ]
        refine take_at 14 48 (.pointer (some ⟨gs, 2, none⟩)) rfl rfl (by kernel_rfl) (by kernel_rfl) (by kernel_rfl) (fun _ _ _ h => h) (Or.inl ⟨by rfl, ?_⟩) (by assumption) ?_
        · intro W0 hSw
          (try dsimp only at hSw)
          go_simp
        simp only [List.set_cons_zero, List.set_cons_succ]
        refine take_at 15 49 (.int .i64 t.2.2) rfl rfl (by kernel_rfl) (by kernel_rfl) (by kernel_rfl) (fun _ _ _ h => h) (Or.inl ⟨by rfl, ?_⟩) (by assumption) ?_
        · intro W0 hSw
          (try dsimp only at hSw)
          go_simp
        simp only [List.set_cons_zero, List.set_cons_succ]
        refine take_at 16 50 (.int .u8 (px8 t.2.2)) rfl rfl (by kernel_rfl) (by kernel_rfl) (by kernel_rfl) (fun _ _ _ h => h) (Or.inl ⟨by rfl, ?_⟩) (by assumption) ?_
        · intro W0 hSw
          (try dsimp only at hSw)
          go_simp
          rfl
        simp only [List.set_cons_zero, List.set_cons_succ]
        refine wpAnyH_ready (rs := [0, 9]) (by kernel_rfl) (by simp) ?_
        refine AllReadyH.cons rfl (fun K hK => ?_) (AllReadyH.cons rfl (fun K hK => ?_) AllReadyH.nil)
        · go_simp
          refine hK.out _ _ (by assumption) (fun hHeld => ?_)
          clear hK K
          refine wpAnyH_ready (rs := [8, 9]) (by kernel_rfl) (by simp) ?_
          refine AllReadyH.cons rfl (fun K hK => ?_) (AllReadyH.cons rfl (fun K hK => ?_) AllReadyH.nil)
          · go_simp
            refine (set_any W H (setsL W H P0 (ls.take k)) _ _ _ _ _ _ _ HNN.out.symm (by omega) (by omega) kc (by exact S1.out.r5.alike rfl)).mono ?_
            rintro e w2 ⟨A', c', rfl, r2, k2, f2, b2⟩
            have b2' := undrewX (w := V) b2 rfl rfl rfl rfl
            have S2 := Lib.hid (S1.out.below b2')
            have P2 := Lib.hid (P1.out.below b2')
            have BS2 := Lib.hid (BS.out.belowS b2')
            have R2 := Lib.hid r2
            have F2 : Hid (A' = Ag ∨ Fr V.heap.size A') := Lib.hid f2
            have L2 := b2'.size
            obtain ⟨z0, z1, z2, _, _, _, _⟩ := S2.out.b6.six
            obtain ⟨a0, a1, a2, _, _, _, _⟩ := BS2.out.six
            refine hK.out _ _ ⟨a0, a1, a2⟩ (fun hHeld => ?_)
            clear hK K b2 b2' r2 f2
            refine wpAnyH_ready (rs := [9]) (by kernel_rfl) (by simp) ?_
            refine AllReadyH.cons rfl (fun K hK => ?_) AllReadyH.nil
            go_simp
            refine hK.out _ _ (by assumption) (fun hHeld => ?_)
            clear hK K
            refine wpAnyH_ready (rs := [17]) (by kernel_rfl) (by simp) ?_
            refine AllReadyH.cons rfl (fun K hK => ?_) AllReadyH.nil
            go_simp
            refine (rset_any W H (setsL W H P0 (ls.take k)) _ _ _ _ _ _ w2 HNN.out.symm (by omega) (by omega) S2.out.r6).mono ?_
            rintro e w3 ⟨A'', c'', rfl, r3, f3, b3⟩
            have S3 := Lib.hid (S2.out.below b3)
            have P3 := Lib.hid (P2.out.below b3)
            have BS3 := Lib.hid (BS2.out.belowS b3)
            have R3 := Lib.hid r3
            have R2' := Lib.hid (R2.out.below b3)
            have F3 := Lib.hid f3
            obtain ⟨b0, b1, b2, b4, b5, b6, b7⟩ := S3.out.b5.six
            obtain ⟨d0, d3, d4, d5, d6, d7, d8⟩ := S3.out.b6.six
            obtain ⟨a0, a1, a2, _, _, _, _⟩ := BS3.out.six
            refine hK.out _ _ ⟨a0, a1, a2⟩ (fun hHeld => ?_)
            clear hK K b3 r3 f3
            have ne56 := NE.out
            have ne65 := Ne.symm NE.out
            have nes5 : gs ≠ g5 := by omega
            have nes6 : gs ≠ g6 := by omega
            refine wpAnyH_ready (rs := [18]) (by kernel_rfl) (by simp) ?_
            refine AllReadyH.cons rfl (fun K hK => ?_) AllReadyH.nil
            go_simp
            obtain ⟨a0, a1, a2, _, _, _, _⟩ := (BS3.out.far3 (u := .int .i64 W) (v := .int .i64 H) (r := .slice A' N c') nes5).six
            refine hK.out _ _ ⟨a0, a1, a2⟩ (fun hHeld => ?_)
            clear hK K
            refine wpAnyH_ready (rs := [19]) (by kernel_rfl) (by simp) ?_
            refine AllReadyH.cons rfl (fun K hK => ?_) AllReadyH.nil
            go_simp
            obtain ⟨a0, a1, a2, _, _, _, _⟩ := ((BS3.out.far3 (u := .int .i64 W) (v := .int .i64 H) (r := .slice A' N c') nes5).far3 (u := .int .i64 W) (v := .int .i64 H) (r := .slice A'' N c'') nes6).six
            refine hK.out _ _ ⟨a0, a1, a2⟩ (fun hHeld => ?_)
            clear hK K
            refine wpAnyH_done (by kernel_rfl) ?_ _
            refine NoPanic.normal ?_
            go_wp2_with fail
            go_roundw
            case rel =>
              refine ⟨k + 1, A', c', A'', c'', by go_num, by omega, ?_, (P3.out.three (by omega)).three (by omega)⟩
              rw [HTK.out, setsL_snoc]
              refine S3.out.sets R2'.out R3.out k2 (fun x ex => ?_) (fun x ex => ?_) NE.out H75.out H76.out
              · rcases F2.out with e | f
                · exact S1.out.n5 x (e ▸ ex)
                · have := f x ex
                  constructor <;> omega
              · rcases F3.out with e | f
                · exact S1.out.n6 x (e ▸ ex)
                · have := f x ex
                  constructor <;> omega
            case measure => simp [intOf]; omega
          · go_simp
            refine hK.out _ _ (by assumption) (fun hHeld => ?_)
            clear hK K
            refine wpAnyH_ready (rs := [8]) (by kernel_rfl) (by simp) ?_
            refine AllReadyH.cons rfl (fun K hK => ?_) AllReadyH.nil
            go_simp
            refine (set_any W H (setsL W H P0 (ls.take k)) _ _ _ _ _ _ _ HNN.out.symm (by omega) (by omega) kc (by exact S1.out.r5.alike rfl)).mono ?_
            rintro e w2 ⟨A', c', rfl, r2, k2, f2, b2⟩
            have b2' := undrewX (w := V) b2 rfl rfl rfl rfl
            have S2 := Lib.hid (S1.out.below b2')
            have P2 := Lib.hid (P1.out.below b2')
            have BS2 := Lib.hid (BS.out.belowS b2')
            have R2 := Lib.hid r2
            have F2 : Hid (A' = Ag ∨ Fr V.heap.size A') := Lib.hid f2
            have L2 := b2'.size
            obtain ⟨z0, z1, z2, _, _, _, _⟩ := S2.out.b6.six
            obtain ⟨a0, a1, a2, _, _, _, _⟩ := BS2.out.six
            refine hK.out _ _ ⟨a0, a1, a2⟩ (fun hHeld => ?_)
            clear hK K b2 b2' r2 f2
            refine wpAnyH_ready (rs := [17]) (by kernel_rfl) (by simp) ?_
            refine AllReadyH.cons rfl (fun K hK => ?_) AllReadyH.nil
            go_simp
            refine (rset_any W H (setsL W H P0 (ls.take k)) _ _ _ _ _ _ w2 HNN.out.symm (by omega) (by omega) S2.out.r6).mono ?_
            rintro e w3 ⟨A'', c'', rfl, r3, f3, b3⟩
            have S3 := Lib.hid (S2.out.below b3)
            have P3 := Lib.hid (P2.out.below b3)
            have BS3 := Lib.hid (BS2.out.belowS b3)
            have R3 := Lib.hid r3
            have R2' := Lib.hid (R2.out.below b3)
            have F3 := Lib.hid f3
            obtain ⟨b0, b1, b2, b4, b5, b6, b7⟩ := S3.out.b5.six
            obtain ⟨d0, d3, d4, d5, d6, d7, d8⟩ := S3.out.b6.six
            obtain ⟨a0, a1, a2, _, _, _, _⟩ := BS3.out.six
            refine hK.out _ _ ⟨a0, a1, a2⟩ (fun hHeld => ?_)
            clear hK K b3 r3 f3
            have ne56 := NE.out
            have ne65 := Ne.symm NE.out
            have nes5 : gs ≠ g5 := by omega
            have nes6 : gs ≠ g6 := by omega
            refine wpAnyH_ready (rs := [18]) (by kernel_rfl) (by simp) ?_
            refine AllReadyH.cons rfl (fun K hK => ?_) AllReadyH.nil
            go_simp
            obtain ⟨a0, a1, a2, _, _, _, _⟩ := (BS3.out.far3 (u := .int .i64 W) (v := .int .i64 H) (r := .slice A' N c') nes5).six
            refine hK.out _ _ ⟨a0, a1, a2⟩ (fun hHeld => ?_)
            clear hK K
            refine wpAnyH_ready (rs := [19]) (by kernel_rfl) (by simp) ?_
            refine AllReadyH.cons rfl (fun K hK => ?_) AllReadyH.nil
            go_simp
            obtain ⟨a0, a1, a2, _, _, _, _⟩ := ((BS3.out.far3 (u := .int .i64 W) (v := .int .i64 H) (r := .slice A' N c') nes5).far3 (u := .int .i64 W) (v := .int .i64 H) (r := .slice A'' N c'') nes6).six
            refine hK.out _ _ ⟨a0, a1, a2⟩ (fun hHeld => ?_)
            clear hK K
            refine wpAnyH_done (by kernel_rfl) ?_ _
            refine NoPanic.normal ?_
            go_wp2_with fail
            go_roundw
            case rel =>
              refine ⟨k + 1, A', c', A'', c'', by go_num, by omega, ?_, (P3.out.three (by omega)).three (by omega)⟩
              rw [HTK.out, setsL_snoc]
              refine S3.out.sets R2'.out R3.out k2 (fun x ex => ?_) (fun x ex => ?_) NE.out H75.out H76.out
              · rcases F2.out with e | f
                · exact S1.out.n5 x (e ▸ ex)
                · have := f x ex
                  constructor <;> omega
              · rcases F3.out with e | f
                · exact S1.out.n6 x (e ▸ ex)
                · have := f x ex
                  constructor <;> omega
            case measure => simp [intOf]; omega
        · go_simp
          refine hK.out _ _ (by assumption) (fun hHeld => ?_)
          clear hK K
          refine wpAnyH_ready (rs := [0]) (by kernel_rfl) (by simp) ?_
          refine AllReadyH.cons rfl (fun K hK => ?_) AllReadyH.nil
          go_simp
          refine hK.out _ _ (by assumption) (fun hHeld => ?_)
          clear hK K
          refine wpAnyH_ready (rs := [8]) (by kernel_rfl) (by simp) ?_
          refine AllReadyH.cons rfl (fun K hK => ?_) AllReadyH.nil
          go_simp
          refine (set_any W H (setsL W H P0 (ls.take k)) _ _ _ _ _ _ _ HNN.out.symm (by omega) (by omega) kc (by exact S1.out.r5.alike rfl)).mono ?_
          rintro e w2 ⟨A', c', rfl, r2, k2, f2, b2⟩
          have b2' := undrewX (w := V) b2 rfl rfl rfl rfl
          have S2 := Lib.hid (S1.out.below b2')
          have P2 := Lib.hid (P1.out.below b2')
          have BS2 := Lib.hid (BS.out.belowS b2')
          have R2 := Lib.hid r2
          have F2 : Hid (A' = Ag ∨ Fr V.heap.size A') := Lib.hid f2
          have L2 := b2'.size
          obtain ⟨z0, z1, z2, _, _, _, _⟩ := S2.out.b6.six
          obtain ⟨a0, a1, a2, _, _, _, _⟩ := BS2.out.six
          refine hK.out _ _ ⟨a0, a1, a2⟩ (fun hHeld => ?_)
          clear hK K b2 b2' r2 f2
          refine wpAnyH_ready (rs := [17]) (by kernel_rfl) (by simp) ?_
          refine AllReadyH.cons rfl (fun K hK => ?_) AllReadyH.nil
          go_simp
          refine (rset_any W H (setsL W H P0 (ls.take k)) _ _ _ _ _ _ w2 HNN.out.symm (by omega) (by omega) S2.out.r6).mono ?_
          rintro e w3 ⟨A'', c'', rfl, r3, f3, b3⟩
          have S3 := Lib.hid (S2.out.below b3)
          have P3 := Lib.hid (P2.out.below b3)
          have BS3 := Lib.hid (BS2.out.belowS b3)
          have R3 := Lib.hid r3
          have R2' := Lib.hid (R2.out.below b3)
          have F3 := Lib.hid f3
          obtain ⟨b0, b1, b2, b4, b5, b6, b7⟩ := S3.out.b5.six
          obtain ⟨d0, d3, d4, d5, d6, d7, d8⟩ := S3.out.b6.six
          obtain ⟨a0, a1, a2, _, _, _, _⟩ := BS3.out.six
          refine hK.out _ _ ⟨a0, a1, a2⟩ (fun hHeld => ?_)
          clear hK K b3 r3 f3
          have ne56 := NE.out
          have ne65 := Ne.symm NE.out
          have nes5 : gs ≠ g5 := by omega
          have nes6 : gs ≠ g6 := by omega
          refine wpAnyH_ready (rs := [18]) (by kernel_rfl) (by simp) ?_
          refine AllReadyH.cons rfl (fun K hK => ?_) AllReadyH.nil
          go_simp
          obtain ⟨a0, a1, a2, _, _, _, _⟩ := (BS3.out.far3 (u := .int .i64 W) (v := .int .i64 H) (r := .slice A' N c') nes5).six
          refine hK.out _ _ ⟨a0, a1, a2⟩ (fun hHeld => ?_)
          clear hK K
          refine wpAnyH_ready (rs := [19]) (by kernel_rfl) (by simp) ?_
          refine AllReadyH.cons rfl (fun K hK => ?_) AllReadyH.nil
          go_simp
          obtain ⟨a0, a1, a2, _, _, _, _⟩ := ((BS3.out.far3 (u := .int .i64 W) (v := .int .i64 H) (r := .slice A' N c') nes5).far3 (u := .int .i64 W) (v := .int .i64 H) (r := .slice A'' N c'') nes6).six
          refine hK.out _ _ ⟨a0, a1, a2⟩ (fun hHeld => ?_)
          clear hK K
          refine wpAnyH_done (by kernel_rfl) ?_ _
          refine NoPanic.normal ?_
          go_wp2_with fail
          go_roundw
          case rel =>
            refine ⟨k + 1, A', c', A'', c'', by go_num, by omega, ?_, (P3.out.three (by omega)).three (by omega)⟩
            rw [HTK.out, setsL_snoc]
            refine S3.out.sets R2'.out R3.out k2 (fun x ex => ?_) (fun x ex => ?_) NE.out H75.out H76.out
            · rcases F2.out with e | f
              · exact S1.out.n5 x (e ▸ ex)
              · have := f x ex
                constructor <;> omega
            · rcases F3.out with e | f
              · exact S1.out.n6 x (e ▸ ex)
              · have := f x ex
                constructor <;> omega
          case measure => simp [intOf]; omega
      · obtain rfl : k = nl := by omega
        have si := SI.out
        rw [List.take_of_length_le (by rw [HL.out.1]; exact Nat.le_refl _)] at si
        obtain ⟨F, hF⟩ : ∃ F, setsL W H P0 ls = F := ⟨_, rfl⟩
        have FP : Pix F := by rw [← hF, ← HP0.out]; exact setsL_pix W H ls (pl_pix N m hz)
        have HFP := Lib.hid FP
        rw [hF] at si
        clear SI FP hF
        have SI := Lib.hid si
        clear si
        go_wp2_with fail
        go_loopw [10] (fun y wr => ∃ j : Nat, y = .int .i64 ((j : Int) - 1) ∧ j ≤ H + 2 ∧ SInv W H N P0 F g5 g6 g7 A5 c5 Ag cg Ad cd wr ∧ PInv a b A m c w wr) (fun y _ => (H + 2 - intOf y).toNat)
        case atStart => exact ⟨0, rfl, by omega, SI.out, PI.out⟩
        case round =>
          obtain ⟨j, rfl, hj, si, pi⟩ := hrel
          clear SI PI
          have SI := Lib.hid si
          have PI := Lib.hid pi
          obtain ⟨z0, z1, z2, _, _, _, zl⟩ := si.b6.six
          obtain ⟨x0, x1, x2, _, _, _, xl⟩ := si.b5.six
          clear si pi
          obtain ⟨y, hy⟩ : ∃ y : Int, (j : Int) - 1 = y := ⟨_, rfl⟩
          have hyb : -1 ≤ y ∧ y ≤ H + 1 := by omega
          rw [hy]
          have HY := Lib.hid hy
          clear hy
          by_cases hle : y ≤ H
          · have dle : decide (y ≤ (H : Int)) = true := decide_eq_true hle
            by_cases hin : 0 ≤ y ∧ y < H
            · have dy0 : decide (0 ≤ y) = true := decide_eq_true hin.1
              have dy1 : decide (y < (H : Int)) = true := decide_eq_true hin.2
              obtain ⟨lo, hlo⟩ : ∃ lo, y.toNat * W = lo := ⟨_, rfl⟩
              have hloN : lo + W ≤ N := by
                have h1 : (y.toNat + 1) * W ≤ H * W := Nat.mul_le_mul_right W (by omega)
                rw [Nat.add_mul, Nat.one_mul, Nat.mul_comm H W, HNN.out, hlo] at h1
                exact h1
              have HLO := Lib.hid hlo
              clear hlo
              go_wp2_with fail
              go_loopw [11, 12] (fun row i wi => ∃ q : Nat, i = .int .i64 q ∧ q ≤ W ∧ row = .string ⟨(B8 ((F.drop lo).take q)).toArray⟩ ∧ SInv W H N P0 F g5 g6 g7 A5 c5 Ag cg Ad cd wi ∧ PInv a b A m c w wi) (fun _ i _ => W - (intOf i).toNat)
              case atStart => exact ⟨0, rfl, by omega, rfl, SI.out, PI.out⟩
              case round =>
                obtain ⟨q, rfl, hq, rfl, si, pi⟩ := hrel
                clear SI PI
                have SI := Lib.hid si
                have PI := Lib.hid pi
                clear z0 z1 z2 x0 x1 x2 zl xl
                obtain ⟨z0, z1, z2, _, _, _, zl⟩ := si.b6.six
                obtain ⟨x0, x1, x2, _, _, _, xl⟩ := si.b5.six
                clear si pi
                by_cases hqW : q < W
                · have dq : decide ((q : Int) < (W : Int)) = true := by simp; omega
                  obtain ⟨pp, hpp⟩ : ∃ pp, F[lo + q]? = some pp := ⟨_, List.getElem?_eq_getElem (by have := u8_len SI.out.r5; omega)⟩
                  have hgat : gat W H F (q : Int) y = pp := by
                    unfold gat
                    rw [if_pos ((has_iff _ _ _ _).2 (by omega)), HLO.out, Int.toNat_natCast, List.getD_eq_getElem?_getD, hpp]
                    rfl
                  have hpb := HFP.out pp (List.mem_of_getElem? hpp)
                  have htk : B8 ((F.drop lo).take (q + 1)) = B8 ((F.drop lo).take q) ++ [UInt8.ofNat pp.toNat] := by
                    rw [List.take_add_one, List.getElem?_drop, hpp]
                    simp [B8]
                  have HG := Lib.hid hgat
                  have HT := Lib.hid htk
                  have hcv : ∀ W' : World, (convert 39 9 (.slice (some ⟨W'.heap.size, 0, none⟩) 1 1)).run Try.prog (W'.alloc (.cells #[.int .u8 pp] 5)) = .ok (.string ⟨[UInt8.ofNat pp.toNat].toArray⟩) (W'.alloc (.cells #[.int .u8 pp] 5)) := fun W' =>
                    run_convert_bytes_back (P := Try.prog) _ 39 9 5 ⟨W'.heap.size, 0, none⟩ 1 [UInt8.ofNat pp.toNat] Try.underlying39 Try.underlying5 Try.underlying9 (fun j hj => by
                      have hj0 : j = 0 := by simpa using hj
                      subst hj0
                      simp [Addr.add]
                      omega)
                  have hsz : (B8 ((F.drop lo).take q)).length + 1 ≤ 9223372036854775807 := by simp [B8]; omega
                  clear hpp hgat htk
                  go_wp2_with (go_at_call 23; refine (rat_any W H F _ _ _ _ _ _ HNN.out.symm (by omega) (by omega) SI.out.r6).mono ?_; rintro e w5 ⟨rfl, b5⟩; rw [HG.out]; have B5 := Lib.hid b5; clear b5)
                  go_roundw
                  case rel => exact ⟨q + 1, by go_num, by omega, by rw [HT.out]; exact congrArg Value.string (ByteArray.ext (by simp)), SI.out.below (bal B5.out _), PI.out.below (bal B5.out _)⟩
                  case measure => simp [intOf]; omega
                · obtain rfl : q = W := by omega
                  have dq : decide ((q : Int) < (q : Int)) = false := by simp
                  have hrow : B8 ((F.drop lo).take q) = rowB q H F y := by unfold rowB; rw [if_pos hin, HLO.out]
                  have HROW := Lib.hid hrow
                  rw [hrow]
                  clear hrow
                  go_wp2_with (go_at_call 24; refine (row_any q H F _ _ _ _ _ HNN.out.symm (by omega) (by omega) SI.out.kc SI.out.r5 HFP.out).mono ?_; rintro e w6 ⟨rfl, b6⟩; have B6 := Lib.hid b6; clear b6)
                  go_roundw
                  case rel => exact ⟨j + 1, by have := HY.out; congr 1; omega, by have := HY.out; omega, SI.out.below B6.out, PI.out.below B6.out⟩
                  case measure => have := HY.out; simp [intOf]; omega
            · have hrow : rowB W H F y = [] := by unfold rowB; rw [if_neg hin]
              have HROW := Lib.hid hrow
              clear hrow
              have tt : decide (0 ≤ y) = false ∨ (decide (0 ≤ y) = true ∧ decide (y < (H : Int)) = false) := by
                simp only [decide_eq_true_eq, decide_eq_false_iff_not]; omega
              have dW : decide ((0 : Int) < (W : Int)) = true := by simp; omega
              rcases tt with dy0 | ⟨dy0, dy1⟩
              all_goals
                go_wp2_with fail
                refine wp_loop_rounds 1 ?_
                rw [rounds_succ]
                go_wp2_with (go_at_call 24; refine (row_any W H F _ _ _ _ _ HNN.out.symm (by omega) (by omega) SI.out.kc SI.out.r5 HFP.out).mono ?_; rintro e w6 ⟨rfl, b6⟩; rw [HROW.out]; have B6 := Lib.hid b6; clear b6)
                go_roundw
                case rel => exact ⟨j + 1, by have := HY.out; congr 1; omega, by have := HY.out; omega, SI.out.below B6.out, PI.out.below B6.out⟩
                case measure => have := HY.out; simp [intOf]; omega
          · have dle : decide (y ≤ (H : Int)) = false := decide_eq_false hle
            go_wp2_with fail
            have href : ∀ w' : World, Rd w' A m (U8 ps) → Calls Try.prog 20 #[.agg #[.int .u8 a, .int .u8 b, .slice A m c]] w' fun e w'' => ∃ A' c', e = .returned (.agg #[.int .i64 W, .int .i64 H, .slice A' N c']) ∧ Rd w'' A' N (U8 P0) ∧ Below w'.heap.size w' w'' := fun w' hw' => by
              have h := ref_any a b W H ps A m c w' HA.out HB.out ha0 hb0 hm hw'
              rw [HNN.out, HP0.out] at h
              exact h
            have HREF := Lib.hid href
            have hNb : N ≤ 16384 := by have := mul_le_128 (W := W) (H := H) (by omega) (by omega); have := HNN.out; omega
            have tokI : True := trivial
            have tokR : True := trivial
            clear href z0 z1 z2 x0 x1 x2 zl xl
            obtain ⟨x0, x1, x2, y0, y1, y2, z0, z1, z2, v0, v1, v2⟩ := s_cells SI.out PI.out
            go_region_held3 (fun w' => w'.cell? ⟨g5, 0, none⟩ = some (.int .i64 W) ∧ w'.cell? ⟨g5, 1, none⟩ = some (.int .i64 H) ∧ w'.cell? ⟨g5, 2, none⟩ = some (.slice Ag N cg) ∧ w'.cell? ⟨g6, 0, none⟩ = some (.int .i64 W) ∧ w'.cell? ⟨g6, 1, none⟩ = some (.int .i64 H) ∧ w'.cell? ⟨g6, 2, none⟩ = some (.slice Ad N cd) ∧ w'.cell? ⟨g7, 0, none⟩ = some (.int .i64 W) ∧ w'.cell? ⟨g7, 1, none⟩ = some (.int .i64 H) ∧ w'.cell? ⟨g7, 2, none⟩ = some (.slice A5 N c5) ∧ w'.cell? ⟨w.heap.size, 0, none⟩ = some (.int .u8 a) ∧ w'.cell? ⟨w.heap.size, 1, none⟩ = some (.int .u8 b) ∧ w'.cell? ⟨w.heap.size, 2, none⟩ = some (.slice A m c))
              (first | with_reducible exact K27.out | with_reducible exact K26.out | with_reducible exact K25.out | with_reducible exact K24.out | with_reducible exact K23.out | with_reducible exact K22.out | with_reducible exact K21.out | go_keep)
              (first | (go_at_call 15; have _t := tokI; refine (is_any W H F _ _ _ _ _ _ HNN.out.symm (by omega) (by omega) (by exact SI.out.r5.alike rfl) (by exact SI.out.r6.alike rfl)).mono ?_; rintro e w21 ⟨rfl, hb⟩; have B21 : Hid (Below wr.heap.size wr w21) := Lib.hid (undrewX hb rfl rfl rfl rfl); have S21 := Lib.hid (SI.out.below B21.out); have P21 := Lib.hid (PI.out.below B21.out); have K21 := Lib.hid (s_cells S21.out P21.out); clear hb tokI _t) | (go_at_call 20; have _t := tokR; refine (HREF.out _ (by exact HR.out.below P21.out.bb)).mono ?_; rintro e w22 ⟨A22, c22, rfl, r22, hb⟩; have B22 : Hid (Below wr.heap.size wr w22) := Lib.hid (bstep B21.out hb); have S22 := Lib.hid (SI.out.below B22.out); have P22 := Lib.hid (PI.out.below B22.out); have K22 := Lib.hid (s_cells S22.out P22.out); have R22 := Lib.hid r22; clear hb r22 tokR _t) | (go_at_call 15; refine (is_any W H P0 _ _ _ _ _ _ HNN.out.symm (by omega) (by omega) S22.out.r7 R22.out).mono ?_; rintro e w23 ⟨rfl, hb⟩; have B23 : Hid (Below wr.heap.size wr w23) := Lib.hid (bstep B22.out hb); have S23 := Lib.hid (SI.out.below B23.out); have P23 := Lib.hid (PI.out.below B23.out); have K23 := Lib.hid (s_cells S23.out P23.out); clear hb) | (go_at_call 25; refine (gsame_any _ _ F P0 _ _ N _ _ _ (by omega) S23.out.r5 S23.out.r7).mono ?_; rintro e w24 ⟨rfl, hb⟩; have B24 : Hid (Below wr.heap.size wr w24) := Lib.hid (bstep B23.out hb); have S24 := Lib.hid (SI.out.below B24.out); have P24 := Lib.hid (PI.out.below B24.out); have K24 := Lib.hid (s_cells S24.out P24.out); clear hb) | (go_at_call 20; refine (HREF.out _ (by exact HR.out.below P24.out.bb)).mono ?_; rintro e w25 ⟨A25, c25, rfl, r25, hb⟩; have B25 : Hid (Below wr.heap.size wr w25) := Lib.hid (bstep B24.out hb); have S25 := Lib.hid (SI.out.below B25.out); have P25 := Lib.hid (PI.out.below B25.out); have K25 := Lib.hid (s_cells S25.out P25.out); have R25 := Lib.hid r25; clear hb r25) | (go_at_call 26; refine (rsame_any W H F P0 _ _ N _ _ _ HNN.out.symm (by omega) (by omega) S25.out.r6 R25.out).mono ?_; rintro e w26 ⟨rfl, hb⟩; have B26 : Hid (Below wr.heap.size wr w26) := Lib.hid (bstep B25.out hb); have S26 := Lib.hid (SI.out.below B26.out); have P26 := Lib.hid (PI.out.below B26.out); have K26 := Lib.hid (s_cells S26.out P26.out); clear hb) | (go_at_call 13; refine (awake_any _).mono ?_; rintro e w27 ⟨rfl, hb⟩; have B27 : Hid (Below wr.heap.size wr w27) := Lib.hid (bstep B26.out hb); have S27 := Lib.hid (SI.out.below B27.out); have P27 := Lib.hid (PI.out.below B27.out); have K27 := Lib.hid (s_cells S27.out P27.out); clear hb))
            go_wp2_with fail
            go_ret
            exact ⟨by simp, bstep PI.out.bb B27.out⟩

end Go.Proofs.Ytcdecglbkcllaab
