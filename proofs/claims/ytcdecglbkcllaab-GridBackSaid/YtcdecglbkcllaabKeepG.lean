/-
  What stays as it is where a call makes memory, or a box of a grid is written.
-/
import Derived.Test.YtcdecglbkcllaabGridFillD
import Derived.Test.YtcdecglbkcllaabRegionInv
namespace Go.Proofs.Ytcdecglbkcllaab
open Go.RowKit Go.Shelf

/-- memory was made, or a box (two numbers and a slice) of this type was written. -/
def KeepG (lo t : Nat) (wx wy : World) : Prop :=
  Below wx.heap.size wx wy ∨ ∃ (g : Nat) (x y : Int) (B : Option Addr) (n c : Nat), lo ≤ g ∧ Blk wx g t #[.int .i64 x, .int .i64 y, .slice B n c] ∧ wx.grownBy wy (some g)
section
variable {lo t : Nat} {wx wy w : World}
theorem KeepG.bel (h : Below wx.heap.size wx wy) : KeepG lo t wx wy := .inl h
theorem KeepG.lower {lo' : Nat} (h : KeepG lo t wx wy) (hl : lo' ≤ lo) : KeepG lo' t wx wy := by
  rcases h with h | ⟨g, x, y, B, n, c, hg, h1, h2⟩
  · exact .inl h
  · exact .inr ⟨g, x, y, B, n, c, Nat.le_trans hl hg, h1, h2⟩
theorem KeepG.below (h : KeepG w.heap.size t wx wy) (hb : Below w.heap.size w wx) : Below w.heap.size w wy := by
  rcases h with h | ⟨g, x, y, B, n, c, hg, _, h⟩
  · exact bstep hb h
  · exact hb.grown h hb.size (fun q e => by cases e; exact hg)
theorem KeepG.blk (h : KeepG lo t wx wy) {g s : Nat} {cs : Array Value} (hb : Blk wx g s cs) (hs : s ≠ t ∨ g < lo) : Blk wy g s cs := by
  rcases h with h | ⟨g', x, y, B, n, c, hg, hk, h⟩
  · exact hb.belowS h
  · refine hb.grown h (fun e => ?_)
    cases e
    rcases hs with hs | hs
    · exact blk_ne hb hk hs rfl
    · omega
theorem grid_cell {g : Nat} {x y : Int} {B : Option Addr} {n c : Nat} (h : Blk wx g t #[.int .i64 x, .int .i64 y, .slice B n c]) (o : Nat) {v : Value} (hv : wx.cell? ⟨g, o, none⟩ = some v) : (o = 0 ∧ v = .int .i64 x) ∨ (o = 1 ∧ v = .int .i64 y) ∨ (o = 2 ∧ v = .slice B n c) := by
  rw [h.cell o] at hv
  match o, hv with
  | 0, hv => simp at hv; exact .inl ⟨rfl, hv.symm⟩
  | 1, hv => simp at hv; exact .inr (.inl ⟨rfl, hv.symm⟩)
  | 2, hv => simp at hv; exact .inr (.inr ⟨rfl, hv.symm⟩)
  | o + 3, hv => simp at hv
theorem KeepG.rd (h : KeepG lo t wx wy) {A : Option Addr} {n : Nat} {px : List Int} (hr : Rd wx A n (U8 px)) : Rd wy A n (U8 px) := by
  rcases h with h | ⟨g, x, y, B, m, c, hg, hk, h⟩
  · exact hr.below h
  · refine ⟨hr.1, fun h0 => ?_⟩
    obtain ⟨b, off, e, hb, hc⟩ := hr.2 h0
    have hne : some b ≠ some g := fun e' => by
      cases e'
      obtain ⟨v, hv⟩ : ∃ v, (U8 px)[0]? = some v := ⟨_, List.getElem?_eq_getElem (by rw [hr.1]; exact h0)⟩
      have h1 := hc 0 v hv
      simp [U8] at hv
      obtain ⟨z, _, rfl⟩ := hv
      rcases grid_cell hk _ h1 with ⟨_, h2⟩ | ⟨_, h2⟩ | ⟨_, h2⟩ <;> cases h2
    exact ⟨b, off, e, Nat.lt_of_lt_of_le hb h.size, fun i v hi => h.cell (hc i v hi) hne⟩
theorem KeepG.rdr (h : KeepG lo t wx wy) {A : Option Addr} {n : Nat} {rs : List RC} (hr : RdR wx A n rs) : RdR wy A n rs := by
  rcases h with h | ⟨g, x, y, B, m, c, hg, hk, h⟩
  · exact hr.below h
  · refine ⟨hr.1, fun h0 => ?_⟩
    obtain ⟨b, off, e, hb, hc⟩ := hr.2 h0
    have hne : some b ≠ some g := fun e' => by
      cases e'
      obtain ⟨r, hr'⟩ : ∃ r, rs[0]? = some r := ⟨_, List.getElem?_eq_getElem (by rw [hr.1]; exact h0)⟩
      obtain ⟨c0, c1, c2, c3⟩ := hc 0 r hr'
      rcases grid_cell hk _ c0 with ⟨h1, h2⟩ | ⟨h1, h2⟩ | ⟨h1, h2⟩
      · rcases grid_cell hk _ c2 with ⟨h3, h4⟩ | ⟨h3, h4⟩ | ⟨h3, h4⟩
        · omega
        · omega
        · cases h4
      · rcases grid_cell hk _ c1 with ⟨h3, h4⟩ | ⟨h3, h4⟩ | ⟨h3, h4⟩
        · omega
        · omega
        · cases h4
      · cases h2
    exact ⟨b, off, e, Nat.lt_of_lt_of_le hb h.size, fun i r hi => by
      obtain ⟨c0, c1, c2, c3⟩ := hc i r hi
      exact ⟨h.cell c0 hne, h.cell c1 hne, h.cell c2 hne, h.cell c3 hne⟩⟩
theorem KeepG.rds (h : KeepG lo t wx wy) {A : Option Addr} {n : Nat} {ss : List Sm} (hr : RdS wx A n ss) : RdS wy A n ss := by
  rcases h with h | ⟨g, x, y, B, m, c, hg, hk, h⟩
  · exact hr.below h
  · refine ⟨hr.1, fun h0 => ?_⟩
    obtain ⟨b, off, e, hb, hc⟩ := hr.2 h0
    have hne : some b ≠ some g := fun e' => by
      cases e'
      obtain ⟨s, hs'⟩ : ∃ s, ss[0]? = some s := ⟨_, List.getElem?_eq_getElem (by rw [hr.1]; exact h0)⟩
      obtain ⟨c0, _⟩ := hc 0 s hs'
      rcases grid_cell hk _ c0 with ⟨h1, h2⟩ | ⟨h1, h2⟩ | ⟨h1, h2⟩ <;> cases h2
    exact ⟨b, off, e, Nat.lt_of_lt_of_le hb h.size, fun i s hi => by
      obtain ⟨c0, c1, c2, c3⟩ := hc i s hi
      exact ⟨h.cell c0 hne, h.cell c1 hne, h.cell c2 hne, h.cell c3 hne⟩⟩
/-- a box of a grid, written whole. -/
theorem box_set {g : Nat} {x y x' y' : Int} {B B' : Option Addr} {n c n' c' : Nat} (h : Blk wx g t #[.int .i64 x, .int .i64 y, .slice B n c]) (hl : lo ≤ g) :
    KeepG lo t wx (((wx.setCell ⟨g, 0, none⟩ (.int .i64 x')).setCell ⟨g, 1, none⟩ (.int .i64 y')).setCell ⟨g, 2, none⟩ (.slice B' n' c')) ∧
    Blk (((wx.setCell ⟨g, 0, none⟩ (.int .i64 x')).setCell ⟨g, 1, none⟩ (.int .i64 y')).setCell ⟨g, 2, none⟩ (.slice B' n' c')) g t #[.int .i64 x', .int .i64 y', .slice B' n' c'] :=
  ⟨.inr ⟨g, x, y, B, n, c, hl, h, ((grown_setCell wx ⟨g, 0, none⟩ _).andThen (grown_setCell _ ⟨g, 1, none⟩ _) (fun j hj => .inr hj)).andThen (grown_setCell _ ⟨g, 2, none⟩ _) (fun j hj => .inr hj)⟩, ((h.set_ 0 _).set_ 1 _).set_ 2 _⟩
end

end Go.Proofs.Ytcdecglbkcllaab
