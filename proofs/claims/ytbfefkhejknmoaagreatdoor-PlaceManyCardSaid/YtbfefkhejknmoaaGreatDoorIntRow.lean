/-
  Lists of numbers in memory.
-/
import Derived.Test.YtbfefkhejknmoaaGreatDoorBandWalkC
namespace Go.Proofs.YtbfefkhejknmoaaGreatDoor
open Go.RowKit

/-- numbers as values. -/
def I64 (l : List Int) : List Value := l.map (Value.int .i64)
theorem Tryz.infoI : (Tryz.prog.info? 3).map (fun i => (i.zero, i.size, i.bytes)) = some (some (.int .i64 0), 1, 8) := by kernel_rfl

theorem undrewN (w : World) (q : Nat) : Below w.heap.size w (w.drewN q) := below_drewN (bre w) q
theorem two_newI (w : World) (x y : Value) (t : TypeId) : ∀ j u, [x, y][j]? = some u → (w.alloc (.cells #[x, y] t)).cell? ((⟨w.heap.size, 0, none⟩ : Addr).add j) = some u := by
  intro j u hu
  match j, hu with
  | 0, hu => simp at hu; subst hu; simp [Addr.add]
  | 1, hu => simp at hu; subst hu; simp [Addr.add]
theorem own_I64 {w : World} {B n : Nat} {e : TypeId} {v : Value} {zs : List Int} (h : w.ownsRow B e 1 v n (I64 zs)) (hn : 0 < n) : ∃ g c, v = .slice (some ⟨g, 0, none⟩) n c ∧ B ≤ g ∧ n ≤ c ∧ c ≤ maxLen ∧ ∃ rest, Blk w g e (I64 zs ++ rest).toArray := by
  rcases h.2 with ⟨_, h0⟩ | ⟨g, cap, cur, e1, hb, hg, h1, h2, h3, h4⟩
  · omega
  · refine ⟨g, cap, e1, hb, h1, h2, cur.toList.drop (n * 1), ?_⟩
    rw [← h4, List.take_append_drop]
    exact hg

theorem own_lt {w : World} {base e size n : Nat} {v : Value} {xs : List Value} (h : w.ownsRow base e size v n xs) : ∀ g, v.ownBlock = some g → g < w.heap.size := by
  intro g hg
  rcases h.2 with ⟨e1, _⟩ | ⟨g', cap, cur, e1, _, hk, _⟩
  · rw [e1] at hg
    cases hg
  · rw [e1] at hg
    cases hg
    exact (Array.getElem?_eq_some_iff.1 hk).1

end Go.Proofs.YtbfefkhejknmoaaGreatDoor
