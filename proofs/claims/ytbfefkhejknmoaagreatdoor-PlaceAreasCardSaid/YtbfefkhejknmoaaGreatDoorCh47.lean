/-
  What a law over windows is given, and what it builds first; a block whose cells are all written.
  A window that is resized and back again, plainly: its own box is as it was, its kids are where they were, or 1 less.
-/
import Derived.Test.YtbfefkhejknmoaaGreatDoorCh42
import Derived.Test.YtbfefkhejknmoaaGreatDoorCh46
import Derived.Deep.MidRow
import Derived.Test.YtbfefkhejknmoaaGreatDoorCh35
namespace Go.Proofs.YtbfefkhejknmoaaGreatDoor
open Go.RowKit Go.Shelf

/-- what a law over windows is given. -/
structure GivenW (w : World) (x : WN) (UL : List Int) (L : List DB) : Prop where
  up : Rd w x.U x.nu (U32 UL)
  list : RdD w x.A x.nl L
  nl : x.nl ≤ maxLen
  nu : x.nu ≤ maxLen
  ids : ∀ u ∈ UL, 0 ≤ u ∧ u ≤ 4294967295
  each : ∀ d ∈ L, (0 ≤ d.id ∧ d.id ≤ 4294967295) ∧ RdR w d.b.A d.b.n d.sh ∧ ∀ r ∈ d.sh, r.X ≤ 9223372036854775807 ∧ r.Y ≤ 9223372036854775807
theorem GivenW.below {w w' : World} {x : WN} {UL : List Int} {L : List DB} (h : GivenW w x UL L) (hb : Below w.heap.size w w') : GivenW w' x UL L :=
  ⟨h.up.below hb, h.list.below hb, h.nl, h.nu, h.ids, fun d hd => ⟨(h.each d hd).1, (h.each d hd).2.1.below hb, (h.each d hd).2.2⟩⟩
/-- few windows: the tree and the place of them. -/
theorem built_few (x : WN) (UL : List Int) (L : List DB) (w : World) (h : GivenW w x UL L) (hf : fewB L = true) :
    Calls Tryz.prog 10 #[x.v] w fun e w' => ∃ (mk mu mp : Option Nat) (An : Option Addr) (nn cn : Nat) (Al : Option Addr) (cl : Nat) (ns : Nodes) (n : Nat) (bs : Bxs) (l : List DB) (nk : Nat) (fk : Int → Option Value), e = .returned (.tuple #[.agg #[.map mk, .map mu], .agg #[.map mp], .slice An nn cn, .slice Al n cl, .bool true]) ∧ BuiltAt w' (.agg #[.map mk, .map mu]) (.agg #[.map mp]) An nn Al ns n bs l nk mk mu fk ∧ l = L.foldl setL (newD x.W x.H) ∧ n ≤ 71 ∧ Below w.heap.size w w' := by
  unfold fewB at hf
  rw [Bool.and_eq_true, decide_eq_true_eq] at hf
  obtain ⟨h1, h2⟩ := hf
  rw [List.take_of_length_le h2] at h1
  refine (built_any x UL L w h.up h.list (by rw [← h.list.1]; exact h2) h.nu h.ids (fun d hd => ⟨(h.each d hd).1, (h.each d hd).2.1, by simpa using List.all_eq_true.1 h1 d hd, (h.each d hd).2.2⟩)).mono ?_
  rintro e w' ⟨tv, pv, An, nn, cn, Al, cl, ns, n, bs, l, nk, mk, mu, fk, rfl, hat, hl, hn, hb⟩
  obtain rfl := hat.tree.shape
  obtain ⟨mp, rfl, hm⟩ := hat.place
  exact ⟨mk, mu, mp, An, nn, cn, Al, cl, ns, n, bs, l, nk, fk, rfl, hat, hl, hn, hb⟩

theorem blk_put9 {w : World} {g : Nat} {t : TypeId} {a0 a1 a2 a3 a4 a5 a6 a7 a8 : Value} (b0 b1 b2 b3 b4 b5 b6 b7 b8 : Value) (h : Blk w g t #[a0, a1, a2, a3, a4, a5, a6, a7, a8]) : Blk (((((((((w.setCell ⟨g, 0, none⟩ b0).setCell ⟨g, 1, none⟩ b1).setCell ⟨g, 2, none⟩ b2).setCell ⟨g, 3, none⟩ b3).setCell ⟨g, 4, none⟩ b4).setCell ⟨g, 5, none⟩ b5).setCell ⟨g, 6, none⟩ b6).setCell ⟨g, 7, none⟩ b7).setCell ⟨g, 8, none⟩ b8) g t #[b0, b1, b2, b3, b4, b5, b6, b7, b8] := by
  have h0 : Blk (w.setCell ⟨g, 0, none⟩ b0) g t #[b0, a1, a2, a3, a4, a5, a6, a7, a8] := h.set_ 0 b0
  have h1 : Blk ((w.setCell ⟨g, 0, none⟩ b0).setCell ⟨g, 1, none⟩ b1) g t #[b0, b1, a2, a3, a4, a5, a6, a7, a8] := h0.set_ 1 b1
  have h2 : Blk (((w.setCell ⟨g, 0, none⟩ b0).setCell ⟨g, 1, none⟩ b1).setCell ⟨g, 2, none⟩ b2) g t #[b0, b1, b2, a3, a4, a5, a6, a7, a8] := h1.set_ 2 b2
  have h3 : Blk ((((w.setCell ⟨g, 0, none⟩ b0).setCell ⟨g, 1, none⟩ b1).setCell ⟨g, 2, none⟩ b2).setCell ⟨g, 3, none⟩ b3) g t #[b0, b1, b2, b3, a4, a5, a6, a7, a8] := h2.set_ 3 b3
  have h4 : Blk (((((w.setCell ⟨g, 0, none⟩ b0).setCell ⟨g, 1, none⟩ b1).setCell ⟨g, 2, none⟩ b2).setCell ⟨g, 3, none⟩ b3).setCell ⟨g, 4, none⟩ b4) g t #[b0, b1, b2, b3, b4, a5, a6, a7, a8] := h3.set_ 4 b4
  have h5 : Blk ((((((w.setCell ⟨g, 0, none⟩ b0).setCell ⟨g, 1, none⟩ b1).setCell ⟨g, 2, none⟩ b2).setCell ⟨g, 3, none⟩ b3).setCell ⟨g, 4, none⟩ b4).setCell ⟨g, 5, none⟩ b5) g t #[b0, b1, b2, b3, b4, b5, a6, a7, a8] := h4.set_ 5 b5
  have h6 : Blk (((((((w.setCell ⟨g, 0, none⟩ b0).setCell ⟨g, 1, none⟩ b1).setCell ⟨g, 2, none⟩ b2).setCell ⟨g, 3, none⟩ b3).setCell ⟨g, 4, none⟩ b4).setCell ⟨g, 5, none⟩ b5).setCell ⟨g, 6, none⟩ b6) g t #[b0, b1, b2, b3, b4, b5, b6, a7, a8] := h5.set_ 6 b6
  have h7 : Blk ((((((((w.setCell ⟨g, 0, none⟩ b0).setCell ⟨g, 1, none⟩ b1).setCell ⟨g, 2, none⟩ b2).setCell ⟨g, 3, none⟩ b3).setCell ⟨g, 4, none⟩ b4).setCell ⟨g, 5, none⟩ b5).setCell ⟨g, 6, none⟩ b6).setCell ⟨g, 7, none⟩ b7) g t #[b0, b1, b2, b3, b4, b5, b6, b7, a8] := h6.set_ 7 b7
  have h8 : Blk (((((((((w.setCell ⟨g, 0, none⟩ b0).setCell ⟨g, 1, none⟩ b1).setCell ⟨g, 2, none⟩ b2).setCell ⟨g, 3, none⟩ b3).setCell ⟨g, 4, none⟩ b4).setCell ⟨g, 5, none⟩ b5).setCell ⟨g, 6, none⟩ b6).setCell ⟨g, 7, none⟩ b7).setCell ⟨g, 8, none⟩ b8) g t #[b0, b1, b2, b3, b4, b5, b6, b7, b8] := h7.set_ 8 b8
  exact h8
theorem bsets {w W : World} (h : Below w.heap.size w W) {g : Nat} (hg : w.heap.size ≤ g) : ∀ (vs : List Value) (o : Nat), Below w.heap.size w (W.setCells g o vs) := fun vs => by
  induction vs generalizing W with
  | nil => intro o; exact h
  | cons v vs ih => intro o; exact ih (bset (p := ⟨g, o, none⟩) h hg v) (o + 1)
theorem blk_puts9 {w : World} {g : Nat} {t : TypeId} {a0 a1 a2 a3 a4 a5 a6 a7 a8 : Value} (b0 b1 b2 b3 b4 b5 b6 b7 b8 : Value) (h : Blk w g t #[a0, a1, a2, a3, a4, a5, a6, a7, a8]) : Blk (World.setCells w g 0 (#[b0, b1, b2, b3, b4, b5, b6, b7, b8] : Array Value).toList) g t #[b0, b1, b2, b3, b4, b5, b6, b7, b8] := blk_put9 b0 b1 b2 b3 b4 b5 b6 b7 b8 h
theorem store_mid0 {P : Program} {op : Oper} {a : Act} {w : World} {K : Act → World → Prop} {Q : Exit → Act → World → Prop} (hd : op.dst = none) (ty : TypeId) (x y : Operand) (ho : op.op = .store ty x y)
    (b o : Nat) (cells : Array Value) (hx : a.eval x = .pointer (some ⟨b, o, none⟩)) (hy : a.eval y = .agg cells)
    (ht : w.there b o cells.size) (hi : (P.info? ty).map (·.size) = some cells.size) (h1 : cells.all (·.oneCell') = true)
    (h : K a (w.setCells b o cells.toList)) : op.wp P a w K Q := wp_store_mid ty x y ho b o cells hx hy ht hi h1 (by rw [hd]; exact h)
theorem there_blk {w : World} {g : Nat} {t : TypeId} {cs : Array Value} (h : Blk w g t cs) : w.there g 0 cs.size := fun j hj => ⟨by rw [h.cell]; simpa using hj, h.frozen _⟩
theorem Tryz.sizeBx : (Tryz.prog.info? 46).map (·.size) = some 9 := by kernel_rfl
/-- all cells of a block are written. -/
theorem blk_all {w : World} {g : Nat} {t : TypeId} : ∀ (vs : List Value) (o : Nat) (w : World) (cs : List Value), Blk w g t cs.toArray → o + vs.length ≤ cs.length → Blk (w.setCells g o vs) g t (cs.take o ++ vs ++ cs.drop (o + vs.length)).toArray := by
  intro vs
  induction vs with
  | nil => intro o W cs h _; simpa [World.setCells] using h
  | cons v vs ih =>
    intro o W cs h hl
    simp only [List.length_cons] at hl
    have h1 : Blk (W.setCell ⟨g, o, none⟩ v) g t (cs.set o v).toArray := by simpa using h.set_ o v
    have h2 := ih (o + 1) _ _ h1 (by rw [List.length_set]; omega)
    have e : (cs.set o v).take (o + 1) ++ vs ++ (cs.set o v).drop (o + 1 + vs.length) = cs.take o ++ v :: vs ++ cs.drop (o + (vs.length + 1)) := by
      rw [List.take_add_one, List.take_set_of_le (Nat.le_refl _), List.getElem?_set_self (by omega), List.drop_set_of_lt (by omega), show o + 1 + vs.length = o + (vs.length + 1) from by omega]
      simp
    rw [e] at h2
    exact h2
theorem blk_puts2 {w : World} {g : Nat} {t : TypeId} {a0 a1 : Value} (b0 b1 : Value) (h : Blk w g t #[a0, a1]) : Blk (World.setCells w g 0 (#[b0, b1] : Array Value).toList) g t #[b0, b1] := by
  have := blk_all (w := w) (t := t) [b0, b1] 0 w [a0, a1] h (by simp)
  simpa using this

end Go.Proofs.YtbfefkhejknmoaaGreatDoor

namespace Go.Proofs.YtbfefkhejknmoaaGreatDoor

/-- moved there and back again. -/
theorem partI_back {n c : Int} (hc : c = 0 ∨ c = 1 ∨ c = 2) : partI n c + partI (-n) c = 0 ∨ partI n c + partI (-n) c = -1 := by
  unfold partI
  rcases hc with rfl | rfl | rfl <;> simp
  all_goals omega
theorem sh_back (g : Int) (was r : RC) : (shX g was r + shX g r was = 0 ∨ shX g was r + shX g r was = -1) ∧ (shY g was r + shY g r was = 0 ∨ shY g was r + shY g r was = -1) := by
  have hX : ∀ k, (halvesL.getD k (0, 0)).1 = 0 ∨ (halvesL.getD k (0, 0)).1 = 1 ∨ (halvesL.getD k (0, 0)).1 = 2 := fun k => by
    by_cases hk : k < 10
    · have : k = 0 ∨ k = 1 ∨ k = 2 ∨ k = 3 ∨ k = 4 ∨ k = 5 ∨ k = 6 ∨ k = 7 ∨ k = 8 ∨ k = 9 := by omega
      rcases this with rfl | rfl | rfl | rfl | rfl | rfl | rfl | rfl | rfl | rfl <;> decide
    · rw [List.getD, List.getElem?_eq_none (by simp [halvesL]; omega)]
      decide
  have hY : ∀ k, (halvesL.getD k (0, 0)).2 = 0 ∨ (halvesL.getD k (0, 0)).2 = 1 ∨ (halvesL.getD k (0, 0)).2 = 2 := fun k => by
    by_cases hk : k < 10
    · have : k = 0 ∨ k = 1 ∨ k = 2 ∨ k = 3 ∨ k = 4 ∨ k = 5 ∨ k = 6 ∨ k = 7 ∨ k = 8 ∨ k = 9 := by omega
      rcases this with rfl | rfl | rfl | rfl | rfl | rfl | rfl | rfl | rfl | rfl <;> decide
    · rw [List.getD, List.getElem?_eq_none (by simp [halvesL]; omega)]
      decide
  have pX := partI_back (n := r.W - was.W) (hX g.toNat)
  have pY := partI_back (n := r.H - was.H) (hY g.toNat)
  rw [show -(r.W - was.W) = was.W - r.W from by omega] at pX
  rw [show -(r.H - was.H) = was.H - r.H from by omega] at pY
  unfold shX shY
  constructor
  · split
    · left; rfl
    · split
      · left; omega
      · exact pX
  · split
    · left; rfl
    · split
      · left; omega
      · exact pY
theorem resBs_id {bs : Bxs} {ns : Nodes} {id : Int} {r : RC} {b : BX} (hb : bs id = some b) (hc : resC bs ns id r = 0) (hk : id ∉ kidsOf ns id) : resBs bs ns id r id = some (atR r b) := by
  unfold resBs
  rw [if_pos hc, hb]
  dsimp only
  by_cases e : rcOf b = r
  · rw [if_pos e, hb, ← e]
    rfl
  · rw [if_neg e]
    unfold resB
    rw [if_neg (fun h => hk h.1), if_pos rfl]
theorem resBs_kid {bs : Bxs} {ns : Nodes} {id x : Int} {r : RC} {b k : BX} (hb : bs id = some b) (hc : resC bs ns id r = 0) (hx : x ∈ kidsOf ns id) (hxi : x ≠ id) (hk : bs x = some k) :
    resBs bs ns id r x = some (moveK (rcOf b) r k) ∨ (resBs bs ns id r x = some k ∧ shX k.G (rcOf b) r = 0 ∧ shY k.G (rcOf b) r = 0) := by
  unfold resBs
  rw [if_pos hc, hb]
  dsimp only
  by_cases e : rcOf b = r
  · rw [if_pos e, hk]
    left
    subst e
    unfold moveK shX shY
    have z : ∀ c, partI 0 c = 0 := fun c => by unfold partI; split <;> simp
    simp [z]
  · rw [if_neg e]
    unfold resB
    by_cases hm : mvB bs x = true
    · rw [if_pos ⟨hx, hm⟩, hk]
      exact .inl rfl
    · rw [if_neg (fun h => hm h.2), if_neg hxi, hk]
      right
      have hg : k.G = 0 := by
        unfold mvB at hm
        rw [hk] at hm
        simpa using hm
      exact ⟨rfl, by unfold shX; rw [if_pos hg], by unfold shY; rw [if_pos hg]⟩
theorem resBs_none {bs : Bxs} {ns : Nodes} {id x : Int} {r : RC} {b : BX} (hb : bs id = some b) (hc : resC bs ns id r = 0) (hxi : x ≠ id) (hk : bs x = none) : resBs bs ns id r x = none := by
  unfold resBs
  rw [if_pos hc, hb]
  dsimp only
  by_cases e : rcOf b = r
  · rw [if_pos e, hk]
  · rw [if_neg e]
    unfold resB
    have hm : mvB bs x = false := by unfold mvB; rw [hk]
    rw [if_neg (fun h => by rw [hm] at h; cases h.2), if_neg hxi, hk]
theorem resC_zero {bs : Bxs} {ns : Nodes} {id : Int} {r : RC} (h : resC bs ns id r = 0) : ∃ b, bs id = some b ∧ id ≠ 1 ∧ hasN ns id = true ∧ (coordB r.X && coordB r.Y) = true ∧ (sideB r.W && sideB r.H) = true ∧ (rcOf b = r ∨ (kidsOf ns id).any (badB bs (rcOf b) r) = false) := by
  unfold resC at h
  by_cases h1 : id = 1
  · rw [if_pos h1] at h; cases h
  rw [if_neg h1] at h
  cases hb : bs id with
  | none => rw [hb] at h; cases h
  | some b =>
    rw [hb] at h
    dsimp only at h
    cases h2 : hasN ns id
    · rw [if_pos h2] at h; cases h
    rw [h2, if_neg (by decide)] at h
    cases h3 : coordB r.X && coordB r.Y
    · rw [if_pos h3] at h; cases h
    rw [h3, if_neg (by decide)] at h
    cases h4 : sideB r.W && sideB r.H
    · rw [if_pos h4] at h; cases h
    rw [h4, if_neg (by decide)] at h
    refine ⟨b, rfl, h1, rfl, rfl, rfl, ?_⟩
    by_cases h5 : rcOf b = r
    · exact .inl h5
    · rw [if_neg h5] at h
      right
      cases h6 : (kidsOf ns id).any (badB bs (rcOf b) r)
      · rfl
      · rw [if_pos h6] at h; cases h
theorem resBs_ok {bs : Bxs} {ns : Nodes} {id : Int} {r : RC} (hok : okBs bs) (hc : resC bs ns id r = 0) : okBs (resBs bs ns id r) := by
  obtain ⟨b, hb, _, _, h3, h4, h5⟩ := resC_zero hc
  intro i k hk
  unfold resBs at hk
  rw [if_pos hc, hb] at hk
  dsimp only at hk
  by_cases e : rcOf b = r
  · rw [if_pos e] at hk
    exact hok i k hk
  rw [if_neg e] at hk
  have h5' : (kidsOf ns id).any (badB bs (rcOf b) r) = false := by
    rcases h5 with h | h
    · exact absurd h e
    · exact h
  unfold resB at hk
  by_cases hm : i ∈ kidsOf ns id ∧ mvB bs i = true
  · rw [if_pos hm] at hk
    cases hbi : bs i with
    | none => rw [hbi] at hk; cases hk
    | some k0 =>
      rw [hbi] at hk
      cases hk
      have hbad := List.any_eq_false.1 h5' i hm.1
      unfold badB at hbad
      rw [hm.2, hbi] at hbad
      simp only [Option.getD_some, Bool.true_and] at hbad
      obtain ⟨_, _, hW, hH, hG⟩ := hok i k0 hbi
      have hx : coordB (moveK (rcOf b) r k0).X = true ∧ coordB (moveK (rcOf b) r k0).Y = true := by
        cases a1 : coordB (moveK (rcOf b) r k0).X <;> cases a2 : coordB (moveK (rcOf b) r k0).Y <;> simp [a1, a2] at hbad ⊢
      refine ⟨by simpa [coordB] using hx.1, by simpa [coordB] using hx.2, hW, hH, hG⟩
  · rw [if_neg hm] at hk
    by_cases hi : i = id
    · rw [if_pos hi] at hk
      cases hk
      obtain ⟨_, _, _, _, hG⟩ := hok id b hb
      rw [Bool.and_eq_true] at h3 h4
      exact ⟨by simpa [coordB, atR] using h3.1, by simpa [coordB, atR] using h3.2, by simpa [sideB, atR] using h4.1, by simpa [sideB, atR] using h4.2, hG⟩
    · rw [if_neg hi] at hk
      exact hok i k hk
theorem kid_ne {ns : Nodes} (h : TreeOk ns) {id x : Int} (hx : x ∈ kidsOf ns id) : x ≠ id := fun e => by
  subst e
  have := below_up h hx
  rw [below_step h] at this
  simp at this
section
variable {bs : Bxs} {ns : Nodes} {id : Int} {r : RC} {b : BX}
/-- back again: done, or out of range. -/
theorem pb_code (ht : TreeOk ns) (hb : bs id = some b) (hok : okBs bs) (hc : resC bs ns id r = 0) : resC (resBs bs ns id r) ns id (rcOf b) = 0 ∨ resC (resBs bs ns id r) ns id (rcOf b) = 1 := by
  obtain ⟨b', hb', h1, h2, _⟩ := resC_zero hc
  have hq := resBs_id hb hc (fun h => kid_ne ht h rfl)
  obtain ⟨hx, hy, hw, hh, _⟩ := hok id b hb
  unfold resC
  rw [if_neg h1, hq]
  dsimp only
  rw [if_neg (by rw [h2]; decide), if_neg (by simp [coordB, rcOf, hx, hy]), if_neg (by simp [sideB, rcOf, hw, hh])]
  split
  · exact .inl rfl
  · split
    · exact .inr rfl
    · exact .inl rfl
theorem pb_self (ht : TreeOk ns) (hb : bs id = some b) (hc : resC bs ns id r = 0) (hf : resC (resBs bs ns id r) ns id (rcOf b) = 0) : resBs (resBs bs ns id r) ns id (rcOf b) id = some b := by
  have hk : id ∉ kidsOf ns id := fun h => kid_ne ht h rfl
  rw [resBs_id (resBs_id hb hc hk) hf hk]
  rfl
/-- what a kid's box may have become. -/
def okPair (a c : Option BX) : Prop := (a = none ∧ c = none) ∨ ∃ k k', a = some k ∧ c = some k' ∧ (k'.X = k.X ∨ k'.X = k.X - 1) ∧ (k'.Y = k.Y ∨ k'.Y = k.Y - 1) ∧ k'.W = k.W ∧ k'.H = k.H ∧ k'.M = k.M
theorem pb_kid (ht : TreeOk ns) (hb : bs id = some b) (hc : resC bs ns id r = 0) (hf : resC (resBs bs ns id r) ns id (rcOf b) = 0) {x : Int} (hx : x ∈ kidsOf ns id) : okPair (bs x) (resBs (resBs bs ns id r) ns id (rcOf b) x) := by
  have hk : id ∉ kidsOf ns id := fun h => kid_ne ht h rfl
  have hxi := kid_ne ht hx
  have hq := resBs_id hb hc hk
  have hrc : rcOf (atR r b) = r := rfl
  cases hbx : bs x with
  | none => exact .inl ⟨rfl, resBs_none hq hf hxi (resBs_none hb hc hxi hbx)⟩
  | some k =>
    right
    have hs := sh_back k.G (rcOf b) r
    rcases resBs_kid hb hc hx hxi hbx with h1 | ⟨h1, z1, z2⟩
    · rcases resBs_kid hq hf hx hxi h1 with h2 | ⟨h2, y1, y2⟩
      · rw [hrc] at h2
        refine ⟨k, _, rfl, h2, ?_, ?_, rfl, rfl, rfl⟩
        · show k.X + shX k.G (rcOf b) r + shX k.G r (rcOf b) = k.X ∨ k.X + shX k.G (rcOf b) r + shX k.G r (rcOf b) = k.X - 1
          omega
        · show k.Y + shY k.G (rcOf b) r + shY k.G r (rcOf b) = k.Y ∨ k.Y + shY k.G (rcOf b) r + shY k.G r (rcOf b) = k.Y - 1
          omega
      · rw [hrc] at y1 y2
        have y1' : shX k.G r (rcOf b) = 0 := y1
        have y2' : shY k.G r (rcOf b) = 0 := y2
        refine ⟨k, _, rfl, h2, ?_, ?_, rfl, rfl, rfl⟩
        · show k.X + shX k.G (rcOf b) r = k.X ∨ k.X + shX k.G (rcOf b) r = k.X - 1
          omega
        · show k.Y + shY k.G (rcOf b) r = k.Y ∨ k.Y + shY k.G (rcOf b) r = k.Y - 1
          omega
    · rcases resBs_kid hq hf hx hxi h1 with h2 | ⟨h2, y1, y2⟩
      · rw [hrc] at h2
        refine ⟨k, _, rfl, h2, ?_, ?_, rfl, rfl, rfl⟩
        · show k.X + shX k.G r (rcOf b) = k.X ∨ k.X + shX k.G r (rcOf b) = k.X - 1
          omega
        · show k.Y + shY k.G r (rcOf b) = k.Y ∨ k.Y + shY k.G r (rcOf b) = k.Y - 1
          omega
      · exact ⟨k, k, rfl, h2, .inl rfl, .inl rfl, rfl, rfl, rfl⟩
end

end Go.Proofs.YtbfefkhejknmoaaGreatDoor
