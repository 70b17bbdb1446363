/-
  What is built, plainly: the program's boxes and the document's list go side by side.
  Trees and places where a variable's own cell is written.
  What is built, as it lies in memory: what stays where memory is made or a variable's own cell is written.
-/
import Derived.Test.YtbfefkhejknmoaaGreatDoorCh29
import Derived.Test.YtbfefkhejknmoaaGreatDoorCh35
import Derived.Test.YtbfefkhejknmoaaGreatDoorCh26
import Derived.Test.YtbfefkhejknmoaaGreatDoorCh23
namespace Go.Proofs.YtbfefkhejknmoaaGreatDoor
open Go.RowKit Go.Shelf

/-- the same but for the shape. -/
def fldD (b : BX) (d : DB) : Prop := b.X = d.b.X ∧ b.Y = d.b.Y ∧ b.W = d.b.W ∧ b.H = d.b.H ∧ b.M = d.b.M ∧ b.G = d.b.G ∧ b.B = d.b.B ∧ b.S = d.b.S
/-- boxes and a list that say the same. -/
structure RelB (sm : BX → DB → Prop) (bs : Bxs) (n : Nat) (l : List DB) : Prop where
  len : l.length = n
  nodup : (l.map DB.id).Nodup
  has : ∀ d ∈ l, ∃ b, bs d.id = some b ∧ sm b d
  non : ∀ i, (∀ d ∈ l, d.id ≠ i) → bs i = none
  ok : okBs bs

theorem findD_no : ∀ {l : List DB} {i k : Int}, 0 ≤ k → (∀ d ∈ l, d.id ≠ i) → findD l i k = -1
  | [], _, _, _, _ => rfl
  | d :: l, i, k, hk, h => by
    unfold findD
    rw [if_neg (h d (by simp))]
    exact findD_no (by omega) (fun d' hd' => h d' (by simp [hd']))
theorem findD_yes : ∀ {l : List DB} {i k : Int}, (∃ d ∈ l, d.id = i) → ∃ m : Nat, findD l i k = k + m ∧ ∃ d, l[m]? = some d ∧ d.id = i
  | [], _, _, h => by obtain ⟨d, hd, _⟩ := h; cases hd
  | d :: l, i, k, h => by
    unfold findD
    by_cases e : d.id = i
    · rw [if_pos e]
      exact ⟨0, by simp, d, rfl, e⟩
    · rw [if_neg e]
      obtain ⟨d', hd', e'⟩ := h
      rcases List.mem_cons.1 hd' with rfl | hd'
      · exact absurd e' e
      · obtain ⟨m, h1, d2, h2, h3⟩ := findD_yes (l := l) (i := i) (k := k + 1) ⟨d', hd', e'⟩
        exact ⟨m + 1, by rw [h1]; omega, d2, by simpa using h2, h3⟩
section
variable {sm : BX → DB → Prop} {bs : Bxs} {n : Nat} {l : List DB}
theorem RelB.find (h : RelB sm bs n l) (i : Int) : ((bs i).isSome = false ∧ findD l i 0 = -1 ∧ ∀ d ∈ l, d.id ≠ i) ∨ ((bs i).isSome = true ∧ ∃ (m : Nat) (d : DB), findD l i 0 = m ∧ l[m]? = some d ∧ d.id = i) := by
  by_cases e : ∃ d ∈ l, d.id = i
  · right
    obtain ⟨m, h1, d, h2, h3⟩ := findD_yes (k := 0) e
    obtain ⟨d0, hd0, e0⟩ := e
    obtain ⟨b, hb, _⟩ := h.has d0 hd0
    rw [e0] at hb
    exact ⟨by rw [hb]; rfl, m, d, by omega, h2, h3⟩
  · left
    have e' : ∀ d ∈ l, d.id ≠ i := fun d hd he => e ⟨d, hd, he⟩
    exact ⟨by rw [h.non i e']; rfl, findD_no (by omega) e', e'⟩
/-- what the program answers, by the document's answer. -/
theorem RelB.code (h : RelB sm bs n l) {b : BX} {d : DB} (hf : fldD b d) (he : b.n = 0 ↔ emptyD d.sh = true) : setC bs n d.id b = if d.id ≠ 1 ∧ idC d.id ≠ 0 then idC d.id else setD l d := by
  obtain ⟨hX, hY, hW, hH, hM, hG, hB, hS⟩ := hf
  unfold setC setD
  rw [hX, hY, hW, hH, hG, hB, hS, h.len]
  by_cases h1 : d.id = 1
  · rw [if_pos h1, if_neg (by simp [h1]), if_pos h1]
  rw [if_neg h1]
  by_cases h2 : idC d.id ≠ 0
  · rw [if_pos h2, if_pos ⟨h1, h2⟩]
  rw [if_neg h2, if_neg (show ¬ (d.id ≠ 1 ∧ idC d.id ≠ 0) from fun e => h2 e.2), if_neg h1, if_neg h2]
  by_cases h3 : (coordB d.b.X && coordB d.b.Y) = false
  · rw [if_pos h3, if_pos h3]
  rw [if_neg h3, if_neg h3]
  by_cases h4 : (sideB d.b.W && sideB d.b.H) = false
  · rw [if_pos h4, if_pos h4]
  rw [if_neg h4, if_neg h4]
  by_cases h5 : gravC d.b.G = 10 ∨ gravC d.b.B = 10
  · rw [if_pos h5, if_pos h5]
  rw [if_neg h5, if_neg h5]
  have e6 : (d.b.S = false ∧ b.n ≠ 0) ↔ (d.b.S = false ∧ emptyD d.sh = false) := by
    constructor
    · rintro ⟨a, c⟩
      refine ⟨a, ?_⟩
      cases hh : emptyD d.sh
      · rfl
      · exact absurd (he.2 hh) c
    · rintro ⟨a, c⟩
      refine ⟨a, fun e => ?_⟩
      rw [he.1 e] at c
      cases c
  by_cases h6 : d.b.S = false ∧ b.n ≠ 0
  · rw [if_pos h6, if_pos (e6.1 h6)]
  rw [if_neg h6, if_neg (fun e => h6 (e6.2 e))]
  rcases h.find d.id with ⟨f1, f2, _⟩ | ⟨f1, m, d2, f2, _⟩
  · rw [f1, f2]
    by_cases h7 : 64 ≤ n
    · rw [if_pos ⟨rfl, h7⟩, if_pos ⟨by omega, h7⟩]
    · rw [if_neg (show ¬ (false = false ∧ 64 ≤ n) from fun e => h7 e.2), if_neg (show ¬ ((-1 : Int) < 0 ∧ 64 ≤ n) from fun e => h7 e.2)]
  · rw [f1, f2, if_neg (show ¬ (true = false ∧ 64 ≤ n) from fun e => by cases e.1), if_neg (show ¬ ((m : Int) < 0 ∧ 64 ≤ n) from fun e => by omega)]
theorem setC_ok {id : Int} {b : BX} (h : setC bs n id b = 0) : okBX b ∧ id ≠ 1 ∧ idC id = 0 := by
  unfold setC at h
  split at h
  · cases h
  rename_i h1
  split at h
  · exact absurd h (by assumption)
  rename_i h2
  split at h
  · cases h
  rename_i h3
  split at h
  · cases h
  rename_i h4
  split at h
  · cases h
  rename_i h5
  have h2' : idC id = 0 := Classical.byContradiction h2
  have h3' : coordB b.X = true ∧ coordB b.Y = true := by
    cases e1 : coordB b.X <;> cases e2 : coordB b.Y <;> simp [e1, e2] at h3 ⊢
  have h4' : sideB b.W = true ∧ sideB b.H = true := by
    cases e1 : sideB b.W <;> cases e2 : sideB b.H <;> simp [e1, e2] at h4 ⊢
  have hg : gravC b.G = 0 := by
    rcases gravC_or b.G with e | e
    · exact e
    · exact absurd (.inl e) h5
  exact ⟨⟨coord_iff.1 h3'.1, coord_iff.1 h3'.2, side_iff.1 h4'.1, side_iff.1 h4'.2, hg⟩, h1, h2'⟩
/-- a setting keeps them side by side. -/
theorem RelB.set (h : RelB sm bs n l) {b : BX} {d : DB} (hs : sm b d) (hf : fldD b d) (he : b.n = 0 ↔ emptyD d.sh = true) : RelB sm (setB bs n d.id b) (setN bs n d.id b) (setL l d) := by
  have hc := h.code hf he
  by_cases h0 : setC bs n d.id b = 0
  · obtain ⟨hok, h1, h2⟩ := setC_ok h0
    rw [if_neg (by simp [h2])] at hc
    have hd : setD l d = 0 := by rw [← hc, h0]
    have e1 : setB bs n d.id b = fun j => if j = d.id then some b else bs j := by unfold setB; rw [if_pos h0]
    have e2 : setN bs n d.id b = if (bs d.id).isSome = true then n else n + 1 := by unfold setN; rw [if_pos h0]
    have e3 : setL l d = if 0 ≤ findD l d.id 0 then l.set (findD l d.id 0).toNat d else l ++ [d] := by unfold setL; rw [if_pos hd]
    have hokb : okBs (fun j => if j = d.id then some b else bs j) := fun i b' hb' => by
      dsimp only at hb'
      split at hb'
      · cases hb'; exact hok
      · exact h.ok i b' hb'
    rw [e1, e2, e3]
    rcases h.find d.id with ⟨f1, f2, f3⟩ | ⟨f1, m, d2, f2, f3, f4⟩
    · rw [f1, f2, if_neg (by decide), if_neg (by decide)]
      refine ⟨by simp [h.len], ?_, fun x hx => ?_, fun i hi => ?_, hokb⟩
      · rw [List.map_append, List.nodup_append]
        refine ⟨h.nodup, by simp, fun a ha b' hb' e => ?_⟩
        simp only [List.map_cons, List.map_nil, List.mem_singleton] at hb'
        obtain ⟨x, hx, ex⟩ := List.mem_map.1 ha
        exact f3 x hx (by rw [ex, e, hb'])
      · rcases List.mem_append.1 hx with hx | hx
        · obtain ⟨b', hb', hs'⟩ := h.has x hx
          exact ⟨b', by (try dsimp only); rw [if_neg (f3 x hx)]; exact hb', hs'⟩
        · simp only [List.mem_singleton] at hx
          subst hx
          exact ⟨b, by (try dsimp only); rw [if_pos rfl], hs⟩
      · (try dsimp only)
        rw [if_neg (fun e => hi d (by simp) e.symm)]
        exact h.non i (fun x hx => hi x (by simp [hx]))
    · rw [f1, f2, if_pos rfl, if_pos (by omega)]
      obtain ⟨hm, hme⟩ := List.getElem?_eq_some_iff.1 f3
      have emap : (l.set (m : Int).toNat d).map DB.id = l.map DB.id := by
        rw [show (m : Int).toNat = m from by omega, List.map_set]
        refine List.ext_getElem? fun j => ?_
        by_cases hj : j = m
        · subst hj
          rw [List.getElem?_set_self (by simpa using hm), List.getElem?_map, f3]
          simp [f4]
        · rw [List.getElem?_set_ne (fun e => hj e.symm)]
      rw [show (m : Int).toNat = m from by omega] at emap ⊢
      refine ⟨by simp [h.len], by rw [emap]; exact h.nodup, fun x hx => ?_, fun i hi => ?_, hokb⟩
      · by_cases hxd : x = d
        · subst hxd
          exact ⟨b, by (try dsimp only); rw [if_pos rfl], hs⟩
        · have hxl : x ∈ l := by
            rcases List.mem_or_eq_of_mem_set hx with hx | hx
            · exact hx
            · exact absurd hx hxd
          by_cases hxi : x.id = d.id
          · exfalso
            obtain ⟨j, hj, hje⟩ := List.mem_iff_getElem.1 hx
            rw [List.length_set] at hj
            by_cases hjm : j = m
            · subst hjm
              rw [List.getElem_set_self] at hje
              exact hxd hje.symm
            · rw [List.getElem_set_ne (fun e => hjm e.symm)] at hje
              have hn := List.pairwise_iff_getElem.1 h.nodup
              have e : (l.map DB.id)[j]'(by simpa using hj) = (l.map DB.id)[m]'(by simpa using hm) := by
                rw [List.getElem_map, List.getElem_map, hje, hme, hxi, f4]
              rcases Nat.lt_or_gt_of_ne hjm with hlt | hlt
              · exact hn j m (by simpa using hj) (by simpa using hm) hlt e
              · exact hn m j (by simpa using hm) (by simpa using hj) hlt e.symm
          · obtain ⟨b', hb', hs'⟩ := h.has x hxl
            exact ⟨b', by (try dsimp only); rw [if_neg hxi]; exact hb', hs'⟩
      · have hid : i ≠ d.id := fun e => hi d (List.mem_set hm d) e.symm
        (try dsimp only)
        rw [if_neg hid]
        refine h.non i (fun x hx e => ?_)
        have : i ∈ (l.set m d).map DB.id := by rw [emap]; exact List.mem_map.2 ⟨x, hx, e⟩
        obtain ⟨y, hy, ey⟩ := List.mem_map.1 this
        exact hi y hy ey
  · have e1 : setB bs n d.id b = bs := by unfold setB; rw [if_neg h0]
    have e2 : setN bs n d.id b = n := by unfold setN; rw [if_neg h0]
    have e3 : setL l d = l := by
      by_cases h2 : d.id ≠ 1 ∧ idC d.id ≠ 0
      · refine setL_keep (code := -1) ?_ (by decide)
        unfold setD
        rw [if_neg h2.1, if_pos h2.2]
      · rw [if_neg h2] at hc
        exact setL_keep hc.symm h0
    rw [e1, e2, e3]
    exact h
end

end Go.Proofs.YtbfefkhejknmoaaGreatDoor

namespace Go.Proofs.YtbfefkhejknmoaaGreatDoor
open Go.RowKit Go.Maps Go.Shelf

section
variable {P : Program} {k : TypeId} {q : IntKind} {w : World} {b n : Nat} {f : Int → Option Value}
theorem MapIs.isMap (h : MapIs P k q w b n f) : ∃ es clock, w.heap[b]? = some (.map es clock) := by
  obtain ⟨D, ⟨es, clock, h1, _⟩, _⟩ := h
  exact ⟨es, clock, h1⟩
theorem MapIs.neBlk (h : MapIs P k q w b n f) {B : Nat} {t : TypeId} {cs : Array Value} (hB : Blk w B t cs) : b ≠ B := fun e => by
  obtain ⟨es, clock, h1⟩ := h.isMap
  unfold Blk at hB
  rw [← e, h1] at hB
  cases hB
theorem MapOpt.setBlk {mb : Option Nat} (h : MapOpt P k q w mb n f) {B : Nat} {t : TypeId} {cs : Array Value} (hB : Blk w B t cs) (i : Nat) (u : Value) : MapOpt P k q (w.setCell ⟨B, i, none⟩ u) mb n f := by
  rcases h with h | ⟨b, e, h⟩
  · exact .inl h
  · exact .inr ⟨b, e, h.setCell (h.neBlk hB) u⟩
end

theorem PlaceIs.setBlk {w : World} {v : Value} {n : Nat} {bs : Bxs} (h : PlaceIs w v n bs) {B : Nat} {t : TypeId} {cs : Array Value} (hB : Blk w B t cs) (i : Nat) (u : Value) : PlaceIs (w.setCell ⟨B, i, none⟩ u) v n bs := by
  obtain ⟨mb, e, h⟩ := h
  exact ⟨mb, e, h.setBlk hB i u⟩
/-- a slice of ids doesn't lie where no ids are. -/
theorem Rd.setBlk {w : World} {A : Option Addr} {n : Nat} {l : List Int} (h : Rd w A n (U32 l)) {B : Nat} {t : TypeId} {cs : Array Value} (hB : Blk w B t cs) (hc : ∀ (j : Nat) (x : Int), cs[j]? ≠ some (.int .u32 x)) (i : Nat) (u : Value) : Rd (w.setCell ⟨B, i, none⟩ u) A n (U32 l) := by
  refine h.far' (p := ⟨B, i, none⟩) (fun hn a ea => ?_) u
  obtain ⟨b, off, e, hb, hcl⟩ := h.2 hn
  rw [e] at ea
  cases ea
  intro e'
  dsimp only at e'
  subst e'
  have hl := h.1
  match l, hl with
  | [], hl => simp [U32] at hl; omega
  | x :: l, _ =>
    have := hcl 0 (.int .u32 x) rfl
    rw [hB.cell] at this
    exact hc _ _ this
theorem TreeIs.setBlk {w : World} {v : Value} {ns : Nodes} {mk mu : Option Nat} {nk : Nat} {fk : Int → Option Value} (h : TreeIs w v ns mk mu nk fk) {B : Nat} {t : TypeId} {cs : Array Value} (hB : Blk w B t cs) (hc : ∀ (j : Nat) (x : Int), cs[j]? ≠ some (.int .u32 x)) (i : Nat) (u : Value) : TreeIs (w.setCell ⟨B, i, none⟩ u) v ns mk mu nk fk :=
  ⟨h.shape, h.kids.setBlk hB i u, h.up.setBlk hB i u, fun j => by
    obtain ⟨A, c, e, hl, hr⟩ := h.each j
    exact ⟨A, c, e, hl, hr.setBlk hB hc i u⟩, h.room, h.few, h.ok⟩
theorem maps_no (a b : Option Nat) : ∀ (j : Nat) (x : Int), (#[.map a, .map b] : Array Value)[j]? ≠ some (.int .u32 x) := fun j x => by
  match j with
  | 0 => simp
  | 1 => simp
  | j + 2 => simp
theorem map_no (a : Option Nat) : ∀ (j : Nat) (x : Int), (#[.map a] : Array Value)[j]? ≠ some (.int .u32 x) := fun j x => by
  match j with
  | 0 => simp
  | j + 1 => simp

end Go.Proofs.YtbfefkhejknmoaaGreatDoor

namespace Go.Proofs.YtbfefkhejknmoaaGreatDoor
open Go.RowKit Go.Shelf

/-- a box says what the document's box says, its shape as a band. -/
def SmD (w : World) (b : BX) (d : DB) : Prop := fldD b d ∧ ∃ out, RdR w b.A b.n out ∧ Canon out ∧ (∀ x y, InR out x y ↔ InR (d.sh.filter RC.cnt) x y) ∧ out.length ≤ 1000000000000
theorem SmD.below {w w' : World} {b : BX} {d : DB} (h : SmD w b d) (hb : Below w.heap.size w w') : SmD w' b d := by
  obtain ⟨hf, out, hr, h1, h2, h3⟩ := h
  exact ⟨hf, out, hr.below hb, h1, h2, h3⟩
theorem RdR.setBlk {w : World} {A : Option Addr} {n : Nat} {rs : List RC} (h : RdR w A n rs) {B : Nat} {t : TypeId} {cs : Array Value} (hB : Blk w B t cs) (hc : ∀ (j : Nat) (x : Int), cs[j]? ≠ some (.int .i64 x)) (i : Nat) (u : Value) : RdR (w.setCell ⟨B, i, none⟩ u) A n rs :=
  ⟨h.1, fun hn => by
    obtain ⟨b, off, e, hb, hcl⟩ := h.2 hn
    have hne : b ≠ B := fun e' => by
      subst e'
      obtain ⟨r, hr⟩ : ∃ r, rs[0]? = some r := ⟨_, List.getElem?_eq_getElem (by rw [h.1]; exact hn)⟩
      have := (hcl 0 r hr).1
      rw [hB.cell] at this
      exact hc _ _ this
    have hk : ∀ o v, w.cell? ⟨b, o, none⟩ = some v → (w.setCell ⟨B, i, none⟩ u).cell? ⟨b, o, none⟩ = some v := fun o v hv => (World.cell?_setCell_other w ⟨B, i, none⟩ ⟨b, o, none⟩ u (fun e' => by cases e'; exact hne rfl)).trans hv
    exact ⟨b, off, e, by simpa [World.setCell] using hb, fun k r hk' => by
      obtain ⟨c0, c1, c2, c3⟩ := hcl k r hk'
      exact ⟨hk _ _ c0, hk _ _ c1, hk _ _ c2, hk _ _ c3⟩⟩⟩
theorem SmD.setBlk {w : World} {b : BX} {d : DB} (h : SmD w b d) {B : Nat} {t : TypeId} {cs : Array Value} (hB : Blk w B t cs) (hc : ∀ (j : Nat) (x : Int), cs[j]? ≠ some (.int .i64 x)) (i : Nat) (u : Value) : SmD (w.setCell ⟨B, i, none⟩ u) b d := by
  obtain ⟨hf, out, hr, h1, h2, h3⟩ := h
  exact ⟨hf, out, hr.setBlk hB hc i u, h1, h2, h3⟩
theorem RdF.setBlk {α : Type} {f : α → List Value} {m : Nat} {w : World} {A : Option Addr} {n : Nat} {l : List α} (h : RdF f m w A n l) (hf : ∀ x, ∃ k, (f x)[0]? = some (.int .u32 k)) {B : Nat} {t : TypeId} {cs : Array Value} (hB : Blk w B t cs) (hc : ∀ (j : Nat) (x : Int), cs[j]? ≠ some (.int .u32 x)) (i : Nat) (u : Value) : RdF f m (w.setCell ⟨B, i, none⟩ u) A n l :=
  ⟨h.1, fun hn => by
    obtain ⟨b, off, e, hb, hcl⟩ := h.2 hn
    have hne : b ≠ B := fun e' => by
      subst e'
      obtain ⟨r, hr⟩ : ∃ r, l[0]? = some r := ⟨_, List.getElem?_eq_getElem (by rw [h.1]; exact hn)⟩
      obtain ⟨k, hk⟩ := hf r
      have := hcl 0 r hr 0 _ hk
      rw [hB.cell] at this
      exact hc _ _ this
    exact ⟨b, off, e, by simpa [World.setCell] using hb, fun k x hk' j v hv => (World.cell?_setCell_other w ⟨B, i, none⟩ ⟨b, off + k * m + j, none⟩ u (fun e' => by cases e'; exact hne rfl)).trans (hcl k x hk' j v hv)⟩⟩
theorem db_first (d : DB) : ∃ k, d.cells[0]? = some (.int .u32 k) := ⟨d.id, rfl⟩
theorem nd_first (p : Int × Int) : ∃ k, (ndC p)[0]? = some (.int .u32 k) := ⟨p.1, rfl⟩
theorem maps_noI (a b : Option Nat) : ∀ (j : Nat) (x : Int), (#[.map a, .map b] : Array Value)[j]? ≠ some (.int .i64 x) := fun j x => by
  match j with
  | 0 => simp
  | 1 => simp
  | j + 2 => simp
theorem map_noI (a : Option Nat) : ∀ (j : Nat) (x : Int), (#[.map a] : Array Value)[j]? ≠ some (.int .i64 x) := fun j x => by
  match j with
  | 0 => simp
  | j + 1 => simp
theorem RelB.mono {sm sm' : BX → DB → Prop} {bs : Bxs} {n : Nat} {l : List DB} (h : RelB sm bs n l) (hs : ∀ b d, sm b d → sm' b d) : RelB sm' bs n l :=
  ⟨h.len, h.nodup, fun d hd => by
    obtain ⟨b, hb, hsm⟩ := h.has d hd
    exact ⟨b, hb, hs b d hsm⟩, h.non, h.ok⟩
/-- a band without rectangles: the shape has no places. -/
theorem SmD.empty {w : World} {b : BX} {d : DB} (h : SmD w b d) : b.n = 0 ↔ emptyD d.sh = true := by
  obtain ⟨_, out, hr, hc, hp, _⟩ := h
  constructor
  · intro h0
    have ho : out = [] := List.eq_nil_of_length_eq_zero (hr.1.trans h0)
    unfold emptyD
    rw [List.all_eq_true]
    intro r hrm
    cases e : r.cnt
    · rfl
    · exfalso
      have hf := (cnt_iff r).1 e
      have hin : InR (d.sh.filter RC.cnt) r.X r.Y := ⟨r, List.mem_filter.2 ⟨hrm, e⟩, by omega, by omega, by omega, by omega⟩
      obtain ⟨q, hq, _⟩ := (hp r.X r.Y).2 hin
      rw [ho] at hq
      cases hq
  · intro he
    refine Classical.byContradiction fun h0 => ?_
    have hlen : 0 < out.length := by rw [hr.1]; omega
    have hq := hc
    have hpos := canon_pos hc out[0] (List.getElem_mem hlen)
    have hin : InR out out[0].X out[0].Y := ⟨out[0], List.getElem_mem hlen, by omega, by omega, by omega, by omega⟩
    obtain ⟨r, hrm, _⟩ := (hp _ _).1 hin
    obtain ⟨hr1, hr2⟩ := List.mem_filter.1 hrm
    unfold emptyD at he
    have := List.all_eq_true.1 he r hr1
    rw [hr2] at this
    cases this

/-- all that built has at hand in a world. -/
structure BuiltAt (w : World) (tv pv : Value) (An : Option Addr) (nn : Nat) (Al : Option Addr) (ns : Nodes) (n : Nat) (bs : Bxs) (l : List DB) (nk : Nat) (mk mu : Option Nat) (fk : Int → Option Value) : Prop where
  tree : TreeIs w tv ns mk mu nk fk
  tok : TreeOk ns
  nodes : RdN w An nn ns
  place : PlaceIs w pv n bs
  rel : RelB (SmD w) bs n l
  list : RdD w Al n l
theorem BuiltAt.below {w w' : World} {tv pv : Value} {An : Option Addr} {nn : Nat} {Al : Option Addr} {ns : Nodes} {n : Nat} {bs : Bxs} {l : List DB} {nk : Nat} {mk mu : Option Nat} {fk : Int → Option Value} (h : BuiltAt w tv pv An nn Al ns n bs l nk mk mu fk) (hb : Below w.heap.size w w') : BuiltAt w' tv pv An nn Al ns n bs l nk mk mu fk :=
  ⟨h.tree.below hb, h.tok, h.nodes.below hb, h.place.below hb, h.rel.mono (fun _ _ hs => hs.below hb), h.list.below hb⟩
theorem BuiltAt.setBlk {w : World} {tv pv : Value} {An : Option Addr} {nn : Nat} {Al : Option Addr} {ns : Nodes} {n : Nat} {bs : Bxs} {l : List DB} {nk : Nat} {mk mu : Option Nat} {fk : Int → Option Value} (h : BuiltAt w tv pv An nn Al ns n bs l nk mk mu fk) {B : Nat} {t : TypeId} {cs : Array Value} (hB : Blk w B t cs) (hu : ∀ (j : Nat) (x : Int), cs[j]? ≠ some (.int .u32 x)) (hi : ∀ (j : Nat) (x : Int), cs[j]? ≠ some (.int .i64 x)) (i : Nat) (u : Value) : BuiltAt (w.setCell ⟨B, i, none⟩ u) tv pv An nn Al ns n bs l nk mk mu fk :=
  ⟨h.tree.setBlk hB hu i u, h.tok, RdN.ofF (h.nodes.toF.setBlk nd_first hB hu i u), h.place.setBlk hB i u, h.rel.mono (fun _ _ hs => hs.setBlk hB hi i u), h.list.setBlk db_first hB hu i u⟩

end Go.Proofs.YtbfefkhejknmoaaGreatDoor
