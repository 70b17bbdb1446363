/-
  The walks of what a view tells of one window: Clip, Visible, Origin, Viewable.
  tree.Add and place.Set, each in one contract.
  Trees and places where a variable's own cell is written.
  The document's windows in memory; their ids; the walks of id, great and size.
  Laws for regions that draw: a struct that is built; what stays where another block is written whole.
-/
import Derived.Test.YtdaedkolpfkdjaaGreatZE27
import Derived.Test.YtdaedkolpfkdjaaGreatZE03
import Derived.Test.YtdaedkolpfkdjaaGreatZE06
import Derived.Test.YtdaedkolpfkdjaaGreatZE10
import Derived.Test.YtdaedkolpfkdjaaGreatZE04
import Derived.Great.BuildSlice
section
namespace Go.Proofs.YtdaedkolpfkdjaaGreat
open Go.RowKit Go.Maps Go.Shelf

theorem Tryz.fieldClip (a b : Int) (B : Option Addr) (m d : Nat) (w : World) : Sem.run Tryz.prog (Instr.field 188 (.agg #[.int .i64 a, .int .i64 b, .slice B m d]) 1) w = .ok (.agg #[.slice B m d]) w := by kernel_rfl
theorem take_snocI' {α : Type} {l : List α} {k : Nat} {x : α} (h : l[k]? = some x) : l.take (k + 1) = l.take k ++ [x] := by rw [List.take_add_one, h]; rfl
section
variable {w : World} {v : Value} {A : Option Addr} {n c : Nat} {mv : Option Nat} {nm : Nat} {f : Int → Option Value} {ord : List Int} {es : List (Int × Places)} {og : Int → Int × Int} {RW RH : Nat}
set_option maxRecDepth 100000 in
theorem vclip_any (i : Int) (hi : 0 ≤ i ∧ i ≤ 4294967295) (h : ViewIs w v A n c mv nm f ord es og RW RH) :
    Calls Tryz.prog 31 #[v, .int .u32 i] w fun e w' => ∃ u out, e = .returned u ∧ RegAt w' u out ∧ (∀ x y, inB out x y = showB es x y i) ∧ Below w.heap.size w w' := by
  obtain ⟨B, d, out, hg, hr, hp, hs, hnr, hln⟩ := h.look i
  have hv := h.shape
  subst hv
  have HM := Lib.hid h.map
  have HWF := Lib.hid (u32_wf hi)
  have HG := Lib.hid hg
  have HR := Lib.hid hr
  have HP := Lib.hid hp
  clear h hg hr hp hs hnr hln
  have hfc := Tryz.fieldClip
  go_enter Tryz.func31, Tryz.ntmps31
  go_wp2_with (at_lookup; refine opt_look rfl _ _ 50 rfl 48 188 .u32 Tryz.underlying48 Tryz.underlying50 (shV 0 0 none 0 0) (Tryz.zeroShown _) mv nm f rfl (HM.out.below (by first | exact bal (bal (bre _) _) _ | exact bal (bre _) _)) i rfl HWF.out ?_; rw [HG.out]; unfold shV)
  have hk := blk_new2 w (.cells #[.slice A n c, .map mv] 52) 57 #[.slice B out.length d]
  have hb := bal (bal (bre w) (.cells #[.slice A n c, .map mv] 52)) (.cells #[.slice B out.length d] 57)
  have r0 := hk.cellV (i := 0) (v := .slice B out.length d) rfl
  refine bodyPost_ret (v := .agg #[.slice B out.length d]) (by simp [results, Tryz.results31, go_sem, r0]) rfl ⟨_, out, rfl, HR.out.below hb, HP.out, hb⟩
set_option maxRecDepth 100000 in
theorem vvisible_any (i : Int) (hi : 0 ≤ i ∧ i ≤ 4294967295) (h : ViewIs w v A n c mv nm f ord es og RW RH) :
    Calls Tryz.prog 28 #[v, .int .u32 i] w fun e w' => ∃ u out, e = .returned u ∧ RegAt w' u out ∧ (∀ x y, inB out x y = showB es (x + (ogV es og i).1) (y + (ogV es og i).2) i) ∧ Below w.heap.size w w' := by
  obtain ⟨B, d, out, hg, hr, hp, hs, hnr, hln⟩ := h.look i
  have hv := h.shape
  subst hv
  have HM := Lib.hid h.map
  have HWF := Lib.hid (u32_wf hi)
  have HV := Lib.hid h
  obtain ⟨ox, hox⟩ : ∃ ox, (ogV es og i).1 = ox := ⟨_, rfl⟩
  obtain ⟨oy, hoy⟩ : ∃ oy, (ogV es og i).2 = oy := ⟨_, rfl⟩
  rw [hox, hoy] at hg hnr ⊢
  have HG := Lib.hid hg
  have HR := Lib.hid hr
  have HP := Lib.hid hp
  clear h hg hr hp hs hox hoy
  go_enter Tryz.func28, Tryz.ntmps28
  go_wp2_with (at_lookup; refine opt_look rfl _ _ 50 rfl 48 188 .u32 Tryz.underlying48 Tryz.underlying50 (shV 0 0 none 0 0) (Tryz.zeroShown _) mv nm f rfl (HM.out.below (by first | exact bal (bal (bre _) _) _ | exact bal (bre _) _)) i rfl HWF.out ?_; rw [HG.out]; unfold shV)
  have hba := bal (bal (bal (bre w) (.cells #[.slice A n c, .map mv] 52)) (.cells #[.slice none 0 0] 57)) (.cells #[.int .i64 ox, .int .i64 oy, .slice B out.length d] 188)
  have hk4 := (blk_new2 w (.cells #[.slice A n c, .map mv] 52) 57 #[.slice none 0 0]).alloc (.cells #[.int .i64 ox, .int .i64 oy, .slice B out.length d] 188)
  refine (shift_any (.agg #[.slice B out.length d]) out (-ox) (-oy) _ (HR.out.below hba) (by omega) (by omega) hln).mono ?_
  rintro e w2 ⟨u, o2, rfl, hr2, hi2, hb2⟩
  have HR2 := Lib.hid hr2
  obtain ⟨B2, d2, rfl, _⟩ := hr2
  have HB2 := Lib.hid (bstep hba hb2)
  have K4 := Lib.hid (hk4.belowS hb2)
  have HI2 := Lib.hid hi2
  have q4 := K4.out.cellV (i := 0) (v := .slice none 0 0) rfl
  have f4 := K4.out.frozen 0
  have l4 := K4.out.lt
  clear hba hk4 hi2 hb2
  go_wp2_with fail
  have hk := K4.out.set_ 0 (.slice B2 o2.length d2)
  have hb := bset (p := ⟨w.heap.size + 1, 0, none⟩) HB2.out (by show w.heap.size ≤ w.heap.size + 1; omega) (.slice B2 o2.length d2)
  have hrf := HR2.out.farS K4.out (.slice B2 o2.length d2)
  have r0 := hk.cellV (i := 0) (v := .slice B2 o2.length d2) rfl
  refine bodyPost_ret (v := .agg #[.slice B2 o2.length d2]) (by simp [results, Tryz.results28, go_sem, r0]) rfl ⟨_, o2, rfl, hrf, fun x y => ?_, hb⟩
  rw [Bool.eq_iff_iff, inB_iff, HI2.out, shift_places HR.out.cnt, ← inB_iff, HP.out]
  rw [show x - -ox = x + ox by omega, show y - -oy = y + oy by omega]
  constructor
  · exact fun h => h.1
  · intro h
    have h1 := HV.out.small i _ _ h
    have h2 := HV.out.side
    exact ⟨h, by omega, by omega⟩

end

end Go.Proofs.YtdaedkolpfkdjaaGreat
end

section
namespace Go.Proofs.YtdaedkolpfkdjaaGreat
open Go.RowKit Go.Maps Go.Shelf

theorem tadd_any (v : Value) (ns : Nodes) (mk mu : Option Nat) (nk : Nat) (fk : Int → Option Value) (id p : Int) (w : World) (hid : 0 ≤ id ∧ id ≤ 4294967295) (hp : 0 ≤ p ∧ p ≤ 4294967295) (h : TreeIs w v ns mk mu nk fk) :
    Calls Tryz.prog 80 #[v, .int .u32 id, .int .u32 p] w fun e w' => (∃ v' mk' mu' nk' fk', e = .returned (.tuple #[v', .int .i64 (addC ns id p)]) ∧ TreeIs w' v' (addN ns id p) mk' mu' nk' fk') ∧ Below w.heap.size w w' := by
  have keep : ∀ code : Int, code ≠ 0 → addC ns id p = code → ((idC id = code ∧ (code != 0) = true) ∨ (idC id = 0 ∧ ((hasN ns id = true ∧ code = 7) ∨ (hasN ns id = false ∧ ((hasN ns p = false ∧ code = 6) ∨ (hasN ns p = true ∧ decide ((64 : Int) ≤ (ns.length : Int) + 1) = true ∧ code = 5)))))) → Calls Tryz.prog 80 #[v, .int .u32 id, .int .u32 p] w fun e w' => (∃ v' mk' mu' nk' fk', e = .returned (.tuple #[v', .int .i64 (addC ns id p)]) ∧ TreeIs w' v' (addN ns id p) mk' mu' nk' fk') ∧ Below w.heap.size w w' := by
    intro code h0 hc hh
    refine (tadd_err v ns mk mu nk fk id p code w hid hp h hh).mono ?_
    rintro e w' ⟨rfl, hb⟩
    have e0 : addN ns id p = ns := by unfold addN; rw [hc, if_neg h0]
    rw [hc, e0]
    exact ⟨⟨v, mk, mu, nk, fk, rfl, h.below hb⟩, hb⟩
  by_cases h1 : idC id = 0
  · cases h2 : hasN ns id
    · cases h3 : hasN ns p
      · exact keep 6 (by decide) (by simp [addC, h1, h2, h3]) (.inr ⟨h1, .inr ⟨h2, .inl ⟨h3, rfl⟩⟩⟩)
      · by_cases h4 : 64 ≤ ns.length + 1
        · exact keep 5 (by decide) (by simp [addC, h1, h2, h3, h4]) (.inr ⟨h1, .inr ⟨h2, .inr ⟨h3, decide_eq_true (by omega), rfl⟩⟩⟩)
        · have hc : addC ns id p = 0 := by simp [addC, h1, h2, h3, h4]
          refine (tadd_ok v ns mk mu nk fk id p w hid hp h h1 h2 h3 (decide_eq_false (by omega))).mono ?_
          rintro e w' ⟨⟨v', mk', mu', nk', fk', rfl, h'⟩, hb⟩
          have e0 : addN ns id p = ns ++ [(id, p)] := by unfold addN; rw [hc, if_pos rfl]
          rw [hc, e0]
          exact ⟨⟨v', mk', mu', nk', fk', rfl, h'⟩, hb⟩
    · exact keep 7 (by decide) (by simp [addC, h1, h2]) (.inr ⟨h1, .inl ⟨h2, rfl⟩⟩)
  · exact keep (idC id) h1 (by simp [addC, h1]) (.inl ⟨rfl, by simp [h1]⟩)

/-- what Set answers. -/
def setC (bs : Bxs) (n : Nat) (id : Int) (b : BX) : Int :=
  if id = 1 then 23 else if idC id ≠ 0 then idC id else if (coordB b.X && coordB b.Y) = false then 1 else if (sideB b.W && sideB b.H) = false then 17 else if gravC b.G = 10 ∨ gravC b.B = 10 then 10 else if b.S = false ∧ b.n ≠ 0 then 14 else if (bs id).isSome = false ∧ 64 ≤ n then 5 else if n = 0 then 9 else 0
/-- the boxes behind it. -/
def setB (bs : Bxs) (n : Nat) (id : Int) (b : BX) : Bxs := if setC bs n id b = 0 then fun j => if j = id then some b else bs j else bs
def setN (bs : Bxs) (n : Nat) (id : Int) (b : BX) : Nat := if setC bs n id b = 0 then (if (bs id).isSome then n else n + 1) else n
theorem gravC_or (g : Int) : gravC g = 0 ∨ gravC g = 10 := by
  unfold gravC
  split
  · exact .inl rfl
  · exact .inr rfl

theorem pset_any (pv : Value) (n : Nat) (bs : Bxs) (id : Int) (b : BX) (w : World) (hid : 0 ≤ id ∧ id ≤ 4294967295) (hn : n ≤ 1000) (hp : PlaceIs w pv n bs) (hz : n = 0 → bs id = none) :
    Calls Tryz.prog 81 #[pv, .int .u32 id, b.v] w fun e w' => ∃ pv', e = .returned (.tuple #[pv', .int .i64 (setC bs n id b)]) ∧ PlaceIs w' pv' (setN bs n id b) (setB bs n id b) ∧ Below w.heap.size w w' := by
  have keep : ∀ code : Int, code ≠ 0 → setC bs n id b = code → SetErr id b n (bs id).isSome code → Calls Tryz.prog 81 #[pv, .int .u32 id, b.v] w fun e w' => ∃ pv', e = .returned (.tuple #[pv', .int .i64 (setC bs n id b)]) ∧ PlaceIs w' pv' (setN bs n id b) (setB bs n id b) ∧ Below w.heap.size w w' := by
    intro code h0 hc hh
    refine (pset_err pv n bs id b code w hid hn hp hh).mono ?_
    rintro e w' ⟨rfl, hb⟩
    have e0 : setB bs n id b = bs := by unfold setB; rw [hc, if_neg h0]
    have e1 : setN bs n id b = n := by unfold setN; rw [hc, if_neg h0]
    rw [hc, e0, e1]
    exact ⟨pv, rfl, hp.below hb, hb⟩
  by_cases h1 : id = 1
  · exact keep 23 (by decide) (by simp [setC, h1]) (.inl ⟨h1, rfl⟩)
  by_cases h2 : idC id = 0
  rotate_left
  · exact keep (idC id) h2 (by simp [setC, h1, h2]) (.inr ⟨h1, .inl ⟨h2, rfl⟩⟩)
  have s2 : ∀ {code}, _ → SetErr id b n (bs id).isSome code := fun {code} x => .inr ⟨h1, .inr ⟨h2, x⟩⟩
  cases hx : coordB b.X
  · exact keep 1 (by decide) (by simp [setC, h1, h2, hx]) (s2 (.inl ⟨hx, rfl⟩))
  cases hy : coordB b.Y
  · exact keep 1 (by decide) (by simp [setC, h1, h2, hx, hy]) (s2 (.inr ⟨hx, .inl ⟨hy, rfl⟩⟩))
  cases hw : sideB b.W
  · exact keep 17 (by decide) (by simp [setC, h1, h2, hx, hy, hw]) (s2 (.inr ⟨hx, .inr ⟨hy, .inl ⟨hw, rfl⟩⟩⟩))
  cases hh : sideB b.H
  · exact keep 17 (by decide) (by simp [setC, h1, h2, hx, hy, hw, hh]) (s2 (.inr ⟨hx, .inr ⟨hy, .inr ⟨hw, .inl ⟨hh, rfl⟩⟩⟩⟩))
  have s3 : ∀ {code}, _ → SetErr id b n (bs id).isSome code := fun {code} x => s2 (.inr ⟨hx, .inr ⟨hy, .inr ⟨hw, .inr ⟨hh, x⟩⟩⟩⟩)
  rcases gravC_or b.G with hg | hg
  rotate_left
  · exact keep 10 (by decide) (by simp [setC, h1, h2, hx, hy, hw, hh, hg]) (s3 (.inl ⟨hg, rfl⟩))
  rcases gravC_or b.B with hb | hb
  rotate_left
  · exact keep 10 (by decide) (by simp [setC, h1, h2, hx, hy, hw, hh, hg, hb]) (s3 (.inr ⟨hg, .inl ⟨hb, rfl⟩⟩))
  by_cases hs : b.S = false ∧ b.n ≠ 0
  · exact keep 14 (by decide) (by simp [setC, h1, h2, hx, hy, hw, hh, hg, hb, hs]) (s3 (.inr ⟨hg, .inr ⟨hb, .inl ⟨hs.1, decide_eq_false hs.2, rfl⟩⟩⟩))
  have hS : b.S = true ∨ (b.S = false ∧ decide (b.n = 0) = true) := by
    cases e : b.S
    · exact .inr ⟨rfl, decide_eq_true (Classical.byContradiction fun h => hs ⟨e, h⟩)⟩
    · exact .inl rfl
  have hs' : ¬ (b.S = false ∧ ¬ b.n = 0) := hs
  by_cases hm : (bs id).isSome = false ∧ 64 ≤ n
  · have hm1 : bs id = none := by simpa using hm.1
    exact keep 5 (by decide) (by simp [setC, h1, h2, hx, hy, hw, hh, hg, hb, hs', hm1, hm.2]) (s3 (.inr ⟨hg, .inr ⟨hb, .inr ⟨hS, .inl ⟨hm.1, decide_eq_true (by omega), rfl⟩⟩⟩⟩))
  have hc1 : setC bs n id b = if n = 0 then 9 else 0 := by
    unfold setC
    rw [if_neg h1, if_neg (by simp [h2]), if_neg (by simp [hx, hy]), if_neg (by simp [hw, hh]), if_neg (by simp [hg, hb]), if_neg hs, if_neg hm]
  by_cases h0 : n = 0
  · have hno : (bs id).isSome = false := by rw [hz h0]; rfl
    exact keep 9 (by decide) (by rw [hc1, if_pos h0]) (s3 (.inr ⟨hg, .inr ⟨hb, .inr ⟨hS, .inr ⟨hno, decide_eq_false (by omega), by rw [h0]; rfl, rfl⟩⟩⟩⟩))
  · have hc : setC bs n id b = 0 := by rw [hc1, if_neg h0]
    refine (pset_ok pv n bs id b w hid hn hp h1 h2 hx hy hw hh hg hb hS ?_ (by simp; omega)).mono ?_
    · cases e : (bs id).isSome
      · refine .inr ⟨rfl, decide_eq_false fun h => hm ⟨e, by omega⟩⟩
      · exact .inl rfl
    · rintro e w' ⟨pv', rfl, hp', hb'⟩
      have e0 : setB bs n id b = fun j => if j = id then some b else bs j := by unfold setB; rw [hc, if_pos rfl]
      have e1 : setN bs n id b = if (bs id).isSome then n else n + 1 := by unfold setN; rw [hc, if_pos rfl]
      rw [hc, e0, e1]
      exact ⟨pv', rfl, hp', hb'⟩

end Go.Proofs.YtdaedkolpfkdjaaGreat
end

section
namespace Go.Proofs.YtdaedkolpfkdjaaGreat
open Go.RowKit Go.Maps Go.Shelf

section
variable {P : Program} {k : TypeId} {q : IntKind} {w : World} {b n : Nat} {f : Int → Option Value}
theorem MapIs.isMap (h : MapIs P k q w b n f) : ∃ es clock, w.heap[b]? = some (.map es clock) := by
  obtain ⟨D, ⟨es, clock, h1, _⟩, _⟩ := h
  exact ⟨es, clock, h1⟩
theorem MapIs.neBlk (h : MapIs P k q w b n f) {B : Nat} {t : TypeId} {cs : Array Value} (hB : Blk w B t cs) : b ≠ B := fun e => by
  obtain ⟨es, clock, h1⟩ := h.isMap
  unfold Blk at hB
  rw [← e, h1] at hB
  cases hB
theorem MapOpt.setBlk {mb : Option Nat} (h : MapOpt P k q w mb n f) {B : Nat} {t : TypeId} {cs : Array Value} (hB : Blk w B t cs) (i : Nat) (u : Value) : MapOpt P k q (w.setCell ⟨B, i, none⟩ u) mb n f := by
  rcases h with h | ⟨b, e, h⟩
  · exact .inl h
  · exact .inr ⟨b, e, h.setCell (h.neBlk hB) u⟩
end

theorem PlaceIs.setBlk {w : World} {v : Value} {n : Nat} {bs : Bxs} (h : PlaceIs w v n bs) {B : Nat} {t : TypeId} {cs : Array Value} (hB : Blk w B t cs) (i : Nat) (u : Value) : PlaceIs (w.setCell ⟨B, i, none⟩ u) v n bs := by
  obtain ⟨mb, e, h⟩ := h
  exact ⟨mb, e, h.setBlk hB i u⟩
/-- a slice of ids doesn't lie where no ids are. -/
theorem Rd.setBlk {w : World} {A : Option Addr} {n : Nat} {l : List Int} (h : Rd w A n (U32 l)) {B : Nat} {t : TypeId} {cs : Array Value} (hB : Blk w B t cs) (hc : ∀ (j : Nat) (x : Int), cs[j]? ≠ some (.int .u32 x)) (i : Nat) (u : Value) : Rd (w.setCell ⟨B, i, none⟩ u) A n (U32 l) := by
  refine h.far' (p := ⟨B, i, none⟩) (fun hn a ea => ?_) u
  obtain ⟨b, off, e, hb, hcl⟩ := h.2 hn
  rw [e] at ea
  cases ea
  intro e'
  dsimp only at e'
  subst e'
  have hl := h.1
  match l, hl with
  | [], hl => simp [U32] at hl; omega
  | x :: l, _ =>
    have := hcl 0 (.int .u32 x) rfl
    rw [hB.cell] at this
    exact hc _ _ this
theorem TreeIs.setBlk {w : World} {v : Value} {ns : Nodes} {mk mu : Option Nat} {nk : Nat} {fk : Int → Option Value} (h : TreeIs w v ns mk mu nk fk) {B : Nat} {t : TypeId} {cs : Array Value} (hB : Blk w B t cs) (hc : ∀ (j : Nat) (x : Int), cs[j]? ≠ some (.int .u32 x)) (i : Nat) (u : Value) : TreeIs (w.setCell ⟨B, i, none⟩ u) v ns mk mu nk fk :=
  ⟨h.shape, h.kids.setBlk hB i u, h.up.setBlk hB i u, fun j => by
    obtain ⟨A, c, e, hl, hr⟩ := h.each j
    exact ⟨A, c, e, hl, hr.setBlk hB hc i u⟩, h.room, h.few, h.ok, h.keys⟩
theorem maps_no (a b : Option Nat) : ∀ (j : Nat) (x : Int), (#[.map a, .map b] : Array Value)[j]? ≠ some (.int .u32 x) := fun j x => by
  match j with
  | 0 => simp
  | 1 => simp
  | j + 2 => simp
theorem map_no (a : Option Nat) : ∀ (j : Nat) (x : Int), (#[.map a] : Array Value)[j]? ≠ some (.int .u32 x) := fun j x => by
  match j with
  | 0 => simp
  | j + 1 => simp

end Go.Proofs.YtdaedkolpfkdjaaGreat
end

section
namespace Go.Proofs.YtdaedkolpfkdjaaGreat
open Go.RowKit Go.Maps Go.Shelf

def DW.cells (d : DW) : List Value := [.int .i64 d.P, .int .i64 d.X, .int .i64 d.Y, .int .i64 d.W, .int .i64 d.H, .bool d.M, .bool d.S, .slice d.A d.n d.c]
theorem DW.cells_len (d : DW) : d.cells.length = 8 := rfl
/-- a slice that reads as windows. -/
structure RdWs (w : World) (A : Option Addr) (n : Nat) (l : List DW) : Prop where
  recs : RdF DW.cells 8 w A n l
  shapes : ∀ d ∈ l, RdR w d.A d.n d.sh
theorem RdWs.below {w w' : World} {A : Option Addr} {n : Nat} {l : List DW} (h : RdWs w A n l) (hb : Below w.heap.size w w') : RdWs w' A n l := ⟨h.recs.below hb, fun d hd => (h.shapes d hd).below hb⟩
theorem RdWs.at_ {w : World} {A : Option Addr} {n : Nat} {l : List DW} (h : RdWs w A n l) (hn : 0 < n) : ∃ b off, A = some ⟨b, off, none⟩ ∧ b < w.heap.size ∧ ∀ k d, l[k]? = some d → (w.cell? ⟨b, off + k * 8, none⟩ = some (.int .i64 d.P) ∧ w.cell? ⟨b, off + k * 8 + 1, none⟩ = some (.int .i64 d.X) ∧ w.cell? ⟨b, off + k * 8 + 2, none⟩ = some (.int .i64 d.Y) ∧ w.cell? ⟨b, off + k * 8 + 3, none⟩ = some (.int .i64 d.W)) ∧ w.cell? ⟨b, off + k * 8 + 4, none⟩ = some (.int .i64 d.H) ∧ w.cell? ⟨b, off + k * 8 + 5, none⟩ = some (.bool d.M) ∧ w.cell? ⟨b, off + k * 8 + 6, none⟩ = some (.bool d.S) ∧ w.cell? ⟨b, off + k * 8 + 7, none⟩ = some (.slice d.A d.n d.c) := by
  obtain ⟨b, off, e, hb, hc⟩ := h.recs.2 hn
  exact ⟨b, off, e, hb, fun k d hk => ⟨⟨hc k d hk 0 _ rfl, hc k d hk 1 _ rfl, hc k d hk 2 _ rfl, hc k d hk 3 _ rfl⟩, hc k d hk 4 _ rfl, hc k d hk 5 _ rfl, hc k d hk 6 _ rfl, hc k d hk 7 _ rfl⟩⟩
theorem idW_bd {n : Int} (h : -1 ≤ n ∧ n ≤ 1000000) : 0 ≤ idW n ∧ idW n ≤ 4294967295 := by
  unfold idW
  split <;> omega

set_option maxRecDepth 100000 in
theorem id_any (n : Int) (w : World) (h : -1 ≤ n ∧ n ≤ 1000000) : Calls Tryz.prog 24 #[.int .i64 n] w fun e w' => e = .returned (.int .u32 (idW n)) ∧ w = w' := by
  by_cases h0 : n < 0
  · have e : idW n = 1 := by unfold idW; rw [if_pos h0]
    rw [e]
    go_enter Tryz.func24, Tryz.ntmps24
    go_wp2_with fail
    go_ret
    exact ⟨rfl, rfl⟩
  · have e : idW n = 1048576 + n + 1 := by unfold idW; rw [if_neg h0]; omega
    have e1 : IntKind.i64.wrap (1048576 + n) = 1048576 + n := IntWalk.i64_in _ (by omega)
    have e2 : IntKind.i64.wrap (1048576 + n + 1) = 1048576 + n + 1 := IntWalk.i64_in _ (by omega)
    have e3 : IntKind.u32.wrap (1048576 + n + 1) = 1048576 + n + 1 := IntWalk.u32_in _ (by omega)
    rw [e]
    go_enter Tryz.func24, Tryz.ntmps24
    go_wp2_with fail
    go_ret
    exact ⟨rfl, rfl⟩

set_option maxRecDepth 100000 in
theorem great_any (a b : Int) (A : Option Addr) (n c : Nat) (w : World) (hn : n ≤ maxLen) : Calls Tryz.prog 18 #[.agg #[.int .u8 a, .int .u8 b, .slice A n c]] w fun e w' => e = .returned (.bool (decide (7 < n))) ∧ Below w.heap.size w w' := by
  simp only [maxLen] at hn
  by_cases h : 7 < n
  · have k1 : (7 : Int) < (n : Int) := by omega
    rw [decide_eq_true h]
    go_enter Tryz.func18, Tryz.ntmps18
    go_wp2_with fail
    go_ret
    exact ⟨by simp, bal (bre w) _⟩
  · have k1 : ¬ (7 : Int) < (n : Int) := by omega
    rw [decide_eq_false h]
    go_enter Tryz.func18, Tryz.ntmps18
    go_wp2_with fail
    go_ret
    exact ⟨by simp, bal (bre w) _⟩

set_option maxRecDepth 100000 in
set_option maxHeartbeats 1000000 in
theorem size_any31 (a b : Int) (A : Option Addr) (n c : Nat) (w : World) (ha : 0 ≤ a ∧ a ≤ 255) (hb : 0 ≤ b ∧ b ≤ 255) : Calls Tryz.prog 20 #[.agg #[.int .u8 a, .int .u8 b, .slice A n c]] w fun e w' => e = .returned (.tuple #[.int .i64 (1 + a % 16), .int .i64 (1 + b % 12)]) ∧ Below w.heap.size w w' := by
  go_enter Tryz.func20, Tryz.ntmps20
  go_wp2_with fail
  have e1 : IntKind.i64.wrap (1 + a % 16) = 1 + a % 16 := IntWalk.i64_in _ (by omega)
  have e2 : IntKind.i64.wrap (1 + b % 12) = 1 + b % 12 := IntWalk.i64_in _ (by omega)
  go_region
  go_wp2_with fail
  go_ret2
  exact ⟨rfl, (bal (bre w) _).drew⟩

end Go.Proofs.YtdaedkolpfkdjaaGreat
end

section
namespace Go.Proofs.YtdaedkolpfkdjaaGreat
open Go.RowKit Go.Maps Go.Shelf

/-- the cells that an operation builds. -/
def bldOf (P : Program) (ρ : Operand → Value) (o : Oper) : Option (Array Value) := match o.op with
  | .build t ps => P.built t (ps.toList.map fun q => (q.1, ρ q.2))
  | _ => none
theorem y_build {P : Program} {ρ : Operand → Value} {o : Oper} {cells : Array Value} {w : World} (h : bldOf P ρ o = some cells) : (execOp ρ o).run P w = .ok (.value (.agg cells)) w := by
  unfold bldOf at h
  split at h
  · rename_i t ps ho
    unfold execOp
    rw [ho]
    have h2 : P.built t (ps.map fun (i, x) => (i, ρ x)).toList = some cells := by rw [Array.toList_map]; exact h
    simp only [Sem.run_bind, run_build w t _ cells h2, Result.andThen_ok, Sem.run_pure]
  · cases h
/-- a slice of records is built. -/
theorem wpList_recs {P : Program} {ops : Array Oper} {rest : List Oper} {o : Oper} {a : Act} {w : World} {Q : Exit → Act → World → Prop} (hg : o.guard = none) (t e : TypeId) (len : Nat) (parts : Array (Nat × Operand)) (ho : o.op = .buildSlice t len parts)
    (s : Nat) (z : Value) (ie : TypeInfo) (hu : P.underlying t = some (.slice e)) (hie : P.info? e = some ie) (hz : ie.zero = some z) (hs : ie.size = s) (hzs : z.cells.size = s) (h0 : 0 < s) (hsm : ¬ len * s > 2 ^ 24) (hl : 0 < len)
    (vs : List Value) (hv : ∀ v ∈ vs, v.cells.size = s) (hvl : vs.length = len) (hp : parts.toList.map (fun q => (q.1, a.eval q.2)) = (vs.zipIdx 0).map fun x => (x.2, x.1))
    (cs : Array Value) (hcs : (vs.flatMap fun v => v.cells.toList).toArray = cs)
    (h : wpList P ops Q rest (a.put o.dst (.slice (some ⟨w.heap.size, 0, none⟩) len len)) (w.alloc (.cells cs e))) : wpList P ops Q (o :: rest) a w := by
  subst hs hcs
  have hpos : ¬ len * ie.size = 0 := Nat.mul_ne_zero (by omega) (by omega)
  refine wpList_buildSlice hg t e len parts ho _ ie z hu hie hz hsm hpos ?_ h
  rw [Array.toList_map]
  have e1 : (parts.toList.map fun (x : Nat × Operand) => match x with | (i, x) => (i, a.eval x)) = parts.toList.map (fun q => (q.1, a.eval q.2)) := rfl
  rw [e1, hp]
  exact Great.fill_whole h0 vs _ hv (by simp [hvl])
theorem Blk.farCells {w : World} {g g' : Nat} {t : TypeId} {cs : Array Value} (h : Blk w g t cs) (hne : g ≠ g') : ∀ (vs : List Value) (o : Nat), Blk (w.setCells g' o vs) g t cs
  | [], _ => h
  | v :: vs, o => Blk.farCells (w := w.setCell ⟨g', o, none⟩ v) (h.far (p := ⟨g', o, none⟩) hne v) hne vs (o + 1)
end Go.Proofs.YtdaedkolpfkdjaaGreat
end
