/-
  The walks of what a view tells of one window: Clip, Visible, Origin, Viewable.
  tree.Add and place.Set, each in one contract.
  Trees and places where a variable's own cell is written.
  The document's windows in memory; their ids; the walks of id, great and size.
  Laws for regions that draw: a struct that is built; what stays where another block is written whole.
  The walk of glazierlaw31.windows: the document's windows of a scene.
  Scenes that came in, opened: two numbers, and a slice of panes.
-/
import Derived.Test.YtbkkecijcijhdaaGreatZD27
import Derived.Test.YtbkkecijcijhdaaGreatZD03
import Derived.Test.YtbkkecijcijhdaaGreatZD06
import Derived.Test.YtbkkecijcijhdaaGreatZD10
import Derived.Test.YtbkkecijcijhdaaGreatZD04
import Derived.Great.BuildSlice
import Derived.Laws.Closers25b
import Derived.Maps.AppendAt
import Derived.Deep.Slices
import Derived.Test.YtbkkecijcijhdaaGreatZD00
section
namespace Go.Proofs.YtbkkecijcijhdaaGreat
open Go.RowKit Go.Maps Go.Shelf

theorem take_snocI' {α : Type} {l : List α} {k : Nat} {x : α} (h : l[k]? = some x) : l.take (k + 1) = l.take k ++ [x] := by rw [List.take_add_one, h]; rfl
section
variable {w : World} {v : Value} {A : Option Addr} {n c : Nat} {mv : Option Nat} {nm : Nat} {f : Int → Option Value} {ord : List Int} {es : List (Int × Places)} {og : Int → Int × Int} {RW RH : Nat}
set_option maxRecDepth 100000 in
theorem vviewable_any (i : Int) (hi : 0 ≤ i ∧ i ≤ 4294967295) (h : ViewIs w v A n c mv nm f ord es og RW RH) :
    Calls Tryz.prog 31 #[v, .int .u32 i] w fun e w' => e = .returned (.bool (lastE es i).isSome) ∧ Below w.heap.size w w' := by
  obtain ⟨B, d, out, hg, hr, hp, hs, hnr, hln⟩ := h.look i
  have hv := h.shape
  subst hv
  have HM := Lib.hid h.map
  have HWF := Lib.hid (u32_wf hi)
  have HG := Lib.hid hg
  have HS := Lib.hid hs
  obtain ⟨bq, hbq⟩ : ∃ bq, (lastE es i).isSome = bq := ⟨_, rfl⟩
  rw [hbq] at hs ⊢
  replace HS := Lib.hid hs
  clear h hg hr hp hs hnr hln hbq
  go_enter Tryz.func31, Tryz.ntmps31
  go_wp2_with (at_lookup; refine opt_look_ok rfl _ _ 41 rfl 49 166 .u32 Tryz.underlying49 Tryz.underlying41 (shV 0 0 none 0 0) (Tryz.zeroShown _) mv nm f rfl (HM.out.below (by first | exact bal (bal (bre _) _) _ | exact bal (bre _) _)) i rfl HWF.out ?_; rw [HG.out, HS.out]; unfold shV)
  go_ret
  exact ⟨rfl, bal (bal (bre w) _) _⟩
set_option maxRecDepth 100000 in
theorem vvisible_any (i : Int) (hi : 0 ≤ i ∧ i ≤ 4294967295) (h : ViewIs w v A n c mv nm f ord es og RW RH) :
    Calls Tryz.prog 33 #[v, .int .u32 i] w fun e w' => ∃ u out, e = .returned u ∧ RegAt w' u out ∧ (∀ x y, inB out x y = showB es (x + (ogV es og i).1) (y + (ogV es og i).2) i) ∧ Below w.heap.size w w' := by
  obtain ⟨B, d, out, hg, hr, hp, hs, hnr, hln⟩ := h.look i
  have hv := h.shape
  subst hv
  have HM := Lib.hid h.map
  have HWF := Lib.hid (u32_wf hi)
  have HV := Lib.hid h
  obtain ⟨ox, hox⟩ : ∃ ox, (ogV es og i).1 = ox := ⟨_, rfl⟩
  obtain ⟨oy, hoy⟩ : ∃ oy, (ogV es og i).2 = oy := ⟨_, rfl⟩
  rw [hox, hoy] at hg hnr ⊢
  have HG := Lib.hid hg
  have HR := Lib.hid hr
  have HP := Lib.hid hp
  clear h hg hr hp hs hox hoy
  go_enter Tryz.func33, Tryz.ntmps33
  go_wp2_with (at_lookup; refine opt_look rfl _ _ 41 rfl 49 166 .u32 Tryz.underlying49 Tryz.underlying41 (shV 0 0 none 0 0) (Tryz.zeroShown _) mv nm f rfl (HM.out.below (by first | exact bal (bal (bre _) _) _ | exact bal (bre _) _)) i rfl HWF.out ?_; rw [HG.out]; unfold shV)
  have hba := bal (bal (bal (bre w) (.cells #[.slice A n c, .map mv] 43)) (.cells #[.slice none 0 0] 60)) (.cells #[.int .i64 ox, .int .i64 oy, .slice B out.length d] 166)
  have hk4 := (blk_new2 w (.cells #[.slice A n c, .map mv] 43) 60 #[.slice none 0 0]).alloc (.cells #[.int .i64 ox, .int .i64 oy, .slice B out.length d] 166)
  refine (shift_any (.agg #[.slice B out.length d]) out (-ox) (-oy) _ (HR.out.below hba) (by omega) (by omega) hln).mono ?_
  rintro e w2 ⟨u, o2, rfl, hr2, hi2, hb2⟩
  have HR2 := Lib.hid hr2
  obtain ⟨B2, d2, rfl, _⟩ := hr2
  have HB2 := Lib.hid (bstep hba hb2)
  have K4 := Lib.hid (hk4.belowS hb2)
  have HI2 := Lib.hid hi2
  have q4 := K4.out.cellV (i := 0) (v := .slice none 0 0) rfl
  have f4 := K4.out.frozen 0
  have l4 := K4.out.lt
  clear hba hk4 hi2 hb2
  go_wp2_with fail
  have hk := K4.out.set_ 0 (.slice B2 o2.length d2)
  have hb := bset (p := ⟨w.heap.size + 1, 0, none⟩) HB2.out (by show w.heap.size ≤ w.heap.size + 1; omega) (.slice B2 o2.length d2)
  have hrf := HR2.out.farS K4.out (.slice B2 o2.length d2)
  have r0 := hk.cellV (i := 0) (v := .slice B2 o2.length d2) rfl
  refine bodyPost_ret (v := .agg #[.slice B2 o2.length d2]) (by simp [results, Tryz.results33, go_sem, r0]) rfl ⟨_, o2, rfl, hrf, fun x y => ?_, hb⟩
  rw [Bool.eq_iff_iff, inB_iff, HI2.out, shift_places HR.out.cnt, ← inB_iff, HP.out]
  rw [show x - -ox = x + ox by omega, show y - -oy = y + oy by omega]
  constructor
  · exact fun h => h.1
  · intro h
    have h1 := HV.out.small i _ _ h
    have h2 := HV.out.side
    exact ⟨h, by omega, by omega⟩

set_option maxRecDepth 100000 in
theorem vwindows_any (h : ViewIs w v A n c mv nm f ord es og RW RH) :
    Calls Tryz.prog 26 #[v] w fun e w' => ∃ u, e = .returned u ∧ w'.ownsRow w.heap.size 49 1 u n (U32 ord) ∧ Below w.heap.size w w' := by
  have hv := h.shape
  subst hv
  have HR := Lib.hid h.order
  have hn := h.few
  clear h
  go_enter Tryz.func26, Tryz.ntmps26
  go_wp2_with fail
  refine (cloneI_any A n c ord _ (by omega) (HR.out.below (bal (bre w) _))).mono ?_
  rintro e w2 ⟨u, rfl, ho, hb⟩
  have HO := Lib.hid ho
  have HB := Lib.hid hb
  clear ho hb
  go_wp2_with fail
  go_ret
  exact ⟨_, rfl, own_lower HO.out (by simp), bstep (bal (bre w) _) HB.out⟩

end

end Go.Proofs.YtbkkecijcijhdaaGreat
end

section
namespace Go.Proofs.YtbkkecijcijhdaaGreat
open Go.RowKit Go.Maps Go.Shelf

/-- what Set answers. -/
def setC (bs : Bxs) (n : Nat) (id : Int) (b : BX) : Int :=
  if id = 1 then 23 else if idC id ≠ 0 then idC id else if (coordB b.X && coordB b.Y) = false then 1 else if (sideB b.W && sideB b.H) = false then 17 else if gravC b.G = 10 ∨ gravC b.B = 10 then 10 else if b.S = false ∧ b.n ≠ 0 then 14 else if (bs id).isSome = false ∧ 64 ≤ n then 5 else if n = 0 then 9 else 0
/-- the boxes behind it. -/
def setB (bs : Bxs) (n : Nat) (id : Int) (b : BX) : Bxs := if setC bs n id b = 0 then fun j => if j = id then some b else bs j else bs
def setN (bs : Bxs) (n : Nat) (id : Int) (b : BX) : Nat := if setC bs n id b = 0 then (if (bs id).isSome then n else n + 1) else n
theorem gravC_or (g : Int) : gravC g = 0 ∨ gravC g = 10 := by
  unfold gravC
  split
  · exact .inl rfl
  · exact .inr rfl

theorem pset_any (pv : Value) (n : Nat) (bs : Bxs) (id : Int) (b : BX) (w : World) (hid : 0 ≤ id ∧ id ≤ 4294967295) (hn : n ≤ 1000) (hp : PlaceIs w pv n bs) (hz : n = 0 → bs id = none) :
    Calls Tryz.prog 79 #[pv, .int .u32 id, b.v] w fun e w' => ∃ pv', e = .returned (.tuple #[pv', .int .i64 (setC bs n id b)]) ∧ PlaceIs w' pv' (setN bs n id b) (setB bs n id b) ∧ Below w.heap.size w w' := by
  have keep : ∀ code : Int, code ≠ 0 → setC bs n id b = code → SetErr id b n (bs id).isSome code → Calls Tryz.prog 79 #[pv, .int .u32 id, b.v] w fun e w' => ∃ pv', e = .returned (.tuple #[pv', .int .i64 (setC bs n id b)]) ∧ PlaceIs w' pv' (setN bs n id b) (setB bs n id b) ∧ Below w.heap.size w w' := by
    intro code h0 hc hh
    refine (pset_err pv n bs id b code w hid hn hp hh).mono ?_
    rintro e w' ⟨rfl, hb⟩
    have e0 : setB bs n id b = bs := by unfold setB; rw [hc, if_neg h0]
    have e1 : setN bs n id b = n := by unfold setN; rw [hc, if_neg h0]
    rw [hc, e0, e1]
    exact ⟨pv, rfl, hp.below hb, hb⟩
  by_cases h1 : id = 1
  · exact keep 23 (by decide) (by simp [setC, h1]) (.inl ⟨h1, rfl⟩)
  by_cases h2 : idC id = 0
  rotate_left
  · exact keep (idC id) h2 (by simp [setC, h1, h2]) (.inr ⟨h1, .inl ⟨h2, rfl⟩⟩)
  have s2 : ∀ {code}, _ → SetErr id b n (bs id).isSome code := fun {code} x => .inr ⟨h1, .inr ⟨h2, x⟩⟩
  cases hx : coordB b.X
  · exact keep 1 (by decide) (by simp [setC, h1, h2, hx]) (s2 (.inl ⟨hx, rfl⟩))
  cases hy : coordB b.Y
  · exact keep 1 (by decide) (by simp [setC, h1, h2, hx, hy]) (s2 (.inr ⟨hx, .inl ⟨hy, rfl⟩⟩))
  cases hw : sideB b.W
  · exact keep 17 (by decide) (by simp [setC, h1, h2, hx, hy, hw]) (s2 (.inr ⟨hx, .inr ⟨hy, .inl ⟨hw, rfl⟩⟩⟩))
  cases hh : sideB b.H
  · exact keep 17 (by decide) (by simp [setC, h1, h2, hx, hy, hw, hh]) (s2 (.inr ⟨hx, .inr ⟨hy, .inr ⟨hw, .inl ⟨hh, rfl⟩⟩⟩⟩))
  have s3 : ∀ {code}, _ → SetErr id b n (bs id).isSome code := fun {code} x => s2 (.inr ⟨hx, .inr ⟨hy, .inr ⟨hw, .inr ⟨hh, x⟩⟩⟩⟩)
  rcases gravC_or b.G with hg | hg
  rotate_left
  · exact keep 10 (by decide) (by simp [setC, h1, h2, hx, hy, hw, hh, hg]) (s3 (.inl ⟨hg, rfl⟩))
  rcases gravC_or b.B with hb | hb
  rotate_left
  · exact keep 10 (by decide) (by simp [setC, h1, h2, hx, hy, hw, hh, hg, hb]) (s3 (.inr ⟨hg, .inl ⟨hb, rfl⟩⟩))
  by_cases hs : b.S = false ∧ b.n ≠ 0
  · exact keep 14 (by decide) (by simp [setC, h1, h2, hx, hy, hw, hh, hg, hb, hs]) (s3 (.inr ⟨hg, .inr ⟨hb, .inl ⟨hs.1, decide_eq_false hs.2, rfl⟩⟩⟩))
  have hS : b.S = true ∨ (b.S = false ∧ decide (b.n = 0) = true) := by
    cases e : b.S
    · exact .inr ⟨rfl, decide_eq_true (Classical.byContradiction fun h => hs ⟨e, h⟩)⟩
    · exact .inl rfl
  have hs' : ¬ (b.S = false ∧ ¬ b.n = 0) := hs
  by_cases hm : (bs id).isSome = false ∧ 64 ≤ n
  · have hm1 : bs id = none := by simpa using hm.1
    exact keep 5 (by decide) (by simp [setC, h1, h2, hx, hy, hw, hh, hg, hb, hs', hm1, hm.2]) (s3 (.inr ⟨hg, .inr ⟨hb, .inr ⟨hS, .inl ⟨hm.1, decide_eq_true (by omega), rfl⟩⟩⟩⟩))
  have hc1 : setC bs n id b = if n = 0 then 9 else 0 := by
    unfold setC
    rw [if_neg h1, if_neg (by simp [h2]), if_neg (by simp [hx, hy]), if_neg (by simp [hw, hh]), if_neg (by simp [hg, hb]), if_neg hs, if_neg hm]
  by_cases h0 : n = 0
  · have hno : (bs id).isSome = false := by rw [hz h0]; rfl
    exact keep 9 (by decide) (by rw [hc1, if_pos h0]) (s3 (.inr ⟨hg, .inr ⟨hb, .inr ⟨hS, .inr ⟨hno, decide_eq_false (by omega), by rw [h0]; rfl, rfl⟩⟩⟩⟩))
  · have hc : setC bs n id b = 0 := by rw [hc1, if_neg h0]
    refine (pset_ok pv n bs id b w hid hn hp h1 h2 hx hy hw hh hg hb hS ?_ (by simp; omega)).mono ?_
    · cases e : (bs id).isSome
      · refine .inr ⟨rfl, decide_eq_false fun h => hm ⟨e, by omega⟩⟩
      · exact .inl rfl
    · rintro e w' ⟨pv', rfl, hp', hb'⟩
      have e0 : setB bs n id b = fun j => if j = id then some b else bs j := by unfold setB; rw [hc, if_pos rfl]
      have e1 : setN bs n id b = if (bs id).isSome then n else n + 1 := by unfold setN; rw [hc, if_pos rfl]
      rw [hc, e0, e1]
      exact ⟨pv', rfl, hp', hb'⟩

end Go.Proofs.YtbkkecijcijhdaaGreat
end

section
namespace Go.Proofs.YtbkkecijcijhdaaGreat
open Go.RowKit Go.Maps Go.Shelf

section
variable {P : Program} {k : TypeId} {q : IntKind} {w : World} {b n : Nat} {f : Int → Option Value}
theorem MapIs.isMap (h : MapIs P k q w b n f) : ∃ es clock, w.heap[b]? = some (.map es clock) := by
  obtain ⟨D, ⟨es, clock, h1, _⟩, _⟩ := h
  exact ⟨es, clock, h1⟩
theorem MapIs.neBlk (h : MapIs P k q w b n f) {B : Nat} {t : TypeId} {cs : Array Value} (hB : Blk w B t cs) : b ≠ B := fun e => by
  obtain ⟨es, clock, h1⟩ := h.isMap
  unfold Blk at hB
  rw [← e, h1] at hB
  cases hB
theorem MapOpt.setBlk {mb : Option Nat} (h : MapOpt P k q w mb n f) {B : Nat} {t : TypeId} {cs : Array Value} (hB : Blk w B t cs) (i : Nat) (u : Value) : MapOpt P k q (w.setCell ⟨B, i, none⟩ u) mb n f := by
  rcases h with h | ⟨b, e, h⟩
  · exact .inl h
  · exact .inr ⟨b, e, h.setCell (h.neBlk hB) u⟩
end

theorem PlaceIs.setBlk {w : World} {v : Value} {n : Nat} {bs : Bxs} (h : PlaceIs w v n bs) {B : Nat} {t : TypeId} {cs : Array Value} (hB : Blk w B t cs) (i : Nat) (u : Value) : PlaceIs (w.setCell ⟨B, i, none⟩ u) v n bs := by
  obtain ⟨mb, e, h⟩ := h
  exact ⟨mb, e, h.setBlk hB i u⟩
/-- a slice of ids doesn't lie where no ids are. -/
theorem Rd.setBlk {w : World} {A : Option Addr} {n : Nat} {l : List Int} (h : Rd w A n (U32 l)) {B : Nat} {t : TypeId} {cs : Array Value} (hB : Blk w B t cs) (hc : ∀ (j : Nat) (x : Int), cs[j]? ≠ some (.int .u32 x)) (i : Nat) (u : Value) : Rd (w.setCell ⟨B, i, none⟩ u) A n (U32 l) := by
  refine h.far' (p := ⟨B, i, none⟩) (fun hn a ea => ?_) u
  obtain ⟨b, off, e, hb, hcl⟩ := h.2 hn
  rw [e] at ea
  cases ea
  intro e'
  dsimp only at e'
  subst e'
  have hl := h.1
  match l, hl with
  | [], hl => simp [U32] at hl; omega
  | x :: l, _ =>
    have := hcl 0 (.int .u32 x) rfl
    rw [hB.cell] at this
    exact hc _ _ this
theorem TreeIs.setBlk {w : World} {v : Value} {ns : Nodes} {mk mu : Option Nat} {nk : Nat} {fk : Int → Option Value} (h : TreeIs w v ns mk mu nk fk) {B : Nat} {t : TypeId} {cs : Array Value} (hB : Blk w B t cs) (hc : ∀ (j : Nat) (x : Int), cs[j]? ≠ some (.int .u32 x)) (i : Nat) (u : Value) : TreeIs (w.setCell ⟨B, i, none⟩ u) v ns mk mu nk fk :=
  ⟨h.shape, h.kids.setBlk hB i u, h.up.setBlk hB i u, fun j => by
    obtain ⟨A, c, e, hl, hr⟩ := h.each j
    exact ⟨A, c, e, hl, hr.setBlk hB hc i u⟩, h.room, h.few, h.ok⟩
theorem maps_no (a b : Option Nat) : ∀ (j : Nat) (x : Int), (#[.map a, .map b] : Array Value)[j]? ≠ some (.int .u32 x) := fun j x => by
  match j with
  | 0 => simp
  | 1 => simp
  | j + 2 => simp
end Go.Proofs.YtbkkecijcijhdaaGreat
end

section
namespace Go.Proofs.YtbkkecijcijhdaaGreat
open Go.RowKit Go.Maps Go.Shelf

def DW.cells (d : DW) : List Value := [.int .i64 d.P, .int .i64 d.X, .int .i64 d.Y, .int .i64 d.W, .int .i64 d.H, .bool d.M, .bool d.S, .slice d.A d.n d.c]
theorem DW.cells_len (d : DW) : d.cells.length = 8 := rfl
/-- a slice that reads as windows. -/
structure RdWs (w : World) (A : Option Addr) (n : Nat) (l : List DW) : Prop where
  recs : RdF DW.cells 8 w A n l
  shapes : ∀ d ∈ l, RdR w d.A d.n d.sh
theorem RdWs.below {w w' : World} {A : Option Addr} {n : Nat} {l : List DW} (h : RdWs w A n l) (hb : Below w.heap.size w w') : RdWs w' A n l := ⟨h.recs.below hb, fun d hd => (h.shapes d hd).below hb⟩
theorem RdWs.at_ {w : World} {A : Option Addr} {n : Nat} {l : List DW} (h : RdWs w A n l) (hn : 0 < n) : ∃ b off, A = some ⟨b, off, none⟩ ∧ b < w.heap.size ∧ ∀ k d, l[k]? = some d → (w.cell? ⟨b, off + k * 8, none⟩ = some (.int .i64 d.P) ∧ w.cell? ⟨b, off + k * 8 + 1, none⟩ = some (.int .i64 d.X) ∧ w.cell? ⟨b, off + k * 8 + 2, none⟩ = some (.int .i64 d.Y) ∧ w.cell? ⟨b, off + k * 8 + 3, none⟩ = some (.int .i64 d.W)) ∧ w.cell? ⟨b, off + k * 8 + 4, none⟩ = some (.int .i64 d.H) ∧ w.cell? ⟨b, off + k * 8 + 5, none⟩ = some (.bool d.M) ∧ w.cell? ⟨b, off + k * 8 + 6, none⟩ = some (.bool d.S) ∧ w.cell? ⟨b, off + k * 8 + 7, none⟩ = some (.slice d.A d.n d.c) := by
  obtain ⟨b, off, e, hb, hc⟩ := h.recs.2 hn
  exact ⟨b, off, e, hb, fun k d hk => ⟨⟨hc k d hk 0 _ rfl, hc k d hk 1 _ rfl, hc k d hk 2 _ rfl, hc k d hk 3 _ rfl⟩, hc k d hk 4 _ rfl, hc k d hk 5 _ rfl, hc k d hk 6 _ rfl, hc k d hk 7 _ rfl⟩⟩
theorem idW_bd {n : Int} (h : -1 ≤ n ∧ n ≤ 1000000) : 0 ≤ idW n ∧ idW n ≤ 4294967295 := by
  unfold idW
  split <;> omega

end Go.Proofs.YtbkkecijcijhdaaGreat
end

section
namespace Go.Proofs.YtbkkecijcijhdaaGreat
open Go.RowKit Go.Maps Go.Shelf

/-- the cells that an operation builds. -/
def bldOf (P : Program) (ρ : Operand → Value) (o : Oper) : Option (Array Value) := match o.op with
  | .build t ps => P.built t (ps.toList.map fun q => (q.1, ρ q.2))
  | _ => none
theorem y_build {P : Program} {ρ : Operand → Value} {o : Oper} {cells : Array Value} {w : World} (h : bldOf P ρ o = some cells) : (execOp ρ o).run P w = .ok (.value (.agg cells)) w := by
  unfold bldOf at h
  split at h
  · rename_i t ps ho
    unfold execOp
    rw [ho]
    have h2 : P.built t (ps.map fun (i, x) => (i, ρ x)).toList = some cells := by rw [Array.toList_map]; exact h
    simp only [Sem.run_bind, run_build w t _ cells h2, Result.andThen_ok, Sem.run_pure]
  · cases h
/-- a slice of records is built. -/
theorem wpList_recs {P : Program} {ops : Array Oper} {rest : List Oper} {o : Oper} {a : Act} {w : World} {Q : Exit → Act → World → Prop} (hg : o.guard = none) (t e : TypeId) (len : Nat) (parts : Array (Nat × Operand)) (ho : o.op = .buildSlice t len parts)
    (s : Nat) (z : Value) (ie : TypeInfo) (hu : P.underlying t = some (.slice e)) (hie : P.info? e = some ie) (hz : ie.zero = some z) (hs : ie.size = s) (hzs : z.cells.size = s) (h0 : 0 < s) (hsm : ¬ len * s > 2 ^ 24) (hl : 0 < len)
    (vs : List Value) (hv : ∀ v ∈ vs, v.cells.size = s) (hvl : vs.length = len) (hp : parts.toList.map (fun q => (q.1, a.eval q.2)) = (vs.zipIdx 0).map fun x => (x.2, x.1))
    (cs : Array Value) (hcs : (vs.flatMap fun v => v.cells.toList).toArray = cs)
    (h : wpList P ops Q rest (a.put o.dst (.slice (some ⟨w.heap.size, 0, none⟩) len len)) (w.alloc (.cells cs e))) : wpList P ops Q (o :: rest) a w := by
  subst hs hcs
  have hpos : ¬ len * ie.size = 0 := Nat.mul_ne_zero (by omega) (by omega)
  refine wpList_buildSlice hg t e len parts ho _ ie z hu hie hz hsm hpos ?_ h
  rw [Array.toList_map]
  have e1 : (parts.toList.map fun (x : Nat × Operand) => match x with | (i, x) => (i, a.eval x)) = parts.toList.map (fun q => (q.1, a.eval q.2)) := rfl
  rw [e1, hp]
  exact Great.fill_whole h0 vs _ hv (by simp [hvl])
theorem Blk.farCells {w : World} {g g' : Nat} {t : TypeId} {cs : Array Value} (h : Blk w g t cs) (hne : g ≠ g') : ∀ (vs : List Value) (o : Nat), Blk (w.setCells g' o vs) g t cs
  | [], _ => h
  | v :: vs, o => Blk.farCells (w := w.setCell ⟨g', o, none⟩ v) (h.far (p := ⟨g', o, none⟩) hne v) hne vs (o + 1)
end Go.Proofs.YtbkkecijcijhdaaGreat
end

section
namespace Go.Proofs.YtbkkecijcijhdaaGreat
open Go.RowKit Go.Maps Go.Shelf

/-- a window of a small scene. -/
structure PN where
  U : Int
  X : Int
  Y : Int
  W : Int
  H : Int
  F : Int
  s0 : Int
  s1 : Int
  s2 : Int
  s3 : Int
  s4 : Int
  s5 : Int
  s6 : Int
  s7 : Int
def PN.cells (p : PN) : List Value := [.int .u8 p.U, .int .i8 p.X, .int .i8 p.Y, .int .i8 p.W, .int .i8 p.H, .int .u8 p.F, .int .u8 p.s0, .int .u8 p.s1, .int .u8 p.s2, .int .u8 p.s3, .int .u8 p.s4, .int .u8 p.s5, .int .u8 p.s6, .int .u8 p.s7]
structure PN.ok (p : PN) : Prop where
  u : 0 ≤ p.U ∧ p.U ≤ 255
  x : -128 ≤ p.X ∧ p.X ≤ 127
  y : -128 ≤ p.Y ∧ p.Y ≤ 127
  w : -128 ≤ p.W ∧ p.W ≤ 127
  h : -128 ≤ p.H ∧ p.H ≤ 127
  f : 0 ≤ p.F ∧ p.F ≤ 255
  s : ((0 ≤ p.s0 ∧ p.s0 ≤ 255) ∧ (0 ≤ p.s1 ∧ p.s1 ≤ 255) ∧ (0 ≤ p.s2 ∧ p.s2 ≤ 255) ∧ 0 ≤ p.s3 ∧ p.s3 ≤ 255) ∧ (0 ≤ p.s4 ∧ p.s4 ≤ 255) ∧ (0 ≤ p.s5 ∧ p.s5 ≤ 255) ∧ (0 ≤ p.s6 ∧ p.s6 ≤ 255) ∧ 0 ≤ p.s7 ∧ p.s7 ≤ 255
theorem RdR.keepRowNe {w w' : World} {A : Option Addr} {n : Nat} {rs : List RC} {row : Option Nat} (h : RdR w A n rs) (hg : w.grownBy w' row) (hne : 0 < n → ∀ a, A = some a → row ≠ some a.block) : RdR w' A n rs :=
  ⟨h.1, fun hn => by
    obtain ⟨b, off, e, hl, hc⟩ := h.2 hn
    refine ⟨b, off, e, Nat.lt_of_lt_of_le hl hg.size, fun k r hk => ?_⟩
    have hb : w'.heap[b]? = w.heap[b]? := hg.block b hl (fun e' => hne hn _ e e'.symm)
    have hcell : ∀ o, w'.cell? ⟨b, o, none⟩ = w.cell? ⟨b, o, none⟩ := fun o => by unfold World.cell?; simp only [hb]
    obtain ⟨c0, c1, c2, c3⟩ := hc k r hk
    exact ⟨(hcell _).trans c0, (hcell _).trans c1, (hcell _).trans c2, (hcell _).trans c3⟩⟩
/-- windows made so far: all are well, their shapes lie apart from the list. -/
structure WinsAt (w : World) (base : Nat) (v : Value) (l : List DW) : Prop where
  own : w.ownsRow base 69 8 v l.length (l.flatMap DW.cells)
  up : UpOk l
  ok : ∀ d ∈ l, DWok d
  sh : ∀ d ∈ l, RdR w d.A d.n d.sh
  far : ∀ d ∈ l, 0 < d.n → ∀ a, d.A = some a → v.ownBlock ≠ some a.block
theorem WinsAt.below {w w' : World} {base : Nat} {v : Value} {l : List DW} (h : WinsAt w base v l) (hb : Below w.heap.size w w') : WinsAt w' base v l :=
  ⟨ownsRow_below h.own hb, h.up, h.ok, fun d hd => (h.sh d hd).below hb, h.far⟩
theorem WinsAt.snoc {w w' : World} {base : Nat} {v v' : Value} {l : List DW} {d : DW} (h : WinsAt w base v l) (hd : DWok d) (hp : -1 ≤ d.P ∧ d.P < (l.length : Int)) (hs : RdR w d.A d.n d.sh) (hf : 0 < d.n → ∀ a, d.A = some a → v.ownBlock ≠ some a.block)
    (hg : w.grownBy w' v.ownBlock) (ho : w'.ownsRow base 69 8 v' (l.length + 1) (l.flatMap DW.cells ++ d.cells)) (hat : v'.ownBlock = v.ownBlock ∨ v'.ownBlock = some w.heap.size) : WinsAt w' base v' (l ++ [d]) := by
  have hall : ∀ q ∈ l ++ [d], RdR w q.A q.n q.sh ∧ (0 < q.n → ∀ a, q.A = some a → v.ownBlock ≠ some a.block) := fun q hq => by
    rcases List.mem_append.1 hq with h1 | h1
    · exact ⟨h.sh q h1, h.far q h1⟩
    · obtain rfl := List.mem_singleton.1 h1
      exact ⟨hs, hf⟩
  refine ⟨by simpa using ho, fun i q hq => ?_, fun q hq => ?_, fun q hq => ?_, fun q hq hn a ha => ?_⟩
  · by_cases hi : i < l.length
    · rw [List.getElem?_append_left hi] at hq
      exact h.up i q hq
    · have hlt := (List.getElem?_eq_some_iff.1 hq).1
      simp only [List.length_append, List.length_singleton] at hlt
      obtain rfl : i = l.length := by omega
      rw [List.getElem?_append_right (Nat.le_refl _), Nat.sub_self] at hq
      obtain rfl : d = q := by simpa using hq
      exact hp
  · rcases List.mem_append.1 hq with h1 | h1
    · exact h.ok q h1
    · obtain rfl := List.mem_singleton.1 h1
      exact hd
  · exact (hall q hq).1.keepRowNe hg (hall q hq).2
  · obtain ⟨h1, h2⟩ := hall q hq
    rcases hat with e | e
    · rw [e]; exact h2 hn a ha
    · rw [e]
      obtain ⟨b, off, e1, hl, _⟩ := h1.2 hn
      rw [e1] at ha
      injection ha with ha
      subst ha
      intro e2
      injection e2 with e2
      simp only at e2
      omega
theorem WinsAt.reads {w : World} {base c : Nat} {A : Option Addr} {l : List DW} (h : WinsAt w base (.slice A l.length c) l) : RdWs w A l.length l := ⟨RdF.of_own DW.cells_len h.own rfl, h.sh⟩
theorem news_new (w : World) (cs : List Value) (t : TypeId) : ∀ j u, cs[j]? = some u → (w.alloc (.cells cs.toArray t)).cell? ((⟨w.heap.size, 0, none⟩ : Addr).add j) = some u := by
  intro j u hj
  have h := (Blk.new w t cs.toArray).cellV (i := j) (v := u) (by simpa using hj)
  unfold Addr.add
  split
  · rename_i e; rw [e] at h; exact h
  · rw [Nat.zero_add]; exact h
end Go.Proofs.YtbkkecijcijhdaaGreat
end

section
namespace Go.Proofs.YtbkkecijcijhdaaGreat
open Go.ChangeShapes Go.WideShapes Go.ChangeAt Go.RowKit Go.Joins

section
variable {H : Type} {enc : TypeId × Value → H} {P : Program} {w : World} {base : Nat} {spare : Nat → Bool} {held : Bool} {α : Type}
theorem open_recs [Inhabited α] (f : α → List Value) (m : Nat) (hm : 0 < m) (Q : α → Prop) {t e : TypeId} {fuel : Nat} {v : Value} {y : DataW H × List MemPlace} (ht : P.underlying t = some (.slice e)) (hc : P.cellsOf e = m) (hfl : ∀ x, (f x).length = m)
    (hone : ∀ (cs : List Value) (n : Nat) (z : DataW H × List MemPlace), cs.length = m → DataW.trod enc P w base spare held n e cs = some z → ∃ x, cs = f x ∧ Q x) (h : DataW.trod enc P w base spare held fuel t [v] = some y) :
    ∃ (A : Option Addr) (n c : Nat) (l : List α), v = .slice A n c ∧ n ≤ maxLen ∧ RdF f m w A n l ∧ ∀ x ∈ l, Q x := by
  rcases Deep.open_slice ht h with ⟨h0, _⟩ | ⟨a, len, cap, mm, n, D, Pl, hcs, _, hl, hcap, hmm, _, hx⟩
  · simp at h0
    exact ⟨none, 0, 0, [], h0, Nat.zero_le _, RdF.nil _ _ _ _, by simp⟩
  · simp at hcs
    have hlm : len ≤ mm := by rw [hmm]; split <;> omega
    have each : ∀ k, k < len → ∃ x : α, (∀ i u, (f x)[i]? = some u → w.cell? ((a.add (k * m)).add i) = some u) ∧ Q x := fun k hk => by
      obtain ⟨cs', h1, h2⟩ := hx k (by omega)
      rw [hc] at h1
      obtain ⟨_, hlen, hat⟩ := World.cells?_some h1
      obtain ⟨x, rfl, hq⟩ := hone cs' n _ hlen h2
      refine ⟨x, fun i u hu => ?_, hq⟩
      have hi : i < m := by have := (List.getElem?_eq_some_iff.1 hu).1; rwa [hfl] at this
      rw [hat i hi, hu]
    obtain ⟨g, hg⟩ := Deep.choose_lt each
    refine ⟨some a, len, cap, (List.range len).map g, hcs, by omega, ⟨by simp, fun hn => ?_⟩, fun x hx' => ?_⟩
    · have hf0 : ∃ u, (f (g 0))[0]? = some u := ⟨_, List.getElem?_eq_getElem (by rw [hfl]; exact hm)⟩
      obtain ⟨u0, hu0⟩ := hf0
      have h0 := (hg 0 hn).1 0 u0 hu0
      have hs : a.spot = none := by simpa [Addr.add] using World.cell?_spot h0
      obtain ⟨b, off, spot⟩ := a
      simp only at hs
      subst hs
      have hadd : ∀ o k, (⟨b, o, none⟩ : Addr).add k = ⟨b, o + k, none⟩ := fun o k => by
        unfold Addr.add
        split
        · rename_i h; subst h; rfl
        · rfl
      refine ⟨b, off, rfl, block_lt_of_cell (by rw [hadd, hadd] at h0; exact h0), fun k x hk i u hu => ?_⟩
      have hkl : k < len := by have := (List.getElem?_eq_some_iff.1 hk).1; simpa using this
      have hx' : g k = x := by simpa [List.getElem?_range hkl] using hk
      have := (hg k hkl).1 i u (by rw [hx']; exact hu)
      rwa [hadd, hadd] at this
    · obtain ⟨k, hk, rfl⟩ := List.mem_map.1 hx'
      exact (hg k (by simpa using hk)).2
end

instance : Inhabited PN := ⟨⟨0, 0, 0, 0, 0, 0, 0, 0, 0, 0, 0, 0, 0, 0⟩⟩
section
variable {H : Type} {enc : TypeId × Value → H} {w : World} {base : Nat} {spare : Nat → Bool} {held : Bool}
set_option maxRecDepth 100000 in
theorem Tryz.cellsU8 : Tryz.prog.cellsOf 5 = 1 := by kernel_rfl
set_option maxRecDepth 100000 in
theorem Tryz.cellsI8 : Tryz.prog.cellsOf 63 = 1 := by kernel_rfl
set_option maxRecDepth 100000 in
theorem Tryz.cellsQ4 : Tryz.prog.cellsOf 64 = 4 := by kernel_rfl
set_option maxRecDepth 100000 in
theorem and_i {a b : Bool} (h1 : a = true) (h2 : b = true) : (a && b) = true := by rw [h1, h2]; rfl
end
end Go.Proofs.YtbkkecijcijhdaaGreat
end
