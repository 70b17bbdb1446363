/-
  The walks of what a view tells of one window: Clip, Visible, Origin, Viewable.
  tree.Add and place.Set, each in one contract.
  Trees and places where a variable's own cell is written.
  The document's windows in memory; their ids; the walks of id, great and size.
  The walks of glazierlaw34's id, small, ink and plane.
-/
import Derived.Test.YtdaedkolpfkdjaaGreatZT23
import Derived.Test.YtdaedkolpfkdjaaGreatZT03
import Derived.Test.YtdaedkolpfkdjaaGreatZT06
import Derived.Test.YtdaedkolpfkdjaaGreatZT09
import Derived.Test.YtdaedkolpfkdjaaGreatZT01
section
namespace Go.Proofs.YtdaedkolpfkdjaaGreat
open Go.RowKit Go.Maps Go.Shelf

theorem Tryz.fieldClip (a b : Int) (B : Option Addr) (m d : Nat) (w : World) : Sem.run Tryz.prog (Instr.field 188 (.agg #[.int .i64 a, .int .i64 b, .slice B m d]) 1) w = .ok (.agg #[.slice B m d]) w := by kernel_rfl
theorem take_snocI' {α : Type} {l : List α} {k : Nat} {x : α} (h : l[k]? = some x) : l.take (k + 1) = l.take k ++ [x] := by rw [List.take_add_one, h]; rfl
section
variable {w : World} {v : Value} {A : Option Addr} {n c : Nat} {mv : Option Nat} {nm : Nat} {f : Int → Option Value} {ord : List Int} {es : List (Int × Places)} {og : Int → Int × Int} {RW RH : Nat}
set_option maxRecDepth 100000 in
theorem vclip_any (i : Int) (hi : 0 ≤ i ∧ i ≤ 4294967295) (h : ViewIs w v A n c mv nm f ord es og RW RH) :
    Calls Tryz.prog 31 #[v, .int .u32 i] w fun e w' => ∃ u out, e = .returned u ∧ RegAt w' u out ∧ (∀ x y, inB out x y = showB es x y i) ∧ Below w.heap.size w w' := by
  obtain ⟨B, d, out, hg, hr, hp, hs, hnr, hln⟩ := h.look i
  have hv := h.shape
  subst hv
  have HM := Lib.hid h.map
  have HWF := Lib.hid (u32_wf hi)
  have HG := Lib.hid hg
  have HR := Lib.hid hr
  have HP := Lib.hid hp
  clear h hg hr hp hs hnr hln
  have hfc := Tryz.fieldClip
  go_enter Tryz.func31, Tryz.ntmps31
  go_wp2_with (at_lookup; refine opt_look rfl _ _ 50 rfl 48 188 .u32 Tryz.underlying48 Tryz.underlying50 (shV 0 0 none 0 0) (Tryz.zeroShown _) mv nm f rfl (HM.out.below (by first | exact bal (bal (bre _) _) _ | exact bal (bre _) _)) i rfl HWF.out ?_; rw [HG.out]; unfold shV)
  have hk := blk_new2 w (.cells #[.slice A n c, .map mv] 52) 57 #[.slice B out.length d]
  have hb := bal (bal (bre w) (.cells #[.slice A n c, .map mv] 52)) (.cells #[.slice B out.length d] 57)
  have r0 := hk.cellV (i := 0) (v := .slice B out.length d) rfl
  refine bodyPost_ret (v := .agg #[.slice B out.length d]) (by simp [results, Tryz.results31, go_sem, r0]) rfl ⟨_, out, rfl, HR.out.below hb, HP.out, hb⟩
set_option maxRecDepth 100000 in
theorem vorigin_any (i : Int) (hi : 0 ≤ i ∧ i ≤ 4294967295) (h : ViewIs w v A n c mv nm f ord es og RW RH) :
    Calls Tryz.prog 97 #[v, .int .u32 i] w fun e w' => e = .returned (.tuple #[.agg #[.int .i64 (ogV es og i).1, .int .i64 (ogV es og i).2], .bool (lastE es i).isSome]) ∧ Below w.heap.size w w' := by
  obtain ⟨B, d, out, hg, hr, hp, hs, hnr, hln⟩ := h.look i
  have hv := h.shape
  subst hv
  have HM := Lib.hid h.map
  have HWF := Lib.hid (u32_wf hi)
  obtain ⟨bq, hbq⟩ : ∃ bq, (lastE es i).isSome = bq := ⟨_, rfl⟩
  obtain ⟨ox, hox⟩ : ∃ ox, (ogV es og i).1 = ox := ⟨_, rfl⟩
  obtain ⟨oy, hoy⟩ : ∃ oy, (ogV es og i).2 = oy := ⟨_, rfl⟩
  rw [hox, hoy] at hg ⊢
  rw [hbq] at hs ⊢
  have HG := Lib.hid hg
  have HS := Lib.hid hs
  clear h hg hr hp hs hnr hln hbq hox hoy
  go_enter Tryz.func97, Tryz.ntmps97
  go_wp2_with (at_lookup; refine opt_look_ok rfl _ _ 50 rfl 48 188 .u32 Tryz.underlying48 Tryz.underlying50 (shV 0 0 none 0 0) (Tryz.zeroShown _) mv nm f rfl (HM.out.below (by first | exact bal (bal (bre _) _) _ | exact bal (bre _) _)) i rfl HWF.out ?_; rw [HG.out, HS.out]; unfold shV)
  have hk := (blk_new2 w (.cells #[.slice A n c, .map mv] 52) 179 #[.int .i64 ox, .int .i64 oy]).alloc (.cells #[.int .i64 ox, .int .i64 oy, .slice B out.length d] 188)
  have hb := bal (bal (bal (bre w) (.cells #[.slice A n c, .map mv] 52)) (.cells #[.int .i64 ox, .int .i64 oy] 179)) (.cells #[.int .i64 ox, .int .i64 oy, .slice B out.length d] 188)
  have r0 := hk.cellV (i := 0) (v := .int .i64 ox) rfl
  have r1 := hk.cellV (i := 1) (v := .int .i64 oy) rfl
  exact bodyPost_ret (v := .tuple #[.agg #[.int .i64 ox, .int .i64 oy], .bool bq]) (by simp [results, Tryz.results97, go_sem, r0, r1]) rfl ⟨rfl, hb⟩
set_option maxRecDepth 100000 in
theorem vwindows_any (h : ViewIs w v A n c mv nm f ord es og RW RH) :
    Calls Tryz.prog 26 #[v] w fun e w' => ∃ u, e = .returned u ∧ w'.ownsRow w.heap.size 48 1 u n (U32 ord) ∧ Below w.heap.size w w' := by
  have hv := h.shape
  subst hv
  have HR := Lib.hid h.order
  have hn := h.few
  clear h
  go_enter Tryz.func26, Tryz.ntmps26
  go_wp2_with fail
  refine (cloneI_any A n c ord _ (by omega) (HR.out.below (bal (bre w) _))).mono ?_
  rintro e w2 ⟨u, rfl, ho, hb⟩
  have HO := Lib.hid ho
  have HB := Lib.hid hb
  clear ho hb
  go_wp2_with fail
  go_ret
  exact ⟨_, rfl, own_lower HO.out (by simp), bstep (bal (bre w) _) HB.out⟩

end

end Go.Proofs.YtdaedkolpfkdjaaGreat
end

section
namespace Go.Proofs.YtdaedkolpfkdjaaGreat
open Go.RowKit Go.Maps Go.Shelf

/-- what Set answers. -/
def setC (bs : Bxs) (n : Nat) (id : Int) (b : BX) : Int :=
  if id = 1 then 23 else if idC id ≠ 0 then idC id else if (coordB b.X && coordB b.Y) = false then 1 else if (sideB b.W && sideB b.H) = false then 17 else if gravC b.G = 10 ∨ gravC b.B = 10 then 10 else if b.S = false ∧ b.n ≠ 0 then 14 else if (bs id).isSome = false ∧ 64 ≤ n then 5 else if n = 0 then 9 else 0
/-- the boxes behind it. -/
def setB (bs : Bxs) (n : Nat) (id : Int) (b : BX) : Bxs := if setC bs n id b = 0 then fun j => if j = id then some b else bs j else bs
def setN (bs : Bxs) (n : Nat) (id : Int) (b : BX) : Nat := if setC bs n id b = 0 then (if (bs id).isSome then n else n + 1) else n
theorem gravC_or (g : Int) : gravC g = 0 ∨ gravC g = 10 := by
  unfold gravC
  split
  · exact .inl rfl
  · exact .inr rfl

theorem pset_any (pv : Value) (n : Nat) (bs : Bxs) (id : Int) (b : BX) (w : World) (hid : 0 ≤ id ∧ id ≤ 4294967295) (hn : n ≤ 1000) (hp : PlaceIs w pv n bs) (hz : n = 0 → bs id = none) :
    Calls Tryz.prog 81 #[pv, .int .u32 id, b.v] w fun e w' => ∃ pv', e = .returned (.tuple #[pv', .int .i64 (setC bs n id b)]) ∧ PlaceIs w' pv' (setN bs n id b) (setB bs n id b) ∧ Below w.heap.size w w' := by
  have keep : ∀ code : Int, code ≠ 0 → setC bs n id b = code → SetErr id b n (bs id).isSome code → Calls Tryz.prog 81 #[pv, .int .u32 id, b.v] w fun e w' => ∃ pv', e = .returned (.tuple #[pv', .int .i64 (setC bs n id b)]) ∧ PlaceIs w' pv' (setN bs n id b) (setB bs n id b) ∧ Below w.heap.size w w' := by
    intro code h0 hc hh
    refine (pset_err pv n bs id b code w hid hn hp hh).mono ?_
    rintro e w' ⟨rfl, hb⟩
    have e0 : setB bs n id b = bs := by unfold setB; rw [hc, if_neg h0]
    have e1 : setN bs n id b = n := by unfold setN; rw [hc, if_neg h0]
    rw [hc, e0, e1]
    exact ⟨pv, rfl, hp.below hb, hb⟩
  by_cases h1 : id = 1
  · exact keep 23 (by decide) (by simp [setC, h1]) (.inl ⟨h1, rfl⟩)
  by_cases h2 : idC id = 0
  rotate_left
  · exact keep (idC id) h2 (by simp [setC, h1, h2]) (.inr ⟨h1, .inl ⟨h2, rfl⟩⟩)
  have s2 : ∀ {code}, _ → SetErr id b n (bs id).isSome code := fun {code} x => .inr ⟨h1, .inr ⟨h2, x⟩⟩
  cases hx : coordB b.X
  · exact keep 1 (by decide) (by simp [setC, h1, h2, hx]) (s2 (.inl ⟨hx, rfl⟩))
  cases hy : coordB b.Y
  · exact keep 1 (by decide) (by simp [setC, h1, h2, hx, hy]) (s2 (.inr ⟨hx, .inl ⟨hy, rfl⟩⟩))
  cases hw : sideB b.W
  · exact keep 17 (by decide) (by simp [setC, h1, h2, hx, hy, hw]) (s2 (.inr ⟨hx, .inr ⟨hy, .inl ⟨hw, rfl⟩⟩⟩))
  cases hh : sideB b.H
  · exact keep 17 (by decide) (by simp [setC, h1, h2, hx, hy, hw, hh]) (s2 (.inr ⟨hx, .inr ⟨hy, .inr ⟨hw, .inl ⟨hh, rfl⟩⟩⟩⟩))
  have s3 : ∀ {code}, _ → SetErr id b n (bs id).isSome code := fun {code} x => s2 (.inr ⟨hx, .inr ⟨hy, .inr ⟨hw, .inr ⟨hh, x⟩⟩⟩⟩)
  rcases gravC_or b.G with hg | hg
  rotate_left
  · exact keep 10 (by decide) (by simp [setC, h1, h2, hx, hy, hw, hh, hg]) (s3 (.inl ⟨hg, rfl⟩))
  rcases gravC_or b.B with hb | hb
  rotate_left
  · exact keep 10 (by decide) (by simp [setC, h1, h2, hx, hy, hw, hh, hg, hb]) (s3 (.inr ⟨hg, .inl ⟨hb, rfl⟩⟩))
  by_cases hs : b.S = false ∧ b.n ≠ 0
  · exact keep 14 (by decide) (by simp [setC, h1, h2, hx, hy, hw, hh, hg, hb, hs]) (s3 (.inr ⟨hg, .inr ⟨hb, .inl ⟨hs.1, decide_eq_false hs.2, rfl⟩⟩⟩))
  have hS : b.S = true ∨ (b.S = false ∧ decide (b.n = 0) = true) := by
    cases e : b.S
    · exact .inr ⟨rfl, decide_eq_true (Classical.byContradiction fun h => hs ⟨e, h⟩)⟩
    · exact .inl rfl
  have hs' : ¬ (b.S = false ∧ ¬ b.n = 0) := hs
  by_cases hm : (bs id).isSome = false ∧ 64 ≤ n
  · have hm1 : bs id = none := by simpa using hm.1
    exact keep 5 (by decide) (by simp [setC, h1, h2, hx, hy, hw, hh, hg, hb, hs', hm1, hm.2]) (s3 (.inr ⟨hg, .inr ⟨hb, .inr ⟨hS, .inl ⟨hm.1, decide_eq_true (by omega), rfl⟩⟩⟩⟩))
  have hc1 : setC bs n id b = if n = 0 then 9 else 0 := by
    unfold setC
    rw [if_neg h1, if_neg (by simp [h2]), if_neg (by simp [hx, hy]), if_neg (by simp [hw, hh]), if_neg (by simp [hg, hb]), if_neg hs, if_neg hm]
  by_cases h0 : n = 0
  · have hno : (bs id).isSome = false := by rw [hz h0]; rfl
    exact keep 9 (by decide) (by rw [hc1, if_pos h0]) (s3 (.inr ⟨hg, .inr ⟨hb, .inr ⟨hS, .inr ⟨hno, decide_eq_false (by omega), by rw [h0]; rfl, rfl⟩⟩⟩⟩))
  · have hc : setC bs n id b = 0 := by rw [hc1, if_neg h0]
    refine (pset_ok pv n bs id b w hid hn hp h1 h2 hx hy hw hh hg hb hS ?_ (by simp; omega)).mono ?_
    · cases e : (bs id).isSome
      · refine .inr ⟨rfl, decide_eq_false fun h => hm ⟨e, by omega⟩⟩
      · exact .inl rfl
    · rintro e w' ⟨pv', rfl, hp', hb'⟩
      have e0 : setB bs n id b = fun j => if j = id then some b else bs j := by unfold setB; rw [hc, if_pos rfl]
      have e1 : setN bs n id b = if (bs id).isSome then n else n + 1 := by unfold setN; rw [hc, if_pos rfl]
      rw [hc, e0, e1]
      exact ⟨pv', rfl, hp', hb'⟩

end Go.Proofs.YtdaedkolpfkdjaaGreat
end

section
namespace Go.Proofs.YtdaedkolpfkdjaaGreat
open Go.RowKit Go.Maps Go.Shelf

section
variable {P : Program} {k : TypeId} {q : IntKind} {w : World} {b n : Nat} {f : Int → Option Value}
theorem MapIs.isMap (h : MapIs P k q w b n f) : ∃ es clock, w.heap[b]? = some (.map es clock) := by
  obtain ⟨D, ⟨es, clock, h1, _⟩, _⟩ := h
  exact ⟨es, clock, h1⟩
theorem MapIs.neBlk (h : MapIs P k q w b n f) {B : Nat} {t : TypeId} {cs : Array Value} (hB : Blk w B t cs) : b ≠ B := fun e => by
  obtain ⟨es, clock, h1⟩ := h.isMap
  unfold Blk at hB
  rw [← e, h1] at hB
  cases hB
theorem MapOpt.setBlk {mb : Option Nat} (h : MapOpt P k q w mb n f) {B : Nat} {t : TypeId} {cs : Array Value} (hB : Blk w B t cs) (i : Nat) (u : Value) : MapOpt P k q (w.setCell ⟨B, i, none⟩ u) mb n f := by
  rcases h with h | ⟨b, e, h⟩
  · exact .inl h
  · exact .inr ⟨b, e, h.setCell (h.neBlk hB) u⟩
end

theorem PlaceIs.setBlk {w : World} {v : Value} {n : Nat} {bs : Bxs} (h : PlaceIs w v n bs) {B : Nat} {t : TypeId} {cs : Array Value} (hB : Blk w B t cs) (i : Nat) (u : Value) : PlaceIs (w.setCell ⟨B, i, none⟩ u) v n bs := by
  obtain ⟨mb, e, h⟩ := h
  exact ⟨mb, e, h.setBlk hB i u⟩
/-- a slice of ids doesn't lie where no ids are. -/
theorem Rd.setBlk {w : World} {A : Option Addr} {n : Nat} {l : List Int} (h : Rd w A n (U32 l)) {B : Nat} {t : TypeId} {cs : Array Value} (hB : Blk w B t cs) (hc : ∀ (j : Nat) (x : Int), cs[j]? ≠ some (.int .u32 x)) (i : Nat) (u : Value) : Rd (w.setCell ⟨B, i, none⟩ u) A n (U32 l) := by
  refine h.far' (p := ⟨B, i, none⟩) (fun hn a ea => ?_) u
  obtain ⟨b, off, e, hb, hcl⟩ := h.2 hn
  rw [e] at ea
  cases ea
  intro e'
  dsimp only at e'
  subst e'
  have hl := h.1
  match l, hl with
  | [], hl => simp [U32] at hl; omega
  | x :: l, _ =>
    have := hcl 0 (.int .u32 x) rfl
    rw [hB.cell] at this
    exact hc _ _ this
theorem TreeIs.setBlk {w : World} {v : Value} {ns : Nodes} {mk mu : Option Nat} {nk : Nat} {fk : Int → Option Value} (h : TreeIs w v ns mk mu nk fk) {B : Nat} {t : TypeId} {cs : Array Value} (hB : Blk w B t cs) (hc : ∀ (j : Nat) (x : Int), cs[j]? ≠ some (.int .u32 x)) (i : Nat) (u : Value) : TreeIs (w.setCell ⟨B, i, none⟩ u) v ns mk mu nk fk :=
  ⟨h.shape, h.kids.setBlk hB i u, h.up.setBlk hB i u, fun j => by
    obtain ⟨A, c, e, hl, hr⟩ := h.each j
    exact ⟨A, c, e, hl, hr.setBlk hB hc i u⟩, h.room, h.few, h.ok, h.keys⟩
end Go.Proofs.YtdaedkolpfkdjaaGreat
end

section
namespace Go.Proofs.YtdaedkolpfkdjaaGreat
open Go.RowKit Go.Maps Go.Shelf

def DW.cells (d : DW) : List Value := [.int .i64 d.P, .int .i64 d.X, .int .i64 d.Y, .int .i64 d.W, .int .i64 d.H, .bool d.M, .bool d.S, .slice d.A d.n d.c]
theorem DW.cells_len (d : DW) : d.cells.length = 8 := rfl
/-- a slice that reads as windows. -/
structure RdWs (w : World) (A : Option Addr) (n : Nat) (l : List DW) : Prop where
  recs : RdF DW.cells 8 w A n l
  shapes : ∀ d ∈ l, RdR w d.A d.n d.sh
theorem RdWs.below {w w' : World} {A : Option Addr} {n : Nat} {l : List DW} (h : RdWs w A n l) (hb : Below w.heap.size w w') : RdWs w' A n l := ⟨h.recs.below hb, fun d hd => (h.shapes d hd).below hb⟩
theorem RdWs.at_ {w : World} {A : Option Addr} {n : Nat} {l : List DW} (h : RdWs w A n l) (hn : 0 < n) : ∃ b off, A = some ⟨b, off, none⟩ ∧ b < w.heap.size ∧ ∀ k d, l[k]? = some d → (w.cell? ⟨b, off + k * 8, none⟩ = some (.int .i64 d.P) ∧ w.cell? ⟨b, off + k * 8 + 1, none⟩ = some (.int .i64 d.X) ∧ w.cell? ⟨b, off + k * 8 + 2, none⟩ = some (.int .i64 d.Y) ∧ w.cell? ⟨b, off + k * 8 + 3, none⟩ = some (.int .i64 d.W)) ∧ w.cell? ⟨b, off + k * 8 + 4, none⟩ = some (.int .i64 d.H) ∧ w.cell? ⟨b, off + k * 8 + 5, none⟩ = some (.bool d.M) ∧ w.cell? ⟨b, off + k * 8 + 6, none⟩ = some (.bool d.S) ∧ w.cell? ⟨b, off + k * 8 + 7, none⟩ = some (.slice d.A d.n d.c) := by
  obtain ⟨b, off, e, hb, hc⟩ := h.recs.2 hn
  exact ⟨b, off, e, hb, fun k d hk => ⟨⟨hc k d hk 0 _ rfl, hc k d hk 1 _ rfl, hc k d hk 2 _ rfl, hc k d hk 3 _ rfl⟩, hc k d hk 4 _ rfl, hc k d hk 5 _ rfl, hc k d hk 6 _ rfl, hc k d hk 7 _ rfl⟩⟩
end Go.Proofs.YtdaedkolpfkdjaaGreat
end

section
namespace Go.Proofs.YtdaedkolpfkdjaaGreat
open Go.RowKit Go.Maps Go.Shelf

/-- rectangles that may be a shape here. -/
def SmallR (r : RC) : Prop := ((-100 ≤ r.X ∧ r.X ≤ 100) ∧ -100 ≤ r.Y ∧ r.Y ≤ 100) ∧ (0 ≤ r.W ∧ r.W ≤ 100) ∧ 0 ≤ r.H ∧ r.H ≤ 100
/-- what small answers. -/
def SmallP (rs : List RC) (e : Ending) (w w' : World) : Prop := ∃ b : Bool, e = .returned (.bool b) ∧ (b = true → rs.length ≤ 6 ∧ ∀ r ∈ rs, SmallR r) ∧ Below w.heap.size w w'
/-- a window's pixels. -/
def inkV (q : Int) (W i : Nat) : Int := bits .xor .u8 q (IntKind.u8.wrap (((i % W : Nat) : Int) * 3 + ((i / W : Nat) : Int) * 7))
def inkL (W n : Nat) (q : Int) : List Int := (List.range n).map (inkV q W)
theorem inkL_len (W n : Nat) (q : Int) : (inkL W n q).length = n := by simp [inkL]
theorem inkV_bd (q : Int) (W i : Nat) : 0 ≤ inkV q W i ∧ inkV q W i < 256 := by
  unfold inkV bits
  simp only
  rw [IntKind.wrap_u8]
  omega
theorem inkL_pix (W n : Nat) (q : Int) : Gr.Pix (inkL W n q) := fun p hp => by
  unfold inkL at hp
  obtain ⟨i, _, rfl⟩ := List.mem_map.1 hp
  exact inkV_bd q W i
/-- the first k of the numbers, zeros else. -/
def pl (N : Nat) (ps : List Int) (k : Nat) : List Int := (List.range N).map fun i => if i < k then ps.getD i 0 else 0
theorem pl_length (N : Nat) (ps : List Int) (k : Nat) : (pl N ps k).length = N := by simp [pl]
theorem pl_zero (N : Nat) (ps : List Int) : pl N ps 0 = List.replicate N 0 := by
  apply List.ext_getElem <;> simp [pl]
theorem pl_all {N : Nat} {ps : List Int} (h : ps.length = N) : pl N ps N = ps := by
  apply List.ext_getElem
  · simp [pl, h]
  · intro i h1 h2
    simp only [pl, List.getElem_map, List.getElem_range]
    rw [if_pos (by omega), List.getD_eq_getElem?_getD, List.getElem?_eq_getElem h2]
    rfl
theorem pl_set {N : Nat} {ps : List Int} {k : Nat} {p : Int} (hp : ps[k]? = some p) : pl N ps (k + 1) = (pl N ps k).set k p := by
  apply List.ext_getElem
  · simp [pl]
  · intro i h1 h2
    simp only [pl, List.getElem_map, List.getElem_range, List.getElem_set]
    by_cases hik : k = i
    · subst hik
      rw [if_pos (by omega), if_pos rfl, List.getD_eq_getElem?_getD, hp]
      rfl
    · rw [if_neg hik]
      by_cases h : i < k
      · rw [if_pos (by omega), if_pos h]
      · rw [if_neg (by omega), if_neg h]
theorem made_u8 (n : Nat) : (madeCells (Value.int .u8 0).cells (n * 1)).toList = Gr.U8 (List.replicate n 0) := by
  have e1 : (madeCells (Value.int .u8 0).cells (n * 1)).toList = List.replicate n (.int .u8 0) := by
    rw [List.eq_replicate_iff]
    refine ⟨by simp [madeCells], fun b hb => ?_⟩
    simp only [madeCells, Array.toList_map, List.mem_map, Array.toList_range, List.mem_range] at hb
    obtain ⟨i, _, rfl⟩ := hb
    simp [Nat.mod_one, Value.cells]
  rw [e1]
  simp [Gr.U8]
set_option maxRecDepth 100000 in
theorem Tryz.infoBy : (Tryz.prog.info? 5).map (fun i => (i.zero, i.size, i.bytes)) = some (some (.int .u8 0), 1, 1) := by kernel_rfl
set_option maxRecDepth 100000 in
set_option maxHeartbeats 4000000 in
theorem ink_any (W H : Nat) (q : Int) (w : World) (hW : 1 ≤ W ∧ W ≤ 128) (hH : 1 ≤ H ∧ H ≤ 128) :
    Calls Tryz.prog 41 #[.int .i64 W, .int .i64 H, .int .u8 q] w fun e w' => ∃ A c, e = .returned (.slice A (W * H) c) ∧ Rd w' A (W * H) (Gr.U8 (inkL W (W * H) q)) ∧ W * H ≤ c ∧ Fr w.heap.size A ∧ Below w.heap.size w w' := by
  have hWH := Gr.mul_le_128 hW.2 hH.2
  have m0 : (W : Int) * (H : Int) = ((W * H : Nat) : Int) := (Int.natCast_mul W H).symm
  have m1 : 0 ≤ (W : Int) * (H : Int) := by rw [m0]; omega
  have m2 : (W : Int) * (H : Int) ≤ 16384 := by rw [m0]; omega
  have mw : IntKind.i64.wrap ((W : Int) * (H : Int)) = (W : Int) * (H : Int) := IntWalk.i64_in _ (by omega)
  have M0 := Lib.hid m0
  clear m0
  obtain ⟨i0, hi, hz0, hz1, hz2⟩ := info_parts Tryz.infoBy
  obtain ⟨n, hn⟩ : ∃ n, W * H = n := ⟨_, rfl⟩
  have HN := Lib.hid hn
  have hn1 : n ≤ 16384 := by omega
  rw [hn]
  clear hn hWH
  go_enter Tryz.func41, Tryz.ntmps41
  go_upto_region 2 with (at_make; refine wpList_make_full _ rfl _ _ 86 rfl w.heap.size 5 i0 _ 1 Tryz.underlying86 hi hz0 hz1 _ _ _ _ n rfl rfl (by rw [M0.out, HN.out]) (by rw [M0.out, HN.out]) (by rw [hz2]; omega) (by simp only [maxLen]; omega) (Nat.le_refl _) ?_; intro w1 hown hg1; have HO := Lib.hid hown; have HB1 := Lib.hid (below_of_grown hg1); clear hown hg1)
  have hst : w1.ownsRow w.heap.size 5 1 (.slice (some ⟨w.heap.size, 0, none⟩) n n) n (madeCells (Value.int .u8 0).cells (n * 1)).toList := by simpa using HO.out
  rw [made_u8, ← pl_zero n (inkL W n q)] at hst
  have HST := Lib.hid (own_blk hst).2
  clear hst
  go_wp2_with fail
  go_loopw [15, 8] (fun i _ wr => ∃ k : Nat, i = .int .i64 k ∧ k ≤ n ∧ Blk wr w.heap.size 5 (Gr.U8 (pl n (inkL W n q) k)).toArray ∧ Below w.heap.size w wr) (fun i _ _ => n - (intOf i).toNat)
  case atStart => exact ⟨0, rfl, by omega, HST.out, HB1.out⟩
  case round =>
    obtain ⟨k, rfl, hk, hb, hbr⟩ := hrel
    have HBK := Lib.hid hb
    have HBR := Lib.hid hbr
    by_cases hlt : k < n
    · obtain ⟨r, hr⟩ : ∃ r : Nat, k % W = r := ⟨_, rfl⟩
      obtain ⟨d, hd⟩ : ∃ d : Nat, k / W = d := ⟨_, rfl⟩
      have hrl : r < W := by rw [← hr]; exact Nat.mod_lt _ (by omega)
      have hdl : d ≤ k := by rw [← hd]; exact Nat.div_le_self _ _
      have t0 : (k : Int).tmod (W : Int) = (r : Int) := by rw [Int.tmod_eq_emod_of_nonneg (by omega), ← hr]; exact (Int.natCast_emod k W).symm
      have t1 : (k : Int).tdiv (W : Int) = (d : Int) := by rw [Int.tdiv_eq_ediv_of_nonneg (by omega), ← hd]; exact (Int.natCast_ediv k W).symm
      have t2 : IntKind.i64.wrap (r : Int) = (r : Int) := IntWalk.i64_in _ (by omega)
      have t3 : IntKind.i64.wrap ((r : Int) * 3) = (r : Int) * 3 := IntWalk.i64_in _ (by omega)
      have t4 : IntKind.i64.wrap (d : Int) = (d : Int) := IntWalk.i64_in _ (by omega)
      have t5 : IntKind.i64.wrap ((d : Int) * 7) = (d : Int) * 7 := IntWalk.i64_in _ (by omega)
      have t6 : IntKind.i64.wrap ((r : Int) * 3 + (d : Int) * 7) = (r : Int) * 3 + (d : Int) * 7 := IntWalk.i64_in _ (by omega)
      have z1 : ((W : Int) == 0) = false := by rw [beq_eq_false_iff_ne]; omega
      have z2 : ¬ (W : Int) = 0 := by omega
      obtain ⟨u, hu⟩ : ∃ u, (pl n (inkL W n q) k)[k]? = some u := ⟨_, List.getElem?_eq_getElem (by rw [pl_length]; exact hlt)⟩
      have c0 := hb.cellV (i := k) (v := .int .u8 u) (by simp [Gr.U8, hu])
      have f0 := hb.frozen k
      have hl := hb.lt
      have k0 : (0 : Int) ≤ (k : Int) := by omega
      have k1 : (k : Int) < (n : Int) := by omega
      have HV := Lib.hid (show (inkL W n q)[k]? = some (bits .xor .u8 q (IntKind.u8.wrap ((r : Int) * 3 + (d : Int) * 7))) by
        unfold inkL inkV
        rw [List.getElem?_map, List.getElem?_range hlt, Option.map_some, hr, hd])
      clear hb hbr hu hr hd hrl hdl
      go_upto_region 5 with fail
      go_region
      all_goals
        go_wp2_with fail
        go_roundw
      case rel =>
        refine ⟨k + 1, by go_num, by omega, ?_, (bset HBR.out (p := ⟨w.heap.size, k, none⟩) (Nat.le_refl _) _).drew⟩
        rw [pl_set HV.out]
        have h9 := HBK.out.set_ k (.int .u8 (bits .xor .u8 q (IntKind.u8.wrap ((r : Int) * 3 + (d : Int) * 7))))
        rw [List.setIfInBounds_toArray] at h9
        unfold Gr.U8 at h9 ⊢
        rw [List.map_set]
        exact h9
      case measure => simp [intOf]; omega
    · obtain rfl : k = n := by omega
      have k1 : ¬ (k : Int) < (k : Int) := by omega
      have hall : pl k (inkL W k q) k = inkL W k q := pl_all (inkL_len W k q)
      rw [hall] at hb
      have HBA := Lib.hid hb
      clear hb hbr hall
      go_wp2_with fail
      go_ret
      exact ⟨_, _, rfl, Rd.of_own (blk_own HBA.out (Nat.le_refl _) (by simp [Gr.U8, inkL_len]) (by simp only [maxLen]; omega)), Nat.le_refl _, (fun a ea => by cases ea; exact Nat.le_refl _), HBR.out⟩
theorem rd_nou8 {w : World} {A : Option Addr} {n : Nat} {px : List Int} (h : Rd w A n (Gr.U8 px)) {B : Nat} {t : TypeId} {cs : Array Value} (hB : Blk w B t cs) (hno : ∀ (j : Nat) (x : Int), cs[j]? ≠ some (.int .u8 x)) (i : Nat) (u : Value) : Rd (w.setCell ⟨B, i, none⟩ u) A n (Gr.U8 px) := by
  refine h.far' (p := ⟨B, i, none⟩) (fun hn a ha e => ?_) u
  obtain ⟨b, off, e1, _, hc⟩ := h.2 hn
  rw [e1] at ha
  cases ha
  dsimp only at e
  subst e
  have hl := h.1
  match px, hl with
  | [], hl => simp [Gr.U8] at hl; omega
  | x :: l, _ =>
    have := hc 0 (.int .u8 x) rfl
    rw [hB.cell] at this
    exact hno _ _ this
theorem grid_no8 (W H : Int) (A : Option Addr) (n c : Nat) : ∀ (j : Nat) (x : Int), (#[.int .i64 W, .int .i64 H, .slice A n c] : Array Value)[j]? ≠ some (.int .u8 x) := fun j x => by
  match j with
  | 0 => simp
  | 1 => simp
  | 2 => simp
  | j + 3 => simp
set_option maxRecDepth 100000 in
set_option maxHeartbeats 4000000 in
theorem plane_any (W H : Nat) (px : List Int) (A : Option Addr) (n c : Nat) (w : World) (hW : 1 ≤ W ∧ W ≤ 128) (hH : 1 ≤ H ∧ H ≤ 128) (hn : n = W * H) (hr : Rd w A n (Gr.U8 px)) :
    Calls Tryz.prog 40 #[.int .i64 W, .int .i64 H, .slice A n c] w fun e w' => ∃ A' c', e = .returned (.tuple #[.agg #[.int .i64 W, .int .i64 H, .slice A' n c'], .bool true]) ∧ Rd w' A' n (Gr.U8 px) ∧ n ≤ c' ∧ Fr w.heap.size A' ∧ Below w.heap.size w w' := by
  have hWH := Gr.mul_le_128 hW.2 hH.2
  have hn1 : n ≤ 16384 := by omega
  have hpl : px.length = n := by simpa [Gr.U8] using hr.1
  have HN := Lib.hid hn
  have HR := Lib.hid hr
  have HPL := Lib.hid hpl
  clear hr hpl hn hWH
  have xb := bal (bre w) (.cells #[.int .i64 0, .int .i64 0, .slice none 0 0] 75)
  have xk := Blk.new w 75 #[.int .i64 0, .int .i64 0, .slice none 0 0]
  go_enter Tryz.func40, Tryz.ntmps40
  go_upto_region 1 with fail
  obtain ⟨X, hX⟩ : ∃ X, w.alloc (.cells #[.int .i64 0, .int .i64 0, .slice none 0 0] 75) = X := ⟨_, rfl⟩
  rw [hX] at xb xk ⊢
  have HB := Lib.hid xb
  have K6 := Lib.hid xk
  clear xb xk hX
  go_wp2_with fail
  refine (Gr.new_any W H 0 _ hW hH).mono ?_
  rintro e w1 ⟨A1, c1, rfl, hr1, hc1, hfr1, hb1⟩
  have HFR1 := Lib.hid (show Fr w.heap.size A1 from fun a ea => Nat.le_trans HB.out.size (hfr1 a ea))
  rw [← HN.out] at hr1 hc1 ⊢
  rw [← pl_zero n px] at hr1
  have hl6 := K6.out.lt
  have xb := bal (bstep HB.out hb1) (.cells #[.int .i64 W, .int .i64 H, .slice A1 n c1] 75)
  have xr := hr1.below (bal (bre w1) (.cells #[.int .i64 W, .int .i64 H, .slice A1 n c1] 75))
  have x6 := (K6.out.belowS hb1).alloc (.cells #[.int .i64 W, .int .i64 H, .slice A1 n c1] 75)
  have x8 := Blk.new w1 75 #[.int .i64 W, .int .i64 H, .slice A1 n c1]
  have hs1 := hb1.size
  go_upto_region 2 with fail
  obtain ⟨g, hg⟩ : ∃ g, w1.heap.size = g := ⟨_, rfl⟩
  obtain ⟨Y, hY⟩ : ∃ Y, w1.alloc (.cells #[.int .i64 W, .int .i64 H, .slice A1 n c1] 75) = Y := ⟨_, rfl⟩
  rw [hY] at xb xr x6 x8 ⊢
  rw [hg] at x8 hs1 ⊢
  replace HB := Lib.hid xb
  have HR1 := Lib.hid xr
  replace K6 := Lib.hid x6
  have K8 := Lib.hid x8
  have hgw : w.heap.size ≤ g := by have := xb.size; omega
  have hg6 : w.heap.size ≠ g := by omega
  clear hr1 hb1 xb xr x6 x8 hY hg
  go_wp2_with fail
  go_loopw [20, 10, 11] (fun i _ _ wr => ∃ (k : Nat) (A2 : Option Addr) (c2 : Nat), i = .int .i64 k ∧ k ≤ n ∧ (n ≤ c2 ∧ Fr w.heap.size A2) ∧ Blk wr g 75 #[.int .i64 W, .int .i64 H, .slice A2 n c2] ∧ Rd wr A2 n (Gr.U8 (pl n px k)) ∧ Blk wr w.heap.size 75 #[.int .i64 0, .int .i64 0, .slice none 0 0] ∧ Below w.heap.size w wr) (fun i _ _ _ => n - (intOf i).toNat)
  case atStart => exact ⟨0, A1, c1, rfl, by omega, ⟨hc1, HFR1.out⟩, K8.out, HR1.out, K6.out, HB.out⟩
  case round =>
    obtain ⟨k, A2, c2, rfl, hk, ⟨hc2, hfr2⟩, hb8, hr2, hb6, hbr⟩ := hrel
    have HFR2 := Lib.hid hfr2
    have KB8 := Lib.hid hb8
    have HR2 := Lib.hid hr2
    have KB6 := Lib.hid hb6
    have HBR := Lib.hid hbr
    by_cases hlt : k < n
    · obtain ⟨p, hp⟩ : ∃ p, px[k]? = some p := ⟨_, List.getElem?_eq_getElem (by rw [HPL.out]; exact hlt)⟩
      obtain ⟨b, off, rfl, hbl, hcl⟩ := (HR.out.below hbr).2 (by omega)
      have q0 := hcl k (.int .u8 p) (by simp [Gr.U8, hp])
      obtain ⟨r, hr⟩ : ∃ r : Nat, k % W = r := ⟨_, rfl⟩
      obtain ⟨d, hd⟩ : ∃ d : Nat, k / W = d := ⟨_, rfl⟩
      have hrl : r < W := by rw [← hr]; exact Nat.mod_lt _ (by omega)
      have hdl : d ≤ k := by rw [← hd]; exact Nat.div_le_self _ _
      have hkd : d * W + r = k := by rw [← hr, ← hd]; exact Nat.div_add_mod' k W
      have hdH : d < H := by rw [← hd]; have h9 := hlt; rw [HN.out] at h9; exact Nat.div_lt_of_lt_mul h9
      have t0 : (k : Int).tmod (W : Int) = (r : Int) := by rw [Int.tmod_eq_emod_of_nonneg (by omega), ← hr]; exact (Int.natCast_emod k W).symm
      have t1 : (k : Int).tdiv (W : Int) = (d : Int) := by rw [Int.tdiv_eq_ediv_of_nonneg (by omega), ← hd]; exact (Int.natCast_ediv k W).symm
      have t2 : IntKind.i64.wrap (r : Int) = (r : Int) := IntWalk.i64_in _ (by omega)
      have t4 : IntKind.i64.wrap (d : Int) = (d : Int) := IntWalk.i64_in _ (by omega)
      have z1 : ((W : Int) == 0) = false := by rw [beq_eq_false_iff_ne]; omega
      have z2 : ¬ (W : Int) = 0 := by omega
      have k0 : (0 : Int) ≤ (k : Int) := by omega
      have k1 : (k : Int) < (n : Int) := by omega
      have c0 := hb8.cellV (i := 0) (v := .int .i64 W) rfl
      have c1' := hb8.cellV (i := 1) (v := .int .i64 H) rfl
      have c2' := hb8.cellV (i := 2) (v := .slice A2 n c2) rfl
      have HP := Lib.hid hp
      have HGS := Lib.hid (show Gr.gset W H (pl n px k) (r : Int) (d : Int) p = pl n px (k + 1) by
        unfold Gr.gset
        rw [if_pos ((Gr.has_iff _ _ _ _).2 (by omega)), pl_set hp, Int.toNat_natCast, Int.toNat_natCast, hkd])
      have HKD := Lib.hid hkd
      clear hb8 hr2 hb6 hbr hcl hp hr hd hkd
      go_upto_region 5 with fail
      go_region_with (go_at_call 42; refine (Gr.set_any W H (pl n px k) (r : Int) (d : Int) p A2 n c2 _ HN.out hW.2 hH.2 hc2 (by exact HR2.out.below (bre wr).drew)).mono ?_; rintro e w5 ⟨A5, c5, rfl, hr5, hc5, hfr5, hb59⟩; have HFR5 := Lib.hid (show Fr w.heap.size A5 from hfr5.elim (fun e5 => e5 ▸ HFR2.out) (fun h5 => fun a ea => Nat.le_trans HBR.out.size (h5 a ea))); clear hfr5; have hb5 := undrewX (w := wr) hb59 rfl rfl rfl rfl; rw [HGS.out] at hr5; have HR5 := Lib.hid hr5; have HC5 := Lib.hid hc5; have b8 := KB8.out.belowS hb5; have HB5 := Lib.hid (bstep HBR.out hb5); have KB65 := Lib.hid (KB6.out.belowS hb5); have KB85 := Lib.hid b8; have e0 := b8.cellV (i := 0) (v := .int .i64 W) rfl; have e1 := b8.cellV (i := 1) (v := .int .i64 H) rfl; have e2 := b8.cellV (i := 2) (v := .slice A2 n c2) rfl; have f0 := b8.frozen 0; have f1 := b8.frozen 1; have f2 := b8.frozen 2; have fl := b8.lt; clear hr5 hc5 hb5 hb59 b8)
      all_goals
        go_wp2_with fail
        go_roundw
        · have x8 := ((KB85.out.set_ 0 (.int .i64 W)).set_ 1 (.int .i64 H)).set_ 2 (.slice A5 n c5)
          have x6 := ((KB65.out.far (p := ⟨g, 0, none⟩) hg6 (.int .i64 W)).far (p := ⟨g, 1, none⟩) hg6 (.int .i64 H)).far (p := ⟨g, 2, none⟩) hg6 (.slice A5 n c5)
          have xb := bset (bset (bset HB5.out (p := ⟨g, 0, none⟩) hgw (.int .i64 W)) (p := ⟨g, 1, none⟩) hgw (.int .i64 H)) (p := ⟨g, 2, none⟩) hgw (.slice A5 n c5)
          have xr := rd_nou8 (rd_nou8 (rd_nou8 HR5.out KB85.out (grid_no8 _ _ _ _ _) 0 (.int .i64 W)) (KB85.out.set_ 0 (.int .i64 W)) (grid_no8 _ _ _ _ _) 1 (.int .i64 H)) ((KB85.out.set_ 0 (.int .i64 W)).set_ 1 (.int .i64 H)) (grid_no8 _ _ _ _ _) 2 (.slice A5 n c5)
          exact ⟨k + 1, A5, c5, by go_num, by omega, ⟨HC5.out, HFR5.out⟩, x8, xr, x6, xb⟩
        · simp [intOf]; omega
    · obtain rfl : k = n := by omega
      have k1 : ¬ (k : Int) < (k : Int) := by omega
      rw [pl_all HPL.out] at hr2
      have HRF := Lib.hid hr2
      have a0 := hb8.cellV (i := 0) (v := .int .i64 W) rfl
      have a1 := hb8.cellV (i := 1) (v := .int .i64 H) rfl
      have a2 := hb8.cellV (i := 2) (v := .slice A2 k c2) rfl
      have b0 := hb6.cellV (i := 0) (v := .int .i64 0) rfl
      have b1 := hb6.cellV (i := 1) (v := .int .i64 0) rfl
      have b2 := hb6.cellV (i := 2) (v := .slice none 0 0) rfl
      have f0 := hb6.frozen 0
      have f1 := hb6.frozen 1
      have f2 := hb6.frozen 2
      have fl := hb6.lt
      clear hb8 hr2 hb6 hbr HR2
      go_wp2_with fail
      have h9 := ((KB6.out.set_ 0 (.int .i64 W)).set_ 1 (.int .i64 H)).set_ 2 (.slice A2 k c2)
      have r0 := h9.cellV (i := 0) (v := .int .i64 W) rfl
      have r1 := h9.cellV (i := 1) (v := .int .i64 H) rfl
      have r2 := h9.cellV (i := 2) (v := .slice A2 k c2) rfl
      have xb := bset (bset (bset HBR.out (p := ⟨w.heap.size, 0, none⟩) (Nat.le_refl _) (.int .i64 W)) (p := ⟨w.heap.size, 1, none⟩) (Nat.le_refl _) (.int .i64 H)) (p := ⟨w.heap.size, 2, none⟩) (Nat.le_refl _) (.slice A2 k c2)
      have xr := rd_nou8 (rd_nou8 (rd_nou8 HRF.out KB6.out (grid_no8 _ _ _ _ _) 0 (.int .i64 W)) (KB6.out.set_ 0 (.int .i64 W)) (grid_no8 _ _ _ _ _) 1 (.int .i64 H)) ((KB6.out.set_ 0 (.int .i64 W)).set_ 1 (.int .i64 H)) (grid_no8 _ _ _ _ _) 2 (.slice A2 k c2)
      exact bodyPost_ret (v := .tuple #[.agg #[.int .i64 W, .int .i64 H, .slice A2 k c2], .bool true]) (by simp [results, Tryz.results40, go_sem, r0, r1, r2]) rfl ⟨A2, c2, rfl, xr, hc2, hfr2, xb⟩
end Go.Proofs.YtdaedkolpfkdjaaGreat
end
