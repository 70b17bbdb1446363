/-
  The walk of band.Of: what a round does behind its row: the row's band is written behind the others, and joined to the one above it, if they are alike.
-/
import Derived.Maps.OwnIn
import Derived.Test.YtdaedkolpfkdjaaGreatZT09
section
namespace Go.Proofs.YtdaedkolpfkdjaaGreat
open Go.RowKit Go.Shelf Go.Lib Go.Sort
attribute [local go_sem] Oper.semAt_some
attribute [local go_sem] wideFn

set_option maxHeartbeats 1000000 in
theorem spans_any (A : Option Addr) (n c : Nat) (w : World) : Calls Tryz.prog 133 #[.slice A n c] w fun e w' => e = .returned (.func (.func 176) #[] #[.pointer (some ⟨w.heap.size, 0, none⟩)]) ∧ w' = w.alloc (.cells #[.slice A n c] 31) := by
  go_enter Tryz.func133, Tryz.ntmps133
  go_wp2_with fail
  go_ret
  exact ⟨rfl, rfl⟩

/-- the band of stretches, as the code reckons it. -/
def bandW (y h : Int) (sp : List Span) : List RC := sp.map fun s => ⟨s.1, y, wrap64 (s.2 - s.1), h⟩
theorem bandW_snoc (y h : Int) (sp : List Span) (s : Span) : bandW y h (sp ++ [s]) = bandW y h sp ++ [⟨s.1, y, wrap64 (s.2 - s.1), h⟩] := by simp [bandW]
theorem bandW_eq {y h : Int} {sp : List Span} (hc : ∀ r ∈ bandL y h sp, r.cnt = true) : bandW y h sp = bandL y h sp := by
  unfold bandW bandL
  refine List.map_congr_left fun s hs => ?_
  have := (cnt_iff _).1 (hc ⟨s.1, y, s.2 - s.1, h⟩ (List.mem_map.2 ⟨s, hs, rfl⟩))
  dsimp only at this
  rw [show wrap64 (s.2 - s.1) = s.2 - s.1 from by unfold wrap64; omega]
/-- what has come of the band. -/
def TailOk (out band : List RC) (above : Nat) (d : Int) (out' : List RC) (above' : Nat) : Prop :=
  (alikeB (out.drop above) band = false ∧ out' = out ++ band ∧ above' = out.length) ∨ (alikeB (out.drop above) band = true ∧ out' = out.take above ++ (out.drop above).map (RC.taller d) ∧ above' = above)

theorem own_cells {w : World} {base e size n : Nat} {v : Value} {xs : List Value} (h : w.ownsRow base e size v n xs) {g : Nat} (hg : v.ownBlock = some g) : ∃ cs, Blk w g e cs := by
  rcases h.2 with ⟨e1, _⟩ | ⟨g', cap, cur, e1, _, hk, _⟩
  · rw [e1] at hg
    cases hg
  · rw [e1] at hg
    cases hg
    exact ⟨_, hk⟩
/-- a block of other cells is not the row's. -/
theorem own_other {w : World} {base e size n : Nat} {v : Value} {xs : List Value} (h : w.ownsRow base e size v n xs) {b t : Nat} {cs : Array Value} (hb : Blk w b t cs) (hte : t ≠ e) : v.ownBlock ≠ some b := fun hg => by
  obtain ⟨cs', hc⟩ := own_cells h hg
  have := (show w.heap[b]? = _ from hb).symm.trans (show w.heap[b]? = _ from hc)
  simp at this
  exact hte this.2

theorem RdR.of_own {w : World} {B n c : Nat} {A : Option Addr} {rs : List RC} (h : w.ownsRow B 103 4 (.slice A n c) n (rcs rs)) (hn : rs.length = n) : RdR w A n rs := by
  subst hn
  rcases h.2 with ⟨_, e2⟩ | ⟨g, cap, cur, e1, _⟩
  · exact ⟨rfl, fun h0 => by omega⟩
  · injection e1 with e1 _ _
    subst e1
    obtain ⟨_, _, _, rest, hb, _⟩ := own_rcs h
    exact RdR.of_blk hb
theorem KeepS.putObj {p : Nat → Prop} {W : World} {l B : Nat} {o' : Obj} (hp : ∀ b, p b → b < B) (hl : B ≤ l) : KeepS p W (W.putObj l o') :=
  ⟨by simp [World.putObj], fun b hb => by have := hp b hb; simp [World.putObj, (show l ≠ b by omega)]⟩
theorem KeepS.own {β : Type} {p : Nat → Prop} {w : World} (hp : ∀ b, p b → b < w.heap.size) : OwnFrom w.heap.size (fun (_ : β) W => KeepS p w W) := fun _ X Y row hs hg hr =>
  hs.trans ⟨hg.size, fun b hb => hg.block b (Nat.lt_of_lt_of_le (hp b hb) hs.size) (fun e => by have := (hr b e.symm).1; have := hp b hb; omega)⟩
theorem KeepS.alloc {p : Nat → Prop} {w W : World} (hp : ∀ b, p b → b < w.heap.size) (h : KeepS p w W) (o : Obj) : KeepS p w (W.alloc o) :=
  h.trans ⟨by simp, fun b hb => Below.heap_alloc W o b (Nat.lt_of_lt_of_le (hp b hb) h.size)⟩
theorem KeepS.blk {p : Nat → Prop} {w W : World} (h : KeepS p w W) {g t : Nat} {cs : Array Value} (hb : Blk w g t cs) (hp : p g) : Blk W g t cs := (h.block g hp).trans hb
theorem blk_from {β : Type} (B g : Nat) (t : TypeId) (f : β → Array Value) : OwnFrom B (fun s W => Blk W g t (f s)) := fun s X Y row hs hg hrow =>
  hs.grown hg (fun e => by
    obtain ⟨_, o, ho, hc⟩ := hrow g e.symm
    rw [show X.heap[g]? = _ from hs] at ho
    cases ho
    cases hc)
theorem blk_ne {w : World} {a b t s : Nat} {cs ds : Array Value} (ha : Blk w a t cs) (hb : Blk w b s ds) (h : t ≠ s) : a ≠ b := fun e => by
  subst e
  have := (show w.heap[a]? = _ from ha).symm.trans (show w.heap[a]? = _ from hb)
  simp at this
  exact h this.2

theorem own_keep {w W : World} {base e size n : Nat} {v : Value} {xs : List Value} (h : w.ownsRow base e size v n xs) (hb : ∀ g, v.ownBlock = some g → W.heap[g]? = w.heap[g]?) : W.ownsRow base e size v n xs := by
  refine ⟨h.1, ?_⟩
  rcases h.2 with h2 | ⟨g, cap, cur, e1, h3, hk, h4⟩
  · exact .inl h2
  · exact .inr ⟨g, cap, cur, e1, h3, (hb g (by rw [e1]; rfl)).trans hk, h4⟩
theorem Marks.keepS {p : Nat → Prop} {B : Nat} {ds : List Deferred} {w W : World} (h : Marks B ds w) (hk : KeepS p w W) (hp : ∀ D, w.heap[D]? = some (.deferred (some [])) → p D) : Marks B ds W := by
  obtain ⟨Ds, h1, h2, h3⟩ := h
  exact ⟨Ds, h1, h2, fun D hD => ⟨(h3 D hD).1, (hk.block D (hp D (h3 D hD).2)).trans (h3 D hD).2⟩⟩

/-- where a part of a slice of rectangles begins. -/
def cutA (g c k : Nat) : Option Addr := some (if c = k then ⟨g, 0, none⟩ else ⟨g, k * 4, none⟩)
theorem run_cut_lh (W : World) (g n c l h : Nat) (hlh : l ≤ h) (hh : h ≤ c) :
    (Instr.slice 31 (.slice (some ⟨g, 0, none⟩) n c) (some (.int .i64 (l : Int))) (some (.int .i64 (h : Int))) none).run Tryz.prog W = .ok (.slice (cutA g c l) (h - l) (c - l)) W := by
  have ht' : Tryz.prog.underlying 31 = some (.slice (Tryz.prog.elem 31)) := by simp [Program.elem, Tryz.underlying31]
  have he : Tryz.prog.elem 31 = 103 := by simp [Program.elem, Tryz.underlying31]
  rw [run_slice_lh W _ _ _ _ ht' .i64 .i64 _ _ (by omega) (by omega) (by omega), he, Tryz.sizeOfR]
  unfold cutA
  by_cases hne : c = l
  · simp [Result.andThen, sliced, hne]
  · by_cases h0 : l = 0
    · subst h0
      simp [Result.andThen, sliced, Addr.add, hne]
    · have h4 : ¬ l * 4 = 0 := by omega
      simp [Result.andThen, sliced, Addr.add, hne, h4]
theorem run_cut_l (W : World) (g n c l : Nat) (hln : l ≤ n) (_hn : n ≤ c) :
    (Instr.slice 31 (.slice (some ⟨g, 0, none⟩) n c) (some (.int .i64 (l : Int))) none none).run Tryz.prog W = .ok (.slice (cutA g c l) (n - l) (c - l)) W := by
  have ht' : Tryz.prog.underlying 31 = some (.slice (Tryz.prog.elem 31)) := by simp [Program.elem, Tryz.underlying31]
  have he : Tryz.prog.elem 31 = 103 := by simp [Program.elem, Tryz.underlying31]
  rw [run_slice_l W _ _ _ _ ht' .i64 _ (by omega) (by omega), he, Tryz.sizeOfR]
  unfold cutA
  by_cases hne : c = l
  · simp [Result.andThen, sliced, hne]
  · by_cases h0 : l = 0
    · subst h0
      simp [Result.andThen, sliced, Addr.add, hne]
    · have h4 : ¬ l * 4 = 0 := by omega
      simp [Result.andThen, sliced, Addr.add, hne, h4]
/-- what a part of a slice of rectangles reads. -/
theorem RdR.cut {w : World} {g c k n : Nat} {t : TypeId} {rs qs : List RC} {rest : List Value} (h : Blk w g t (rcs rs ++ rest).toArray) (hk : k + n ≤ rs.length) (hc : rs.length ≤ c) (hq : qs = (rs.drop k).take n) : RdR w (cutA g c k) n qs := by
  subst hq
  refine ⟨by rw [List.length_take, List.length_drop]; omega, fun h0 => ⟨g, k * 4, by unfold cutA; rw [if_neg (by omega)], h.lt, fun i r hi => ?_⟩⟩
  rw [List.getElem?_take] at hi
  split at hi
  · rw [List.getElem?_drop] at hi
    rw [← Nat.add_mul]
    exact blk_at h hi
  · cases hi

/-- where a part of a slice of rectangles ends. -/
theorem run_cut_h (W : World) (g n c h : Nat) (hh : h ≤ c) :
    (Instr.slice 31 (.slice (some ⟨g, 0, none⟩) n c) none (some (.int .i64 (h : Int))) none).run Tryz.prog W = .ok (.slice (some ⟨g, 0, none⟩) h c) W := by
  have ht' : Tryz.prog.underlying 31 = some (.slice (Tryz.prog.elem 31)) := by simp [Program.elem, Tryz.underlying31]
  have he : Tryz.prog.elem 31 = 103 := by simp [Program.elem, Tryz.underlying31]
  rw [run_slice_h W _ _ _ _ ht' .i64 _ (by omega) (by omega), he, Tryz.sizeOfR]
  simp [Result.andThen, sliced, Addr.add]

/-- from the a-th to ahead of the j-th taller. -/
def tallL (a j : Nat) (d : Int) (l : List RC) : List RC := l.mapIdx fun i r => if a ≤ i ∧ i < j then r.taller d else r
theorem tall_get (a j : Nat) (d : Int) (l : List RC) (k : Nat) : (tallL a j d l)[k]? = (l[k]?).map (fun r => if a ≤ k ∧ k < j then r.taller d else r) := by simp [tallL, List.getElem?_mapIdx]
theorem tall_len (a j : Nat) (d : Int) (l : List RC) : (tallL a j d l).length = l.length := by simp [tallL]
theorem tall_start (a : Nat) (d : Int) (l : List RC) : tallL a a d l = l := by
  refine List.ext_getElem? fun k => ?_
  rw [tall_get]
  cases l[k]? with
  | none => rfl
  | some r => simp only [Option.map_some]; rw [if_neg (by omega)]
theorem tall_next {a j : Nat} {d : Int} {l : List RC} {x : RC} (h : l[j]? = some x) (ha : a ≤ j) : tallL a (j + 1) d l = (tallL a j d l).set j (x.taller d) := by
  refine List.ext_getElem? fun k => ?_
  have hj := (List.getElem?_eq_some_iff.1 h).1
  rw [List.getElem?_set, tall_get, tall_get, tall_len]
  by_cases hk : j = k
  · subst hk
    rw [if_pos rfl, if_pos hj, h]
    simp only [Option.map_some]
    rw [if_pos (by omega)]
  · rw [if_neg hk]
    cases l[k]? with
    | none => rfl
    | some r =>
      simp only [Option.map_some]
      by_cases hc : a ≤ k ∧ k < j
      · rw [if_pos (by omega), if_pos hc]
      · rw [if_neg (by omega), if_neg hc]
theorem tall_end {a : Nat} {d : Int} {out band : List RC} (ha : a ≤ out.length) : tallL a out.length d (out ++ band) = (out.take a ++ (out.drop a).map (RC.taller d)) ++ band := by
  refine List.ext_getElem? fun k => ?_
  rw [tall_get]
  by_cases hk : k < out.length
  · rw [List.getElem?_append_left hk, List.getElem?_append_left (by simp; omega)]
    by_cases hka : k < a
    · rw [List.getElem?_append_left (by simp; omega), List.getElem?_take, if_pos hka]
      cases out[k]? with
      | none => rfl
      | some r => simp only [Option.map_some]; rw [if_neg (by omega)]
    · rw [List.getElem?_append_right (by simp; omega), List.getElem?_map, List.getElem?_drop, List.length_take, show a + (k - min a out.length) = k from by omega]
      cases out[k]? with
      | none => rfl
      | some r => simp only [Option.map_some]; rw [if_pos (by omega)]
  · rw [List.getElem?_append_right (by omega), List.getElem?_append_right (by simp; omega)]
    have e : (out.take a ++ (out.drop a).map (RC.taller d)).length = out.length := by simp; omega
    rw [e]
    cases band[k - out.length]? with
    | none => rfl
    | some r => simp only [Option.map_some]; rw [if_neg (by omega)]
theorem rcs_setH (l : List RC) (rest : List Value) (k : Nat) (r : RC) (v : Int) (h : l[k]? = some r) : (rcs l ++ rest).set (k * 4 + 1 + 1 + 1) (.int .i64 v) = rcs (l.set k ⟨r.X, r.Y, r.W, v⟩) ++ rest := by
  induction l generalizing k with
  | nil => simp at h
  | cons q l ih =>
    cases k with
    | zero => simp at h; subst h; simp [rcs, RC.cells]
    | succ k =>
      have := ih k (by simpa using h)
      have e : (k + 1) * 4 + 1 + 1 + 1 = (k * 4 + 1 + 1 + 1) + 1 + 1 + 1 + 1 := by omega
      rw [e]
      simpa [rcs, RC.cells] using this
theorem blk_setH {w : World} {g : Nat} {t : TypeId} {l : List RC} {rest : List Value} (h : Blk w g t (rcs l ++ rest).toArray) {k : Nat} {r : RC} (hk : l[k]? = some r) (v : Int) :
    Blk (w.setCell ⟨g, k * 4 + 3, none⟩ (.int .i64 v)) g t (rcs (l.set k ⟨r.X, r.Y, r.W, v⟩) ++ rest).toArray := by
  have := h.set_ (k * 4 + 1 + 1 + 1) (.int .i64 v)
  rw [List.setIfInBounds_toArray, rcs_setH l rest k r v hk] at this
  exact this
/-- what is left of the rectangles, the ones behind struck. -/
theorem OfMem.shrink {V w5 wx : World} {g7 g nb c' k : Nat} {all out' band row3 : List RC} {rest : List Value} {vr : Value} (M : OfMem V g7 all row3 (.slice (some ⟨g, 0, none⟩) nb c') vr w5) (h7 : g7 < V.heap.size) (hVg : V.heap.size ≤ g) (hG : w5.grownBy wx (some g))
    (hB : Blk wx g 103 (rcs (out' ++ band) ++ rest).toArray) (hl : (rcs (out' ++ band) ++ rest).length = c' * 4) (hc : c' ≤ maxLen) (hk : out'.length = k) (hkc : k ≤ c') : OfMem V g7 out' row3 (.slice (some ⟨g, 0, none⟩) k c') vr (wx.setCell ⟨g7, 0, none⟩ (.slice (some ⟨g, 0, none⟩) k c')) := by
  subst hk
  have hgne : g ≠ g7 := by omega
  have hr : wx.ownsRow V.heap.size 103 4 vr row3.length (rcs row3) := by
    refine M.rowOwn.kept hG ?_
    cases hvr : vr.ownBlock with
    | none => exact .inl rfl
    | some g' => exact .inr (fun e => M.apart g rfl (hvr.trans e))
  refine ⟨(M.grown.andThen hG (fun j hj => .inl (by cases hj; exact hVg))).andThen (grown_setCell wx _ _) (fun j hj => .inr hj), ?_, ?_, own_far hr h7 _, fun g' e => M.apart g' e⟩
  · have := (M.box.grown hG (fun e => hgne (by injection e with e; exact e.symm))).set_ 0 (.slice (some ⟨g, 0, none⟩) out'.length c')
    simpa using this
  · refine own_far (rcs_own hVg hkc hc hB hl ?_ rfl) h7 _
    rw [rcs_append, List.append_assoc, List.take_append_of_le_length (by rw [rcs_len]; exact Nat.le_refl _), List.take_of_length_le (by rw [rcs_len]; exact Nat.le_refl _)]
theorem Marks.grownBlk {B g : Nat} {t : TypeId} {cs : Array Value} {ds : List Deferred} {w w' : World} (h : Marks B ds w) (hb : Blk w g t cs) (hg : w.grownBy w' (some g)) : Marks B ds w' := by
  refine h.keeps (KeepsOthers.of_grownBy hg fun j o ej hj => ?_)
  cases ej
  rw [show w.heap[g]? = _ from hb] at hj
  cases hj
  rfl

set_option maxRecDepth 1000000 in
set_option maxHeartbeats 4000000 in
theorem of_tail (V : World) (g7 b12 b13 m cr above : Nat) (Ar : Option Addr) (v u : Int) (out row3 : List RC) (vo : Value) (ds : List Deferred) (w : World) (u0 u1 u2 u3 u4 u5 u6 u10 u11 u14 u15 u16 u17 u18 u19 u20 u21 u22 u23 u24 u25 u26 u27 u28 u29 u30 u31 u32 u33 u34 u35 u36 u37 u38 u39 u40 u41 u42 u43 u44 u45 u46 u47 u48 u49 u50 u51 u52 u53 u54 u55 u56 u57 u58 u59 u60 u61 u62 u63 u64 u65 u66 u67 u68 u69 u70 u71 u72 u73 u74 u75 u76 u77 u78 u79 u80 u81 u82 u83 u84 u85 u86 u87 u88 u89 u90 u91 u92 u93 u94 u95 u96 u97 u98 u99 u100 u101 u102 u103 u104 u105 u106 u107 u108 u109 u110 u111 u112 u113 u114 u115 u116 u117 u118 u119 u120 u121 u122 u123 u124 u125 u126 u127 u128 u129 u130 u131 u132 u133 : Value) (Q : Exit → Act → World → Prop)
    (M : OfMem V g7 out row3 vo (.slice Ar m cr) w) (hm : row3.length = m) (h7V : g7 < V.heap.size)
    (K12 : Blk w b12 3 #[.int .i64 v]) (K13 : Blk w b13 3 #[.int .i64 u])
    (hmk : Marks V.heap.size ds w) (hab : above ≤ out.length) (hol : out.length ≤ 1000000000000) (hml : m ≤ 1000000000)
    (hrow : ∀ r ∈ row3, r.ok) (hout : ∀ r ∈ out, r.cnt = true) (hband : ∀ r ∈ bandL v (u - v) (spansL row3), r.cnt = true)
    (hv1 : -1048576 ≤ v) (hv2 : v ≤ 1048576) (hu1 : -1048576 ≤ u) (hu2 : u ≤ 1048576)
    (hQ : ∀ (out' : List RC) (above' : Nat) (vo' : Value) (ds' : List Deferred) (w' : World) (x15 x16 x17 x82 x83 x84 x85 x86 x87 x88 x89 x90 x91 x92 x93 x94 x95 x96 x97 x98 x99 x100 x101 x102 x103 x104 x105 x106 x107 x108 x109 x110 x111 x112 x113 x114 x115 x116 x117 x118 x119 x120 x121 x122 x123 x124 x125 x126 x127 x128 x129 x130 : Value), TailOk out (bandL v (u - v) (spansL row3)) above (u - v) out' above' → OfMem V g7 out' row3 vo' (.slice Ar m cr) w' → Marks V.heap.size ds' w' → Q .normal ⟨#[u0, u1, u2, u3, u4, u5, u6, .pointer (some ⟨g7, 0, none⟩), .slice Ar m cr, .int .i64 (above' : Int), u10, u11, .pointer (some ⟨b12, 0, none⟩), .pointer (some ⟨b13, 0, none⟩), u14, x15, x16, x17, u18, u19, u20, u21, u22, u23, u24, u25, u26, u27, u28, u29, u30, u31, u32, u33, u34, u35, u36, u37, u38, u39, u40, u41, u42, u43, u44, u45, u46, u47, u48, u49, u50, u51, u52, u53, u54, u55, u56, u57, u58, u59, u60, u61, u62, u63, u64, u65, u66, u67, u68, u69, u70, u71, u72, u73, u74, u75, u76, u77, u78, u79, u80, u81, x82, x83, x84, x85, x86, x87, x88, x89, x90, x91, x92, x93, x94, x95, x96, x97, x98, x99, x100, x101, x102, x103, x104, x105, x106, x107, x108, x109, x110, x111, x112, x113, x114, x115, x116, x117, x118, x119, x120, x121, x122, x123, x124, x125, x126, x127, x128, x129, x130, u131, u132, u133], ds'⟩ w') :
    Code.wp Tryz.prog (fstC ofTail) (Exit.then (Code.wp Tryz.prog (sndC ofTail) Q) Q) ⟨#[u0, u1, u2, u3, u4, u5, u6, .pointer (some ⟨g7, 0, none⟩), .slice Ar m cr, .int .i64 (above : Int), u10, u11, .pointer (some ⟨b12, 0, none⟩), .pointer (some ⟨b13, 0, none⟩), u14, u15, u16, u17, u18, u19, u20, u21, u22, u23, u24, u25, u26, u27, u28, u29, u30, u31, u32, u33, u34, u35, u36, u37, u38, u39, u40, u41, u42, u43, u44, u45, u46, u47, u48, u49, u50, u51, u52, u53, u54, u55, u56, u57, u58, u59, u60, u61, u62, u63, u64, u65, u66, u67, u68, u69, u70, u71, u72, u73, u74, u75, u76, u77, u78, u79, u80, u81, u82, u83, u84, u85, u86, u87, u88, u89, u90, u91, u92, u93, u94, u95, u96, u97, u98, u99, u100, u101, u102, u103, u104, u105, u106, u107, u108, u109, u110, u111, u112, u113, u114, u115, u116, u117, u118, u119, u120, u121, u122, u123, u124, u125, u126, u127, u128, u129, u130, u131, u132, u133], ds⟩ w := by
  obtain ⟨Ao, co, hvo, hoc⟩ := own_form M.own
  subst hvo
  have c7 := M.box.cellV (i := 0) (v := .slice Ao out.length co) rfl
  have hsp := spansL_len row3
  obtain ⟨i0, hi0, hz0, hz1, hz2⟩ := info_parts Tryz.infoR
  have HM := Lib.hid M
  have HMM := Lib.hid hm
  have HK12 := Lib.hid K12
  have HK13 := Lib.hid K13
  have HMK := Lib.hid hmk
  have HROW := Lib.hid hrow
  have HOUT := Lib.hid hout
  have HBAND := Lib.hid hband
  have HQ := Lib.hid hQ
  have hVw := M.grown.size
  rw [hm] at hsp
  clear M hm K12 K13 hmk hrow hout hband hQ
  conv => arg 2; whnf
  conv => arg 3; arg 1; arg 2; whnf
  go_wp2_with (go_at_call 133; refine (spans_any _ _ _ _).mono ?_; rintro e w1 ⟨rfl, hw1⟩; have HW1 := Lib.hid hw1; clear hw1)
  have hb1 : Below w.heap.size w w1 := by rw [HW1.out]; exact bal (bre w) _
  have BGB : Blk w1 w.heap.size 31 #[.slice Ar m cr] := by rw [HW1.out]; exact Blk.new w _ _
  have hw1s : w1.heap.size = w.heap.size + 1 := by rw [HW1.out]; simp
  obtain ⟨gb, hgb⟩ : ∃ gb, w.heap.size = gb := ⟨_, rfl⟩
  have M1 := HM.out.below hb1
  have L12 := HK12.out.belowS hb1
  have L13 := HK13.out.belowS hb1
  have hmk1 := HMK.out.below hb1
  rw [hgb] at BGB hw1s ⊢
  have hlr : ∀ b, rowP gb Ar b → b < w1.heap.size := fun b hb => by
    rcases hb with rfl | ⟨a, rfl, rfl⟩
    · omega
    · rcases M1.rowOwn.2 with ⟨e1, _⟩ | ⟨g, cap, cur, e1, _, hk, _⟩
      · cases e1
      · injection e1 with e1 _ _
        injection e1 with e1
        subst e1
        exact (Array.getElem?_eq_some_iff.1 hk).1
  have hseq := spans1_stops 4 (by omega) gb m cr Ar row3 w1 hml (BGB.cellV (i := 0) rfl) (RdR.of_own (by rw [← HMM.out] at M1 ⊢; exact M1.rowOwn) HMM.out) HROW.out
  obtain ⟨p, hp⟩ : ∃ p : Nat → Prop, p = fun b => b < w1.heap.size ∧ b ≠ g7 ∧ (Value.slice Ao out.length co).ownBlock ≠ some b := ⟨_, rfl⟩
  have hpl : ∀ b, p b → b < w1.heap.size := fun b hb => by rw [hp] at hb; exact hb.1
  have hp12 : p b12 := by rw [hp]; exact ⟨L12.lt, blk_ne L12 M1.box (by decide), own_other M1.own L12 (by decide)⟩
  have hp13 : p b13 := by rw [hp]; exact ⟨L13.lt, blk_ne L13 M1.box (by decide), own_other M1.own L13 (by decide)⟩
  have hVw1 := M1.grown.size
  have HM1 := Lib.hid M1
  have HL12 := Lib.hid L12
  have HL13 := Lib.hid L13
  have HMK1 := Lib.hid hmk1
  have HBGB := Lib.hid BGB
  have HSEQ := Lib.hid hseq
  have HPP := Lib.hid hp
  have HGB := Lib.hid hgb
  have HS1 := Lib.hid hw1s
  have HLR := Lib.hid hlr
  have HPL := Lib.hid hpl
  have hrp : ∀ b, rowP gb Ar b → p b := fun b hb => by
    rw [HPP.out]
    refine ⟨hlr b hb, ?_⟩
    rcases hb with rfl | ⟨a, rfl, rfl⟩
    · exact ⟨by have := HGB.out; omega, fun e => by have := own_lt HM.out.own _ e; have := HGB.out; omega⟩
    · rcases HM1.out.rowOwn.2 with ⟨e1, _⟩ | ⟨g, cap, cur, e1, hge, hk, _⟩
      · cases e1
      · injection e1 with e1 _ _
        injection e1 with e1
        subst e1
        exact ⟨by dsimp only; omega, fun e => HM1.out.apart _ e rfl⟩
  have HRP := Lib.hid hrp
  clear M1 L12 L13 hmk1 BGB hseq hp hgb hw1s hlr hpl hrp HW1 hb1 c7 HM HK12 HK13 HMK
  refine wpIn_wide (n := 5) |>.1 ?_
  refine wpIn_rangeFunc_ownH rfl (by omega) (gf := 176) (lb := #[.pointer (some ⟨gb, 0, none⟩)]) rfl trivial (enters_of Tryz.func176 (by kernel_rfl) rfl)
    HSEQ.out KeepS.trans (fun W l o o' hl _ _ _ => KeepS.putObj HLR.out hl) (Below.refl _ _) (fun _ => rfl)
    (fun pre W' => (∃ v', Boxed W' g7 31 v' ∧ W'.ownsRow V.heap.size 103 4 v' (out ++ bandW v (u - v) pre).length (rcs (out ++ bandW v (u - v) pre)) ∧ (v'.ownBlock = (Value.slice Ao out.length co).ownBlock ∨ ∀ g, v'.ownBlock = some g → w1.heap.size ≤ g)) ∧ V.grownBy W' (some g7) ∧ KeepS p w1 W')
    (fun _ _ _ => False)
    (OwnFrom.and (Own.from (holdsRow_own V.heap.size g7 31 103 4 (fun pre : List Span => (out ++ bandW v (u - v) pre).length) (fun pre => rcs (out ++ bandW v (u - v) pre)) (fun _ v' => v'.ownBlock = (Value.slice Ao out.length co).ownBlock ∨ ∀ g, v'.ownBlock = some g → w1.heap.size ≤ g)) _) (OwnFrom.and (fun _ X' Y' row hs hg hr => hs.andThen hg (fun j hj => .inl (Nat.le_trans hVw1 (hr j hj).1))) (KeepS.own HPL.out)))
    (fun _ _ _ _ _ hs _ _ => hs)
    ⟨⟨_, HM1.out.box, by simpa [bandW] using HM1.out.own, .inl rfl⟩, HM1.out.grown, KeepS.refl _ _⟩
    (fun x a' W' => ∃ Bx, w1.heap.size ≤ Bx ∧ Blk W' Bx 250 #[.int .i64 x.1, .int .i64 x.2] ∧ a' = { tmps := #[u0, u1, u2, u3, u4, u5, u6, .pointer (some ⟨g7, 0, none⟩), .slice Ar m cr, .int .i64 (above : Int), u10, u11, .pointer (some ⟨b12, 0, none⟩), .pointer (some ⟨b13, 0, none⟩), u14, .int .i64 (out.length : Int), .pointer (some ⟨Bx, 0, none⟩), u17, u18, u19, u20, u21, u22, u23, u24, u25, u26, u27, u28, u29, u30, u31, u32, u33, u34, u35, u36, u37, u38, u39, u40, u41, u42, u43, u44, u45, u46, u47, u48, u49, u50, u51, u52, u53, u54, u55, u56, u57, u58, u59, u60, u61, u62, u63, u64, u65, u66, u67, u68, u69, u70, u71, u72, u73, u74, u75, u76, u77, u78, u79, u80, u81, .slice Ao out.length co, .int .i64 (out.length : Int), .slice Ar m cr, .func (.func 176) #[] #[.pointer (some ⟨gb, 0, none⟩)], .agg #[.int .i64 x.1, .int .i64 x.2], u87, u88, u89, u90, u91, u92, u93, u94, u95, u96, u97, u98, u99, u100, u101, u102, u103, u104, u105, u106, u107, u108, u109, u110, u111, u112, u113, u114, u115, u116, u117, u118, u119, u120, u121, u122, u123, u124, u125, u126, u127, u128, u129, u130, u131, u132, u133], defers := [] })
    (fun x a' _ X' Y' row hs hg hr => by obtain ⟨Bx, h1, h2, h3⟩ := hs; exact ⟨Bx, h1, blk_from w1.heap.size Bx 250 (fun (_ : Unit) => #[Value.int .i64 x.1, .int .i64 x.2]) () X' Y' row h2 hg hr, h3⟩)
    ?assign ?body ?done ?stop
  case assign =>
    rintro l pre x W' K ⟨⟨v', bv, hown, hat⟩, hg, hk⟩ hK
    gi_wp2_with fail
    have hsW := hk.size
    exact hK _ _ ((KeepsOthers.alloc _ _).from _) (KeepS.alloc (fun b hb => Nat.lt_of_lt_of_le (HLR.out b hb) hsW) (KeepS.refl _ _) _) ⟨⟨v', bv.alloc _, hown.alloc _, hat⟩, grown_bel hg (bal (bre W') _), KeepS.alloc HPL.out hk _⟩ ⟨W'.heap.size, hsW, Blk.new W' _ _, rfl⟩
  case body =>
    rintro l pre x a' W' hl' _ ⟨⟨v', bv, hown, hat⟩, hg, hk⟩ ⟨Bx, hBx, hX, rfl⟩ hlt
    have cv := bv.cell
    have cx0 := hX.cellV (i := 0) (v := .int .i64 x.1) rfl
    have cx1 := hX.cellV (i := 1) (v := .int .i64 x.2) rfl
    have c12 := (hk.blk HL12.out hp12).cellV (i := 0) (v := .int .i64 v) rfl
    have c13 := (hk.blk HL13.out hp13).cellV (i := 0) (v := .int .i64 u) rfl
    have hks := hk.size
    have hlen : (out ++ bandW v (u - v) pre).length ≤ 1000000000000 + 1000000000 := by
      simp only [List.length_append, bandW, List.length_map]
      omega
    have hvW : V.heap.size ≤ W'.heap.size := hg.size
    have Hat := Lib.hid hat
    have Hown := Lib.hid hown
    have HG := Lib.hid hg
    have HK := Lib.hid hk
    have hsn := bandW_snoc v (u - v) pre x
    have HSN := Lib.hid hsn
    obtain ⟨k, hkk⟩ : ∃ k, (out ++ bandW v (u - v) pre).length = k := ⟨_, rfl⟩
    rw [hkk] at Hown hlen
    have HKK := Lib.hid hkk
    clear hat hown hg hk hsn hkk
    gi_wp2_with (gi_at_builtin; refine wpListIn_append_own_at _ rfl _ _ 31 rfl V.heap.size 103 i0 _ 4 32 Tryz.underlying31 hi0 hz0 hz1 hz2 rfl (by decide) _ _ _ rfl (Hown.out.alloc _) ⟨W'.heap.size, 0, none⟩ 1 1 [.int .i64 x.1, .int .i64 v, .int .i64 (wrap64 (x.2 - x.1)), .int .i64 (u - v)] rfl rfl (four_new _ _ _ _ _ _) (by simp [Value.oneCell']) (by simp only [maxLen]; omega) (by omega) (by simp; omega) ?_; intro v'' w4 hown' hgrow _ hat'; obtain ⟨g', cap', rfl⟩ := ownsRow_succ hown'; obtain ⟨hv1, hv2, _, hk2, _⟩ := bv.appended (by decide) (ownsRow_base Hown.out (Nat.le_of_lt h7V)) (by omega) (Nat.le_refl g7) (ownsRow_base hown' (Nat.le_of_lt h7V)) hgrow; have hc1 := hv1.cell; have hf1 := hv1.frozen)
    have hg4 := hgrow.size
    simp only [World.size_alloc] at hg4
    have hkp : KeepS p W' (w4.setCell ⟨g7, 0, none⟩ (.slice (some ⟨g', 0, none⟩) (k + 1) cap')) := ⟨by simp only [World.size_setCell]; omega, fun b hb => by
      have hb' := hb
      rw [HPP.out] at hb'
      obtain ⟨q1, q2, q3⟩ := hb'
      refine (Below.heap_setCell w4 ⟨g7, 0, none⟩ _ b q2).trans ((hgrow.block b (by simp only [World.size_alloc]; omega) (fun e => ?_)).trans (Below.heap_alloc W' _ b (by omega)))
      rcases Hat.out with h | h
      · exact q3 (h.symm.trans e.symm)
      · have := h b e.symm
        omega⟩
    have hgg : V.grownBy (w4.setCell ⟨g7, 0, none⟩ (.slice (some ⟨g', 0, none⟩) (k + 1) cap')) (some g7) :=
      ((grown_bel HG.out (bal (bre W') _)).andThen hgrow (fun j hj => .inl (own_ge Hown.out j hj))).andThen (grownBy_setCell' w4 g7 _) (fun j hj => .inr hj)
    refine ⟨hk2.from _, ⟨hkp.size, fun b hb => hkp.block b (HRP.out b hb)⟩, ⟨_, hv2, by rw [HSN.out, ← List.append_assoc, rcs_append, List.length_append, HKK.out]; exact own_far hown' (p := ⟨g7, 0, none⟩) h7V _, ?_⟩, hgg, HK.out.trans hkp⟩
    rcases hat' with e | e
    · rcases Hat.out with h | h
      · exact .inl (e.trans h)
      · exact .inr (fun g hg => h g (e ▸ hg))
    · refine .inr (fun g hg => ?_)
      rw [e] at hg
      simp at hg
      omega
  case done =>
    rintro D ys W' hD hS ⟨⟨v', bv, hown, hat⟩, hg, hk⟩ hK
    subst hS
    rw [bandW_eq HBAND.out] at hown
    have hpd : ∀ D, w1.heap[D]? = some (.deferred (some [])) → p D := fun D hD => by
      rw [HPP.out]
      refine ⟨(Array.getElem?_eq_some_iff.1 hD).1, fun e => ?_, fun e => ?_⟩
      · subst e
        have := hD.symm.trans (show w1.heap[D]? = _ from HM1.out.box)
        simp at this
      · obtain ⟨cs, hcs⟩ := own_cells HM1.out.own e
        have := hD.symm.trans (show w1.heap[D]? = _ from hcs)
        simp at this
    have hrowb : ∀ g, (Value.slice Ar m cr).ownBlock = some g → W'.heap[g]? = w1.heap[g]? := fun g hg' => hk.block g (by
      rw [HPP.out]
      exact ⟨own_lt HM1.out.rowOwn g hg', fun e => by have := own_ge HM1.out.rowOwn g hg'; omega, fun e => HM1.out.apart g e hg'⟩)
    have M2 : OfMem V g7 (out ++ bandL v (u - v) (spansL row3)) row3 v' (.slice Ar m cr) W' := ⟨hg, bv, hown, own_keep HM1.out.rowOwn hrowb, fun g hg' e => by
      rcases hat with h | h
      · exact HM1.out.apart g (h.symm.trans hg') e
      · have := h g hg'
        have := own_lt HM1.out.rowOwn g e
        omega⟩
    have mk2 := Marks.cons HMK1.out (HMK1.out.keepS hk hpd) hD hVw1 hK
    have N12 := hk.blk HL12.out hp12
    have N13 := hk.blk HL13.out hp13
    obtain ⟨band, hbd⟩ : ∃ band, bandL v (u - v) (spansL row3) = band := ⟨_, rfl⟩
    have hbl : band.length ≤ m := by rw [← hbd]; simp only [bandL, List.length_map]; omega
    rw [hbd] at M2
    have HQ2 := HQ
    have HB2 := HBAND
    rw [hbd] at HQ2 HB2
    have HBD := Lib.hid hbd
    have HM2 := Lib.hid M2
    have HMK2 := Lib.hid mk2
    have HN12 := Lib.hid N12
    have HN13 := Lib.hid N13
    have hWs := M2.grown.size
    obtain ⟨nb, hnb⟩ : ∃ nb, (out ++ band).length = nb := ⟨_, rfl⟩
    have hnb1 : out.length ≤ nb := by rw [← hnb, List.length_append]; omega
    have hnb2 : nb ≤ 1000000000000 + 1000000000 := by rw [← hnb, List.length_append]; omega
    have HNB := Lib.hid hnb
    clear HM1 HMK1 HL12 HL13 HBGB HSEQ HPP HGB HS1 HLR HPL HRP hp12 hp13 hpd hrowb hown hat hk hK hg hbd N12 N13 mk2 hnb bv HQ HBAND
    rcases M2.own.2 with ⟨e1, e2⟩ | ⟨g, c', cur, e1, hVg, hgk, q1, q2, q3, q4⟩
    · have e3 := HNB.out
      rw [List.length_append] at e3 e2
      obtain rfl : out = [] := List.eq_nil_of_length_eq_zero (by omega)
      obtain rfl : band = [] := List.eq_nil_of_length_eq_zero (by omega)
      obtain rfl : above = 0 := by simpa using hab
      subst e1
      have c7 := M2.box.cellV (i := 0) (v := .slice none 0 0) rfl
      have h7W := M2.box.lt
      have r0 : ∀ W : World, RdR W none 0 [] := fun W => ⟨rfl, fun h0 => by omega⟩
      have HR0 := Lib.hid r0
      clear M2 r0 e2 e3
      go_wp2_with fail
      go_region_held3 (fun wx => wx.cell? ⟨g7, 0, none⟩ = some (.slice none 0 0))
        (first | go_keep | exact (hb5.cell (p := ⟨g7, 0, none⟩) h7W).trans c7)
        (first | (go_at_call 134; refine (alike_any _ _ _ _ _ _ [] [] _ (by omega) (HR0.out _) (HR0.out _) (by simp)).mono ?_; rintro e w5 ⟨rfl, hb5⟩))
      have hb6 : Below W'.heap.size W' w5 := undrewX hb5 rfl rfl rfl rfl
      have HM3 := Lib.hid (HM2.out.below hb6)
      have HMK3 := Lib.hid (HMK2.out.below hb6)
      have hal : alikeB ([] : List RC) [] = false := rfl
      rw [hal]
      go_wp2_with fail
      exact HQ2.out [] 0 _ _ _ _ _ _ _ _ _ _ _ _ _ _ _ _ _ _ _ _ _ _ _ _ _ _ _ _ _ _ _ _ _ _ _ _ _ _ _ _ _ _ _ _ _ _ _ _ _ _ _ _ _ _ _ (.inl ⟨rfl, rfl, rfl⟩) HM3.out HMK3.out
    · rw [HNB.out] at e1 q1 q4
      subst e1
      have c7 := M2.box.cellV (i := 0) (v := .slice (some ⟨g, 0, none⟩) nb c') rfl
      have i1 : (0 : Int) ≤ (above : Int) := by omega
      have i2 : (above : Int) ≤ (out.length : Int) := by omega
      have i3 : (out.length : Int) ≤ (nb : Int) := by omega
      have i4 : (nb : Int) ≤ (c' : Int) := by omega
      have HCUR := Lib.hid hgk
      have HQ4 := Lib.hid q4
      have HQ3 := Lib.hid q3
      clear M2 hgk q3 q4
      have s1 := fun W => run_cut_lh W g nb c' above out.length (by omega) (by omega)
      have s2 := fun W => run_cut_l W g nb c' out.length (by omega) (by omega)
      have hbb : Blk W' g 103 (rcs (out ++ band) ++ cur.toList.drop (nb * 4)).toArray := by
        rw [← HQ4.out, List.take_append_drop]
        exact HCUR.out
      obtain ⟨rest, hrest⟩ : ∃ rest, cur.toList.drop (nb * 4) = rest := ⟨_, rfl⟩
      have hrl : rest.length = c' * 4 - nb * 4 := by rw [← hrest, List.length_drop, Array.length_toList, HQ3.out]
      have HRL := Lib.hid hrl
      rw [hrest] at hbb
      clear hrest hrl
      have r1 := RdR.cut (c := c') (k := above) (n := out.length - above) (qs := out.drop above) hbb (by rw [List.length_append]; omega) (by rw [HNB.out]; omega) (by rw [List.drop_append_of_le_length (by omega), List.take_append_of_le_length (by rw [List.length_drop]; omega), List.take_of_length_le (by rw [List.length_drop]; omega)])
      have r2 := RdR.cut (c := c') (k := out.length) (n := nb - out.length) (qs := band) hbb (by rw [HNB.out]; omega) (by rw [HNB.out]; omega) (by rw [List.drop_left, List.take_of_length_le (by have := HNB.out; rw [List.length_append] at this; omega)])
      have HR1 := Lib.hid r1
      have HR2 := Lib.hid r2
      have HBB := Lib.hid hbb
      have hok : ∀ r ∈ out.drop above, r.ok := fun r hr => cnt_ok (HOUT.out r (List.mem_of_mem_drop hr))
      have HOK := Lib.hid hok
      clear r1 r2 hbb hok HCUR HQ4
      have h7W := HM2.out.box.lt
      go_wp2_with fail
      go_region_held3 (fun wx => wx.cell? ⟨g7, 0, none⟩ = some (.slice (some ⟨g, 0, none⟩) nb c'))
        (first | go_keep | exact (hb5.cell (p := ⟨g7, 0, none⟩) h7W).trans c7)
        (first | (go_at_call 134; refine (alike_any _ _ _ _ _ _ (out.drop above) band _ (by omega) (by exact HR1.out.below (undrewN W' 1)) (by exact HR2.out.below (undrewN W' 1)) HOK.out).mono ?_; rintro e w5 ⟨rfl, hb5⟩))
      have hb6 : Below W'.heap.size W' w5 := undrewX hb5 rfl rfl rfl rfl
      have HM3 := Lib.hid (HM2.out.below hb6)
      have HMK3 := Lib.hid (HMK2.out.below hb6)
      have HP12 := Lib.hid (HN12.out.belowS hb6)
      have HP13 := Lib.hid (HN13.out.belowS hb6)
      have HBB3 := Lib.hid (HBB.out.belowS hb6)
      clear s1 s2 hb5 hb6 c7 HM2 HMK2 HN12 HN13 HBB HR1 HR2 h7W
      cases hal : alikeB (out.drop above) band
      · have HAL := Lib.hid hal
        clear hal
        go_wp2_with fail
        exact HQ2.out (out ++ band) out.length _ _ _ _ _ _ _ _ _ _ _ _ _ _ _ _ _ _ _ _ _ _ _ _ _ _ _ _ _ _ _ _ _ _ _ _ _ _ _ _ _ _ _ _ _ _ _ _ _ _ _ _ _ _ _ (.inl ⟨HAL.out, rfl, rfl⟩) HM3.out HMK3.out
      · have HAL := Lib.hid hal
        clear hal
        have hgne7 : g ≠ g7 := by omega
        have hgne12 : g ≠ b12 := fun e => own_other HM3.out.own HP12.out (by decide) (by rw [e]; rfl)
        have hgne13 : g ≠ b13 := fun e => own_other HM3.out.own HP13.out (by decide) (by rw [e]; rfl)
        go_wp2_with fail
        go_loopw [17] (fun s17 wx => ∃ j : Nat, s17 = .int .i64 j ∧ above ≤ j ∧ j ≤ out.length ∧ Blk wx g 103 (rcs (tallL above j (u - v) (out ++ band)) ++ rest).toArray ∧ w5.grownBy wx (some g)) (fun i _ => out.length - (intOf i).toNat)
        case atStart => exact ⟨above, rfl, Nat.le_refl _, hab, by rw [tall_start]; exact HBB3.out, grown_of_below (bre w5) _⟩
        case round =>
          obtain ⟨j, rfl, hj1, hj2, hB, hG⟩ := hrel
          have c7 := (HM3.out.box.grown hG (fun e => hgne7 (by injection e with e; exact e.symm))).cellV (i := 0) (v := .slice (some ⟨g, 0, none⟩) nb c') rfl
          have hgw := hB.lt
          have h7w := (HM3.out.box.grown hG (fun e => hgne7 (by injection e with e; exact e.symm))).lt
          by_cases hlt : j < out.length
          · obtain ⟨x, hx⟩ : ∃ x, out[j]? = some x := ⟨_, List.getElem?_eq_getElem hlt⟩
            have hx' : (out ++ band)[j]? = some x := by rw [List.getElem?_append_left hlt]; exact hx
            have hx2 : (tallL above j (u - v) (out ++ band))[j]? = some x := by
              rw [tall_get, hx']
              simp only [Option.map_some]
              rw [if_neg (by omega)]
            have h3 : wr.cell? ⟨g, j * 4 + 3, none⟩ = some (.int .i64 x.H) := (blk_at hB hx2).2.2.2
            have hcx := (cnt_iff x).1 (HOUT.out x (List.mem_of_getElem? hx))
            obtain ⟨xh1, xh2⟩ : 0 < x.H ∧ x.H ≤ 2097152 := by omega
            have c12 := (HP12.out.grown hG (fun e => hgne12 (by injection e with e; exact e.symm))).cellV (i := 0) (v := .int .i64 v) rfl
            have c13 := (HP13.out.grown hG (fun e => hgne13 (by injection e with e; exact e.symm))).cellV (i := 0) (v := .int .i64 u) rfl
            have hfz : wr.frozen? ⟨g, j * 4 + 3, none⟩ = false := hB.frozen (j * 4 + 3)
            have HN := Lib.hid (tall_next (d := u - v) hx' hj1)
            have HB := Lib.hid hB
            have HG := Lib.hid hG
            have HX2 := Lib.hid hx2
            have j0 : (0 : Int) ≤ (j : Int) := by omega
            have j1 : (j : Int) < (nb : Int) := by omega
            have hn7 : g7 ≠ g := Ne.symm hgne7
            have hn12 : b12 ≠ g := Ne.symm hgne12
            have hn13 : b13 ≠ g := Ne.symm hgne13
            clear hx hx' hx2 hB hG hcx
            go_wp2_with fail
            go_region
            all_goals go_wp2_with fail
            go_roundw
            case rel =>
              refine ⟨j + 1, by go_num, by omega, by omega, ?_, ?_⟩
              · rw [HN.out]
                exact blk_setH (by exact HB.out) HX2.out _
              · exact (grown_bel HG.out (undrewN _ _)).andThen (grown_setCell _ _ _) (fun j hj => .inr hj)
            case measure => simp [intOf]; omega
          · obtain rfl : j = out.length := by omega
            rw [tall_end hab] at hB
            have hl' : (out.take above ++ (out.drop above).map (RC.taller (u - v))).length = out.length := by simp; omega
            have hlen : (rcs ((out.take above ++ (out.drop above).map (RC.taller (u - v))) ++ band) ++ rest).length = c' * 4 := by
              have h1 := HNB.out
              rw [List.length_append] at h1
              rw [List.length_append, rcs_len, List.length_append, hl', HRL.out]
              omega
            have M4 := Lib.hid (HM3.out.shrink h7V hVg hG hB hlen q2 hl' (by omega))
            have K4 := Lib.hid ((HMK3.out.grownBlk HBB3.out hG).setCell ⟨g7, 0, none⟩ (.slice (some ⟨g, 0, none⟩) out.length c'))
            have hfz := (HM3.out.box.grown hG (fun e => hgne7 (by injection e with e; exact e.symm))).frozen 0
            have s3 := fun W => run_cut_h W g nb c' out.length (by omega)
            clear hB hG hl' hlen
            go_wp2_with fail
            exact HQ2.out _ above _ _ _ _ _ _ _ _ _ _ _ _ _ _ _ _ _ _ _ _ _ _ _ _ _ _ _ _ _ _ _ _ _ _ _ _ _ _ _ _ _ _ _ _ _ _ _ _ _ _ _ _ _ _ _ (.inr ⟨HAL.out, rfl, rfl⟩) M4.out K4.out
  case stop =>
    rintro D c' pre W' _ _ h _
    exact h.elim

end Go.Proofs.YtdaedkolpfkdjaaGreat
end
