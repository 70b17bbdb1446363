/-
  The walks of tree.New and Add.
  Plain facts on rows' edges: sorted numbers, each once.
  The walks of slices.IndexFunc and slices.DeleteFunc at rectangles, with band's predicate 'it ends ahead of a row'.
  The walk of slices.DeleteFunc at rectangles, with band's predicate 'it ends ahead of a row': the row is cut to those that don't.
-/
import Derived.Test.YtdaedkolpfkdjaaGreatZT05
import Derived.Lib.SlicesCompact
import Derived.Test.YtdaedkolpfkdjaaGreatZT02
import Derived.Lib.SliceRun
section
namespace Go.Proofs.YtdaedkolpfkdjaaGreat
open Go.RowKit Go.Maps Go.Shelf

set_option maxRecDepth 100000 in
theorem tnew_any (w : World) : Calls Tryz.prog 78 #[] w fun e w' => e = .returned (.agg #[.map none, .map none]) ∧ Below w.heap.size w w' := by
  go_enter Tryz.func78, Tryz.ntmps78
  go_wp2_with fail
  exact bodyPost_ret (v := .agg #[.map none, .map none]) (by simp [results, Tryz.results78, go_sem]) rfl ⟨rfl, (by repeat (first | exact bre _ | refine bal ?_ _ | refine bset ?_ (by simp) _ | refine bset ?_ (by simp; omega) _))⟩
theorem tree_new (w : World) : TreeIs w (.agg #[.map none, .map none]) [] none none 0 (fun _ => none) :=
  ⟨rfl, .inl ⟨rfl, rfl, fun _ => rfl⟩, .inl ⟨rfl, rfl, fun _ => rfl⟩, fun _ => ⟨none, 0, rfl, Nat.le_refl _, Rd.nil _ _⟩, Nat.zero_le _, Nat.zero_le _, (fun p hp => by cases hp), (fun i hi => by cases hi)⟩

/-- what Add answers. -/
def addC (ns : Nodes) (id p : Int) : Int := if idC id ≠ 0 then idC id else if hasN ns id then 7 else if hasN ns p = false then 6 else if 64 ≤ ns.length + 1 then 5 else 0
/-- the windows behind it. -/
def addN (ns : Nodes) (id p : Int) : Nodes := if addC ns id p = 0 then ns ++ [(id, p)] else ns

/-- lying in memory from base on, it lies in memory from any lower base on. -/
theorem TreeOwn.lower {w : World} {base base' : Nat} {ns : Nodes} {kb ub nk : Nat} {fk : Int → Option Value} (h : TreeOwn w base ns kb ub nk fk) (hb : base' ≤ base) : TreeOwn w base' ns kb ub nk fk :=
  ⟨h.kids, h.up, fun i v hv => own_lower (h.own i v hv) hb, h.nil, Nat.le_trans hb h.lok, Nat.le_trans hb h.lou, h.room, h.few, h.ok, h.keys⟩
set_option maxRecDepth 100000 in
set_option maxHeartbeats 4000000 in
theorem tadd_own (v : Value) (ns : Nodes) (mk mu : Option Nat) (nk : Nat) (fk : Int → Option Value) (id p : Int) (w : World) (hid : 0 ≤ id ∧ id ≤ 4294967295) (hp : 0 ≤ p ∧ p ≤ 4294967295) (h : TreeIs w v ns mk mu nk fk)
    (hck : idC id = 0) (h1 : hasN ns id = false) (h2 : hasN ns p = true) (d2 : decide ((64 : Int) ≤ (ns.length : Int) + 1) = false) :
    Calls Tryz.prog 80 #[v, .int .u32 id, .int .u32 p] w fun e w' => (∃ kb ub nk' fk', e = .returned (.tuple #[.agg #[.map (some kb), .map (some ub)], .int .i64 0]) ∧ TreeOwn w' w.heap.size (ns ++ [(id, p)]) kb ub nk' fk') ∧ Below w.heap.size w w' := by
  have hv := h.shape
  subst hv
  have HT := Lib.hid h
  have HBE := Lib.hid (bal (bal (bre w) (.cells #[.map mk, .map mu] 37)) (.cells #[.map none, .map none] 37))
  have H0 := Lib.hid ((Blk.new w 37 #[.map mk, .map mu]).alloc (.cells #[.map none, .map none] 37))
  have H1 := Lib.hid (blk_new2 w (.cells #[.map mk, .map mu] 37) 37 #[.map none, .map none])
  have wl : IntKind.i64.wrap ((ns.length : Int) + 1) = (ns.length : Int) + 1 := IntWalk.i64_in _ (by have := h.few; omega)
  have HN1 := Lib.hid (show ns.length + 1 ≤ 1000 by have := of_decide_eq_false d2; omega)
  have HUN := Lib.hid (show upOf ns id = none by
    unfold hasN at h1
    cases hq : upOf ns id with
    | none => rfl
    | some x => rw [hq] at h1; simp at h1)
  have HCK := Lib.hid hck
  have HH1 := Lib.hid h1
  have HH2 := Lib.hid h2
  clear h hck h1 h2
  go_enter Tryz.func80, Tryz.ntmps80
  go_wp2_with (go_at_call 64; refine (check_any _ _ hid).mono ?_; rintro e w' ⟨rfl, rfl⟩; rw [HCK.out])
  with_reducible refine (has_any _ ns mk mu nk fk _ _ hid (HT.out.below HBE.out)).mono ?_
  rintro e w1 ⟨rfl, hb9⟩
  rw [HH1.out]
  have b0 := H0.out.belowS hb9
  have b1 := H1.out.belowS hb9
  have hb := bstep HBE.out hb9
  have p0 := b0.cellV (i := 0) (v := .map mk) rfl; have p1 := b0.cellV (i := 1) (v := .map mu) rfl; have r0 := b1.cellV (i := 0) (v := .map none) rfl; have r1 := b1.cellV (i := 1) (v := .map none) rfl; have rf0 := b1.frozen 0; have rf1 := b1.frozen 1; have rl := b1.lt; have HBE := Lib.hid hb; have H0 := Lib.hid b0; have H1 := Lib.hid b1
  clear b0 b1 hb hb9
  go_wp2_with fail
  with_reducible refine (has_any _ ns mk mu nk fk _ _ hp (HT.out.below HBE.out)).mono ?_
  rintro e w2 ⟨rfl, hb9⟩
  rw [HH2.out]
  have b0 := H0.out.belowS hb9
  have b1 := H1.out.belowS hb9
  have hb := bstep HBE.out hb9
  have p0 := b0.cellV (i := 0) (v := .map mk) rfl; have p1 := b0.cellV (i := 1) (v := .map mu) rfl; have r0 := b1.cellV (i := 0) (v := .map none) rfl; have r1 := b1.cellV (i := 1) (v := .map none) rfl; have rf0 := b1.frozen 0; have rf1 := b1.frozen 1; have rl := b1.lt; have HBE := Lib.hid hb; have H0 := Lib.hid b0; have H1 := Lib.hid b1
  clear b0 b1 hb hb9
  go_wp2_with (at_len; refine opt_len rfl _ 35 rfl 48 48 .u32 Tryz.underlying35 mu ns.length (fun i => (upOf ns i).map (Value.int .u32)) rfl (HT.out.up.below HBE.out) ?_)
  with_reducible refine (twin_any _ ns mk mu nk fk _ (HT.out.below HBE.out)).mono ?_
  rintro e w3 ⟨kb, ub, nk', fo, rfl, ht3, hb3⟩
  have hs3 := H1.out.lt
  have hw3 := hb3.size
  have HW3 := Lib.hid hw3
  have HBW := Lib.hid HBE.out.size
  have HS3 := Lib.hid hs3
  have b1 := H1.out.belowS hb3
  have HBE := Lib.hid (bstep HBE.out hb3)
  have H1 := Lib.hid b1
  have HT3 := Lib.hid ht3
  clear b1 hb3 ht3 hs3 hw3
  go_wp2_with fail
  with_reducible refine (put_any _ ns kb ub nk' fo id p _ hid hp (HT3.out.alloc (.cells #[.map (some kb), .map (some ub)] 37)) HN1.out HUN.out HH2.out (by have := HW3.out; rw [World.size_alloc]; omega)).mono ?_
  rintro e w4 ⟨rfl, ⟨nk4, fk4, ht4⟩, hb4, hbl4⟩
  have b9 := hbl4 _ _ (Blk.new w3 37 #[.map (some kb), .map (some ub)])
  have b1 := hbl4 _ _ (H1.out.alloc (.cells #[.map (some kb), .map (some ub)] 37))
  have s0 := b9.cellV (i := 0) (v := .map (some kb)) rfl
  have s1 := b9.cellV (i := 1) (v := .map (some ub)) rfl
  have r0 := b1.cellV (i := 0) (v := .map none) rfl
  have r1 := b1.cellV (i := 1) (v := .map none) rfl
  have rf0 := b1.frozen 0
  have rf1 := b1.frozen 1
  have rl := b1.lt
  have HBE := Lib.hid ((bal HBE.out (.cells #[.map (some kb), .map (some ub)] 37)).trans (hb4.mono HBW.out))
  have H1 := Lib.hid b1
  have HT4 := Lib.hid ht4
  clear b1 b9 hb4 hbl4 ht4
  go_wp2_with fail
  have hr0 := ((H1.out.set_ 0 (.map (some kb))).set_ 1 (.map (some ub))).cellV (i := 0) (v := .map (some kb)) rfl
  have hr1 := ((H1.out.set_ 0 (.map (some kb))).set_ 1 (.map (some ub))).cellV (i := 1) (v := .map (some ub)) rfl
  refine bodyPost_ret (v := .tuple #[.agg #[.map (some kb), .map (some ub)], .int .i64 0]) (by simp [results, Tryz.results80, go_sem, hr0, hr1]) rfl ⟨⟨_, _, nk4, fk4, rfl, ((HT4.out.far (p := ⟨w.heap.size + 1, 0, none⟩) HS3.out _).far (p := ⟨w.heap.size + 1, 1, none⟩) HS3.out _).lower HBW.out⟩, bset (bset HBE.out (by show w.heap.size ≤ w.heap.size + 1; omega) _) (by show w.heap.size ≤ w.heap.size + 1; omega) _⟩
end Go.Proofs.YtdaedkolpfkdjaaGreat
end

section
namespace Go.Proofs.YtdaedkolpfkdjaaGreat

/-- of numbers that rise, each once: they rise strictly, and are the same. -/
theorem compact_rises {zs : List Int} (h : zs.Pairwise (· ≤ ·)) : (Lib.compact zs).Pairwise (· < ·) ∧ ∀ y, y ∈ Lib.compact zs ↔ y ∈ zs := by
  have hg : ∀ i j (_ : i < zs.length) (_ : j < zs.length), i ≤ j → zs[i] ≤ zs[j] := fun i j hi hj hij => by
    rcases Nat.lt_or_ge i j with h1 | h1
    · exact List.pairwise_iff_getElem.1 h i j hi hj h1
    · obtain rfl : i = j := by omega
      exact Int.le_refl _
  unfold Lib.compact Lib.compactUpTo
  constructor
  · rw [List.pairwise_map]
    have hr : ((List.range zs.length).filter (Lib.keeps zs.toArray)).Pairwise (· < ·) := List.Pairwise.filter _ List.pairwise_lt_range
    refine List.Pairwise.imp_of_mem (fun {i j} hi hj hij => ?_) hr
    simp only [List.mem_filter, List.mem_range] at hi hj
    have hk := hj.2
    simp only [Lib.keeps, decide_eq_true_eq] at hk
    have e1 : zs.toArray[i]! = zs[i] := by rw [getElem!_pos _ i (by simpa using hi.1)]; simp
    have e2 : zs.toArray[j]! = zs[j] := by rw [getElem!_pos _ j (by simpa using hj.1)]; simp
    have e3 : zs.toArray[j - 1]! = zs[j - 1]'(by omega) := by rw [getElem!_pos _ (j - 1) (by simp; omega)]; simp
    rw [e1, e2]
    rw [e2, e3] at hk
    have h1 := hg i (j - 1) hi.1 (by omega) (by omega)
    have h2 := hg (j - 1) j (by omega) hj.1 (by omega)
    rcases hk with hk | hk
    · omega
    · have : zs[j] ≠ zs[j - 1]'(by omega) := hk
      omega
  · intro y
    simp only [List.mem_map, List.mem_filter, List.mem_range]
    constructor
    · rintro ⟨i, ⟨hi, _⟩, rfl⟩
      rw [getElem!_pos _ i (by simpa using hi)]
      simp
    · intro hy
      obtain ⟨i, hi, rfl⟩ := List.getElem_of_mem hy
      have key : ∀ k, ∀ hk : k < zs.length, ∃ q, (q < zs.length ∧ Lib.keeps zs.toArray q = true) ∧ zs.toArray[q]! = zs[k] := by
        intro k
        induction k with
        | zero =>
          intro hk
          exact ⟨0, ⟨hk, by simp [Lib.keeps]⟩, by rw [getElem!_pos _ 0 (by simpa using hk)]; simp⟩
        | succ k ih =>
          intro hk
          by_cases hne : zs[k + 1] = zs[k]
          · obtain ⟨q, h1, h2⟩ := ih (by omega)
            exact ⟨q, h1, h2.trans hne.symm⟩
          · refine ⟨k + 1, ⟨hk, ?_⟩, by rw [getElem!_pos _ (k + 1) (by simpa using hk)]; simp⟩
            simp only [Lib.keeps, decide_eq_true_eq]
            right
            rw [getElem!_pos _ (k + 1) (by simpa using hk), getElem!_pos _ (k + 1 - 1) (by simp; omega)]
            simpa using hne
      exact key i hi

end Go.Proofs.YtdaedkolpfkdjaaGreat
end

section
namespace Go.Proofs.YtdaedkolpfkdjaaGreat
open Go.RowKit

/-- the cells of rectangles. -/
def rcs (l : List RC) : List Value := l.flatMap RC.cells
theorem rcs_len (l : List RC) : (rcs l).length = l.length * 4 := by
  induction l with
  | nil => rfl
  | cons r l ih => simp [rcs, RC.cells] at ih ⊢; omega
theorem rcs_append (a b : List RC) : rcs (a ++ b) = rcs a ++ rcs b := by simp [rcs]
theorem rcs_at (l : List RC) (rest : List Value) (k : Nat) (r : RC) (h : l[k]? = some r) :
    (rcs l ++ rest)[k * 4]? = some (.int .i64 r.X) ∧ (rcs l ++ rest)[k * 4 + 1]? = some (.int .i64 r.Y) ∧ (rcs l ++ rest)[k * 4 + 1 + 1]? = some (.int .i64 r.W) ∧ (rcs l ++ rest)[k * 4 + 1 + 1 + 1]? = some (.int .i64 r.H) := by
  induction l generalizing k with
  | nil => simp at h
  | cons q l ih =>
    cases k with
    | zero => simp at h; subst h; simp [rcs, RC.cells]
    | succ k =>
      simp at h
      have := ih k h
      rw [show (k + 1) * 4 = k * 4 + 4 from by omega, show k * 4 + 4 + 1 = (k * 4 + 1) + 4 from by omega, show k * 4 + 1 + 4 + 1 = (k * 4 + 1 + 1) + 4 from by omega, show k * 4 + 1 + 1 + 4 + 1 = (k * 4 + 1 + 1 + 1) + 4 from by omega]
      simpa [rcs, RC.cells] using this
theorem rcs_set (l : List RC) (rest : List Value) (k : Nat) (r : RC) (h : k < l.length) :
    ((((rcs l ++ rest).set (k * 4) (.int .i64 r.X)).set (k * 4 + 1) (.int .i64 r.Y)).set (k * 4 + 1 + 1) (.int .i64 r.W)).set (k * 4 + 1 + 1 + 1) (.int .i64 r.H) = rcs (l.set k r) ++ rest := by
  induction l generalizing k with
  | nil => simp at h
  | cons q l ih =>
    cases k with
    | zero => simp [rcs, RC.cells]
    | succ k =>
      have := ih k (by simpa using h)
      rw [show (k + 1) * 4 = k * 4 + 4 from by omega, show k * 4 + 4 + 1 = (k * 4 + 1) + 4 from by omega, show k * 4 + 1 + 4 + 1 = (k * 4 + 1 + 1) + 4 from by omega, show k * 4 + 1 + 1 + 4 + 1 = (k * 4 + 1 + 1 + 1) + 4 from by omega]
      simpa [rcs, RC.cells] using this
theorem blk_at {w : World} {g : Nat} {t : TypeId} {l : List RC} {rest : List Value} (h : Blk w g t (rcs l ++ rest).toArray) {k : Nat} {r : RC} (hk : l[k]? = some r) : RcAt w g (k * 4) r := by
  obtain ⟨a, b, c, d⟩ := rcs_at l rest k r hk
  exact ⟨h.cellV (by simpa using a), h.cellV (by simpa using b), h.cellV (by simpa using c), h.cellV (by simpa using d)⟩
theorem blk_set {w : World} {g : Nat} {t : TypeId} {l : List RC} {rest : List Value} (h : Blk w g t (rcs l ++ rest).toArray) {k : Nat} {r : RC} (hk : k < l.length) :
    Blk ((((w.setCell ⟨g, k * 4, none⟩ (.int .i64 r.X)).setCell ⟨g, k * 4 + 1, none⟩ (.int .i64 r.Y)).setCell ⟨g, k * 4 + 1 + 1, none⟩ (.int .i64 r.W)).setCell ⟨g, k * 4 + 1 + 1 + 1, none⟩ (.int .i64 r.H)) g t (rcs (l.set k r) ++ rest).toArray := by
  have := (((h.set_ (k * 4) (.int .i64 r.X)).set_ (k * 4 + 1) (.int .i64 r.Y)).set_ (k * 4 + 1 + 1) (.int .i64 r.W)).set_ (k * 4 + 1 + 1 + 1) (.int .i64 r.H)
  simp only [List.setIfInBounds_toArray] at this
  rw [rcs_set l rest k r hk] at this
  exact this

def endsB (y : Int) (r : RC) : Bool := decide (r.Y + r.H ≤ y)
set_option maxHeartbeats 1000000 in
theorem of2_any (x : RC) (y : Int) (by' : Nat) (w : World) (hx : x.ok) (hy : w.cell? ⟨by', 0, none⟩ = some (.int .i64 y)) :
    Calls Tryz.prog 131 #[.agg #[.int .i64 x.X, .int .i64 x.Y, .int .i64 x.W, .int .i64 x.H], .pointer (some ⟨by', 0, none⟩)] w fun e w' => e = .returned (.bool (endsB y x)) ∧ w' = w.alloc (.cells #[.int .i64 x.X, .int .i64 x.Y, .int .i64 x.W, .int .i64 x.H] 103) := by
  obtain ⟨_, _, h3, h4, _, _, h7, h8⟩ := hx
  have hl := block_lt_of_cell hy
  go_enter Tryz.func131, Tryz.ntmps131
  go_wp2_with fail
  go_ret
  exact ⟨rfl, rfl⟩

/-- the first that a predicate tells; -1: there is none. -/
def idxI (p : RC → Bool) (l : List RC) : Int := match l.findIdx? p with
  | some i => (i : Int)
  | none => -1
theorem idxI_none {p : RC → Bool} {l : List RC} (h : ∀ (j : Nat) x, l[j]? = some x → p x = false) : idxI p l = -1 := by
  have : l.findIdx? p = none := by
    rw [List.findIdx?_eq_none_iff]
    intro x hx
    obtain ⟨j, hj⟩ := List.getElem?_of_mem hx
    exact h j x hj
  simp [idxI, this]
theorem idxI_some {p : RC → Bool} {l : List RC} {k : Nat} {x : RC} (hx : l[k]? = some x) (hp : p x = true) (h : ∀ (j : Nat) y, j < k → l[j]? = some y → p y = false) : idxI p l = k := by
  obtain ⟨hkl, hkv⟩ := List.getElem?_eq_some_iff.1 hx
  have : l.findIdx? p = some k := by
    rw [List.findIdx?_eq_some_iff_getElem]
    refine ⟨hkl, by rw [hkv]; exact hp, fun j hj => ?_⟩
    have hjl : j < l.length := by omega
    have := h j l[j] hj (List.getElem?_eq_getElem hjl)
    simp [this]
  simp [idxI, this]

set_option maxRecDepth 100000 in
set_option maxHeartbeats 2000000 in
theorem indexF_any (A : Option Addr) (n c : Nat) (rs : List RC) (y : Int) (by' : Nat) (w : World) (hn : n ≤ 9223372036854775806) (hr : RdR w A n rs) (hok : ∀ r ∈ rs, r.ok) (hy : w.cell? ⟨by', 0, none⟩ = some (.int .i64 y)) :
    Calls Tryz.prog 175 #[.slice A n c, .func (.func 131) #[] #[.pointer (some ⟨by', 0, none⟩)]] w fun e w' => e = .returned (.int .i64 (idxI (endsB y) rs)) ∧ Below w.heap.size w w' := by
  have HR := Lib.hid hr
  have HOK := Lib.hid hok
  have HYC := Lib.hid hy
  clear hr hok hy
  go_enter Tryz.func175, Tryz.ntmps175
  go_wp2_with fail
  go_loopw [8] (fun i wr => ∃ k : Nat, i = .int .i64 k ∧ k ≤ n ∧ (∀ (j : Nat) x, j < k → rs[j]? = some x → endsB y x = false) ∧ Below w.heap.size w wr) (fun i _ => n - (intOf i).toNat)
  case atStart => exact ⟨0, rfl, by omega, fun j _ hj => absurd hj (by omega), bre w⟩
  case round =>
    obtain ⟨k, rfl, hk, hall, hB⟩ := hrel
    have HA := Lib.hid hall
    have HB := Lib.hid hB
    clear hall hB
    by_cases hlt : k < n
    · obtain ⟨x, hx⟩ : ∃ x, rs[k]? = some x := ⟨_, List.getElem?_eq_getElem (by have := HR.out.1; omega)⟩
      obtain ⟨b, off, rfl, hbl, hc⟩ := (HR.out.below HB.out).2 (by omega)
      obtain ⟨x0, x1, x2, x3⟩ := hc k x hx
      have k0 : (0 : Int) ≤ (k : Int) := by omega
      have k1 : (k : Int) < (n : Int) := by omega
      have hcy : Hid (wr.cell? ⟨by', 0, none⟩ = some (.int .i64 y)) := Lib.hid ((HB.out.cell (p := ⟨by', 0, none⟩) (block_lt_of_cell HYC.out)).trans HYC.out)
      have HX := Lib.hid hx
      clear hc hx
      cases hon : endsB y x
      · have HON := Lib.hid hon
        clear hon
        go_wp2_with fail
        refine (of2_any x y by' _ (HOK.out x (List.mem_of_getElem? HX.out)) hcy.out).mono ?_
        rintro e w' ⟨rfl, rfl⟩
        rw [HON.out]
        go_wp2_with fail
        go_roundw
        case rel =>
          refine ⟨k + 1, by go_num, by omega, fun j u hj hu => ?_, bstep HB.out (bal (bre wr) _)⟩
          by_cases hjk : j = k
          · subst hjk
            cases HX.out.symm.trans hu
            exact HON.out
          · exact HA.out j u (by omega) hu
        case measure => simp [intOf]; omega
      · have hv : idxI (endsB y) rs = k := idxI_some HX.out hon HA.out
        have HV := Lib.hid hv
        have HON := Lib.hid hon
        clear hv hon
        go_wp2_with fail
        refine (of2_any x y by' _ (HOK.out x (List.mem_of_getElem? HX.out)) hcy.out).mono ?_
        rintro e w' ⟨rfl, rfl⟩
        rw [HON.out]
        go_wp2_with fail
        go_ret
        exact ⟨ret_int HV.out.symm, bstep HB.out (bal (bre wr) _)⟩
    · obtain rfl : k = n := by omega
      have hv : idxI (endsB y) rs = -1 := idxI_none (fun j u hu => HA.out j u (by have := (List.getElem?_eq_some_iff.1 hu).1; have := HR.out.1; omega) hu)
      have HV := Lib.hid hv
      clear hv
      go_wp2_with fail
      go_ret
      exact ⟨ret_int HV.out.symm, HB.out⟩

end Go.Proofs.YtdaedkolpfkdjaaGreat
end

section
namespace Go.Proofs.YtdaedkolpfkdjaaGreat
open Go.RowKit

theorem blk_setCells {g : Nat} {t : TypeId} : ∀ (vs : List Value) (o : Nat) (w : World) (cs : List Value), Blk w g t cs.toArray → ∃ cs' : List Value, Blk (w.setCells g o vs) g t cs'.toArray ∧ cs'.length = cs.length ∧ cs'.take o = cs.take o
  | [], _, _, cs, h => ⟨cs, h, rfl, rfl⟩
  | v :: r, o, w, cs, h => by
    have h1 := h.set_ o v
    rw [List.setIfInBounds_toArray] at h1
    obtain ⟨cs', h2, h3, h4⟩ := blk_setCells r (o + 1) _ _ h1
    refine ⟨cs', h2, by simpa using h3, ?_⟩
    have h5 : (cs'.take (o + 1)).take o = ((cs.set o v).take (o + 1)).take o := by rw [h4]
    rw [List.take_take, List.take_take, Nat.min_eq_left (by omega)] at h5
    rw [h5, List.take_set_of_le (Nat.le_refl _)]
theorem grown_setCells {g : Nat} : ∀ (vs : List Value) (o : Nat) (w : World), w.grownBy (w.setCells g o vs) (some g)
  | [], _, w => grown_of_below (bre w) _
  | v :: r, o, w => by
    have h1 := grown_setCell w ⟨g, o, none⟩ v
    have h2 := grown_setCells (g := g) r (o + 1) (w.setCell ⟨g, o, none⟩ v)
    exact ⟨h2.os.trans h1.os, h2.tape.trans h1.tape, h2.output.trans h1.output, Nat.le_trans h1.size h2.size, fun i hi hn => (h2.block i (Nat.lt_of_lt_of_le hi h1.size) hn).trans (h1.block i hi hn)⟩
theorem grown_row {w X Y : World} {g : Nat} (h : w.grownBy X (some g)) (hg : X.grownBy Y (some g)) : w.grownBy Y (some g) :=
  ⟨hg.os.trans h.os, hg.tape.trans h.tape, hg.output.trans h.output, Nat.le_trans h.size hg.size, fun i hi hn => (hg.block i (Nat.lt_of_lt_of_le hi h.size) hn).trans (h.block i hi hn)⟩
theorem grown_bel {w X Y : World} {r : Option Nat} (h : w.grownBy X r) (hb : Below X.heap.size X Y) : w.grownBy Y r :=
  ⟨hb.os.trans h.os, hb.tape.trans h.tape, hb.output.trans h.output, Nat.le_trans h.size hb.size, fun i hi hn => (hb.block i (Nat.lt_of_lt_of_le hi h.size)).trans (h.block i hi hn)⟩

def zs4 (n : Nat) : List Value := (Builtin.zeroCells #[.int .i64 0, .int .i64 0, .int .i64 0, .int .i64 0] n).toList
theorem zs4_len (n : Nat) : (zs4 n).length = n * 4 := by simp [zs4, Builtin.zeroCells]
theorem zs4_one (n : Nat) : ∀ v ∈ zs4 n, v.oneCell' = true := by
  intro v hv
  simp only [zs4, Builtin.zeroCells, Array.toList_map, List.mem_map] at hv
  obtain ⟨i, _, rfl⟩ := hv
  have : i % 4 = 0 ∨ i % 4 = 1 ∨ i % 4 = 2 ∨ i % 4 = 3 := by omega
  rcases this with h | h | h | h <;> simp [h, Value.oneCell']
theorem run_clear4 (w : World) (ty : TypeId) (g o n c : Nat) (hn : 0 < n) (hc : ∀ j, j < n * 4 → (w.cell? ⟨g, o + j, none⟩).isSome = true) (hf : ∀ j, j < n * 4 → w.frozen? ⟨g, o + j, none⟩ = false) :
    (Builtin.clear_ #[31] ty #[.slice (some ⟨g, o, none⟩) n c]).run Tryz.prog w = .ok (.tuple #[]) (w.setCells g o (zs4 n)) := by
  have hst := run_storeCells_cells (P := Tryz.prog) g o (zs4 n) 0 w (by rw [zs4_len]; simpa using hc) (by rw [zs4_len]; simpa using hf) (zs4_one n)
  simp only [Nat.add_zero] at hst
  obtain ⟨m, rfl⟩ : ∃ m, n = m + 1 := ⟨n - 1, by omega⟩
  unfold zs4 at hst ⊢
  simp [Builtin.clear_, run_underlying Tryz.underlying31, Value.cells, hst]

/-- those that do not end ahead of a row. -/
def keepL (y : Int) (l : List RC) : List RC := l.filter fun r => !endsB y r
theorem keepL_none {y : Int} {l : List RC} (h : idxI (endsB y) l = -1) : keepL y l = l := by
  unfold keepL
  rw [List.filter_eq_self]
  intro r hr
  cases hf : l.findIdx? (endsB y) with
  | none =>
    rw [List.findIdx?_eq_none_iff] at hf
    simp [hf r hr]
  | some i =>
    simp [idxI, hf] at h
theorem keepL_first {y : Int} {l : List RC} {i : Nat} (h : l.findIdx? (endsB y) = some i) : keepL y (l.take (i + 1)) = l.take i ∧ i < l.length := by
  rw [List.findIdx?_eq_some_iff_getElem] at h
  obtain ⟨hi, hp, hj⟩ := h
  refine ⟨?_, hi⟩
  rw [List.take_succ_eq_append_getElem hi]
  unfold keepL
  rw [List.filter_append, List.filter_eq_self.2, List.filter_cons_of_neg (by simp [hp])]
  · simp
  · intro r hr
    obtain ⟨j, hj', rfl⟩ := List.mem_take_iff_getElem.1 hr
    have := hj j (by omega)
    simpa using this
theorem keepL_snoc_in {y : Int} {l : List RC} {x : RC} (h : endsB y x = false) : keepL y (l ++ [x]) = keepL y l ++ [x] := by simp [keepL, h]
theorem keepL_snoc_out {y : Int} {l : List RC} {x : RC} (h : endsB y x = true) : keepL y (l ++ [x]) = keepL y l := by simp [keepL, h]

theorem grown_four {w X : World} {g o1 o2 o3 o4 : Nat} {v1 v2 v3 v4 : Value} (h : w.grownBy X (some g)) : w.grownBy ((((X.setCell ⟨g, o1, none⟩ v1).setCell ⟨g, o2, none⟩ v2).setCell ⟨g, o3, none⟩ v3).setCell ⟨g, o4, none⟩ v4) (some g) :=
  grown_row (grown_row (grown_row (grown_row h (grown_setCell _ ⟨g, o1, none⟩ v1)) (grown_setCell _ ⟨g, o2, none⟩ v2)) (grown_setCell _ ⟨g, o3, none⟩ v3)) (grown_setCell _ ⟨g, o4, none⟩ v4)
theorem del_set {K M D : List RC} {x : RC} {i : Nat} (hK : K.length = i) (hM : 0 < M.length) : (K ++ M ++ x :: D).set i x = (K ++ [x]) ++ (M.tail ++ [x]) ++ D := by
  subst hK
  cases M with
  | nil => simp at hM
  | cons m M => simp
theorem del_at {K M D : List RC} {x : RC} {j : Nat} (h : K.length + M.length = j) : (K ++ M ++ x :: D)[j]? = some x := by
  rw [List.getElem?_append_right (by simp; omega)]
  simp [← h]
/-- a row of rectangles as its block. -/
theorem own_rcs {w : World} {B g n c : Nat} {rs : List RC} (h : w.ownsRow B 103 4 (.slice (some ⟨g, 0, none⟩) n c) n (rcs rs)) : B ≤ g ∧ n ≤ c ∧ c ≤ maxLen ∧ ∃ rest, Blk w g 103 (rcs rs ++ rest).toArray ∧ (rcs rs ++ rest).length = c * 4 := by
  rcases h.2 with ⟨e1, _⟩ | ⟨g', cap, cur, e1, hb, hg, h1, h2, h3, h4⟩
  · cases e1
  · injection e1 with e1 _ e3
    injection e1 with e1
    injection e1 with e1 _ _
    subst e1 e3
    refine ⟨hb, h1, h2, cur.toList.drop (n * 4), ?_, ?_⟩
    · rw [← h4, List.take_append_drop]
      exact hg
    · rw [← h4, List.take_append_drop]
      simpa using h3
theorem rcs_own {w : World} {B g n c : Nat} {rs : List RC} {cs : List Value} (hB : B ≤ g) (hn : n ≤ c) (hm : c ≤ maxLen) (h : Blk w g 103 cs.toArray) (hl : cs.length = c * 4) (ht : cs.take (n * 4) = rcs rs) (hr : rs.length = n) : w.ownsRow B 103 4 (.slice (some ⟨g, 0, none⟩) n c) n (rcs rs) :=
  ⟨by rw [rcs_len, hr], .inr ⟨g, c, cs.toArray, rfl, hB, h, hn, hm, by simpa using hl, by simpa using ht⟩⟩
theorem RdR.of_blk {w : World} {g : Nat} {t : TypeId} {rs : List RC} {rest : List Value} (h : Blk w g t (rcs rs ++ rest).toArray) : RdR w (some ⟨g, 0, none⟩) rs.length rs :=
  ⟨rfl, fun _ => ⟨g, 0, rfl, h.lt, fun k r hk => by rw [Nat.zero_add]; exact blk_at h hk⟩⟩

set_option maxRecDepth 100000 in
set_option maxHeartbeats 4000000 in
theorem delF_go (B g n c i0 : Nat) (rs : List RC) (y : Int) (by' : Nat) (w : World) (hown : w.ownsRow B 103 4 (.slice (some ⟨g, 0, none⟩) n c) n (rcs rs)) (hn : rs.length = n) (hnb : n ≤ 1000000000000) (hok : ∀ r ∈ rs, r.ok) (hy : w.cell? ⟨by', 0, none⟩ = some (.int .i64 y)) (hby : by' ≠ g) (hi0 : rs.findIdx? (endsB y) = some i0) :
    Calls Tryz.prog 130 #[.slice (some ⟨g, 0, none⟩) n c, .func (.func 131) #[] #[.pointer (some ⟨by', 0, none⟩)]] w fun e w' => e = .returned (.slice (some ⟨g, 0, none⟩) (keepL y rs).length c) ∧ w'.ownsRow B 103 4 (.slice (some ⟨g, 0, none⟩) (keepL y rs).length c) (keepL y rs).length (rcs (keepL y rs)) ∧ w.grownBy w' (some g) := by
  obtain ⟨hBg, hnc, hcm, rest, hblk, hrl⟩ := own_rcs hown
  obtain ⟨hk0, hi0l⟩ := keepL_first hi0
  have hidx : idxI (endsB y) rs = i0 := by simp [idxI, hi0]
  have hlt0 := block_lt_of_cell hy
  have HI := Lib.hid hidx
  have HK0 := Lib.hid hk0
  have HBLK := Lib.hid hblk
  have HRL := Lib.hid hrl
  have HN := Lib.hid hn
  have HOK := Lib.hid hok
  have HYC := Lib.hid hy
  have hg0 := hblk.lt
  have i0n : i0 < n := by omega
  have ne1 : ((i0 : Int) == -1) = false := by rw [beq_eq_false_iff_ne]; omega
  clear hidx hk0 hblk hrl hn hok hy hown hi0
  go_enter Tryz.func130, Tryz.ntmps130
  go_wp2_with (go_at_call 175; refine (indexF_any _ n c rs y by' w (by omega) (by rw [← HN.out]; exact RdR.of_blk HBLK.out) HOK.out HYC.out).mono ?_; rintro e w1 ⟨rfl, b1⟩; rw [HI.out]; have B1 := Lib.hid b1; clear b1)
  go_loopw [5, 6] (fun s5 s6 wr => ∃ (i j : Nat) (M : List RC), s5 = .int .i64 i ∧ s6 = .int .i64 j ∧ i < j ∧ j ≤ n ∧ M.length = j - i ∧ (keepL y (rs.take j)).length = i ∧ Blk wr g 103 (rcs (keepL y (rs.take j) ++ M ++ rs.drop j) ++ rest).toArray ∧ w.grownBy wr (some g)) (fun _ s6 _ => n - (intOf s6).toNat)
  case atStart =>
    refine ⟨i0, i0 + 1, [rs[i0]], rfl, by go_num, by omega, by omega, by simp, by rw [HK0.out, List.length_take]; omega, ?_, grown_of_below B1.out _⟩
    have e : keepL y (rs.take (i0 + 1)) ++ [rs[i0]] ++ rs.drop (i0 + 1) = rs := by
      rw [HK0.out, ← List.take_succ_eq_append_getElem hi0l, List.take_append_drop]
    rw [e]
    exact HBLK.out.belowS B1.out
  case round =>
    obtain ⟨i, j, M, rfl, rfl, hij, hj, hM, hK, hb, hg⟩ := hrel
    have HB := Lib.hid hb
    have HG := Lib.hid hg
    have HM := Lib.hid hM
    have HK := Lib.hid hK
    have gl := hb.lt
    have hcy : Hid (wr.cell? ⟨by', 0, none⟩ = some (.int .i64 y)) := Lib.hid (by
      have h := hg.block by' hlt0 (by simp; omega)
      exact (World.cell?_of_block (a := ⟨by', 0, none⟩) h).trans HYC.out)
    clear hb hg hM hK
    by_cases hlt : j < n
    · obtain ⟨x, hx⟩ : ∃ x, rs[j]? = some x := ⟨_, List.getElem?_eq_getElem (by have := HN.out; omega)⟩
      have hxv := (List.getElem?_eq_some_iff.1 hx)
      have hdr : rs.drop j = x :: rs.drop (j + 1) := by
        obtain ⟨h1, h2⟩ := hxv
        rw [List.drop_eq_getElem_cons h1, h2]
      have htk : rs.take (j + 1) = rs.take j ++ [x] := by rw [List.take_add_one, hx]; rfl
      have hB' := HB.out
      rw [hdr] at hB'
      have hlen : (keepL y (rs.take j)).length + M.length = j := by rw [HK.out, HM.out]; omega
      obtain ⟨x0, x1, x2, x3⟩ := blk_at hB' (del_at hlen)
      obtain ⟨m0, hm0⟩ : ∃ m0, (keepL y (rs.take j) ++ M ++ x :: rs.drop (j + 1))[i]? = some m0 := ⟨_, List.getElem?_eq_getElem (by simp [HK.out, HM.out]; omega)⟩
      obtain ⟨m1, m2, m3, m4⟩ := blk_at hB' hm0
      have f0 := hB'.frozen (i * 4)
      have f1 := hB'.frozen (i * 4 + 1)
      have f2 := hB'.frozen (i * 4 + 1 + 1)
      have f3 := hB'.frozen (i * 4 + 1 + 1 + 1)
      have HB2 := Lib.hid hB'
      have HX := Lib.hid hx
      have HTK := Lib.hid htk
      have HOKX := Lib.hid (HOK.out x (List.mem_of_getElem? hx))
      have k0 : (0 : Int) ≤ (j : Int) := by omega
      have k1 : (j : Int) < (n : Int) := by omega
      have k2 : (0 : Int) ≤ (i : Int) := by omega
      have k3 : (i : Int) < (n : Int) := by omega
      clear hx hxv hdr htk hB' hm0
      cases hon : endsB y x
      · have hkn : keepL y (rs.take (j + 1)) = keepL y (rs.take j) ++ [x] := by rw [HTK.out]; exact keepL_snoc_in hon
        have HKN := Lib.hid hkn
        have HON := Lib.hid hon
        clear hkn hon
        go_wp2_with fail
        refine (of2_any x y by' _ HOKX.out (by exact (World.cell?_alloc_lt _ _ _ (Nat.lt_of_lt_of_le hlt0 HG.out.size)).trans hcy.out)).mono ?_
        rintro e w' ⟨rfl, rfl⟩
        rw [HON.out]
        go_wp2_with fail
        go_roundw
        case rel =>
          refine ⟨i + 1, j + 1, M.tail ++ [x], by go_num, by go_num, by omega, by omega, by simp [HM.out]; omega, by rw [HKN.out, List.length_append, HK.out]; rfl, ?_, ?_⟩
          · have h := blk_set (r := x) (k := i) HB2.out (by simp [HK.out, HM.out]; omega)
            rw [del_set HK.out (by rw [HM.out]; omega)] at h
            rw [HKN.out]
            exact (h.alloc _).alloc _
          · exact grown_bel (grown_four HG.out) (bal (bal (bre _) _) _)
        case measure => simp [intOf]; omega
      · have hkn : keepL y (rs.take (j + 1)) = keepL y (rs.take j) := by rw [HTK.out]; exact keepL_snoc_out hon
        have HKN := Lib.hid hkn
        have HON := Lib.hid hon
        clear hkn hon
        go_wp2_with fail
        refine (of2_any x y by' _ HOKX.out (by exact (World.cell?_alloc_lt _ _ _ (Nat.lt_of_lt_of_le hlt0 HG.out.size)).trans hcy.out)).mono ?_
        rintro e w' ⟨rfl, rfl⟩
        rw [HON.out]
        go_wp2_with fail
        go_roundw
        case rel =>
          refine ⟨i, j + 1, M ++ [x], rfl, by go_num, by omega, by omega, by simp [HM.out]; omega, by rw [HKN.out, HK.out], ?_, grown_bel HG.out (bal (bal (bre _) _) _)⟩
          rw [HKN.out]
          have h := HB2.out
          rw [show keepL y (rs.take j) ++ M ++ x :: rs.drop (j + 1) = keepL y (rs.take j) ++ (M ++ [x]) ++ rs.drop (j + 1) from by simp] at h
          exact (h.alloc _).alloc _
        case measure => simp [intOf]; omega
    · obtain rfl : j = n := by omega
      have hB' := HB.out
      rw [List.take_of_length_le (by rw [HN.out]; exact Nat.le_refl _), List.drop_of_length_le (by rw [HN.out]; exact Nat.le_refl _), List.append_nil] at hB'
      have hK' := HK.out
      rw [List.take_of_length_le (by rw [HN.out]; exact Nat.le_refl _)] at hK'
      have hlen : (rcs (keepL y rs ++ M) ++ rest).length = c * 4 := by
        have := HRL.out
        have := HM.out
        have := HN.out
        simp only [List.length_append, rcs_len] at *
        omega
      have hcl : ∀ ty, (Builtin.clear_ #[31] ty #[.slice (some ⟨g, i * 4, none⟩) (j - i) (c - i)]).run Tryz.prog wr = .ok (.tuple #[]) (wr.setCells g (i * 4) (zs4 (j - i))) := fun ty =>
        run_clear4 wr ty g (i * 4) (j - i) (c - i) (by omega) (fun q hq => by
          rw [hB'.cell]
          simp only [List.getElem?_toArray]
          rw [List.getElem?_eq_getElem (by rw [hlen]; omega)]
          rfl) (fun q _ => hB'.frozen _)
      have HB3 := Lib.hid hB'
      have HK3 := Lib.hid hK'
      have HL3 := Lib.hid hlen
      have k2 : (0 : Int) ≤ (i : Int) := by omega
      have k3 : (i : Int) ≤ (j : Int) := by omega
      have k4 : i ≤ j := by omega
      have k5 : i ≤ c := by omega
      have k6 : i < c := by omega
      clear hB' hK' hlen
      go_wp2_with (simp only [hcl])
      go_ret
      obtain ⟨cs', h1, h2, h3⟩ := blk_setCells (zs4 (j - i)) (i * 4) wr _ HB3.out
      rw [HK3.out]
      refine ⟨rfl, rcs_own hBg k5 hcm h1 (h2.trans HL3.out) ?_ HK3.out, grown_row HG.out (grown_setCells _ _ _)⟩
      rw [h3, rcs_append, List.append_assoc, List.take_append_of_le_length (by rw [rcs_len, HK3.out]; exact Nat.le_refl _), List.take_of_length_le (by rw [rcs_len, HK3.out]; exact Nat.le_refl _)]

set_option maxHeartbeats 1000000 in
theorem delF_none (A : Option Addr) (n c : Nat) (rs : List RC) (y : Int) (by' : Nat) (w : World) (hn : n ≤ 1000000000000) (hr : RdR w A n rs) (hok : ∀ r ∈ rs, r.ok) (hy : w.cell? ⟨by', 0, none⟩ = some (.int .i64 y)) (hi : idxI (endsB y) rs = -1) :
    Calls Tryz.prog 130 #[.slice A n c, .func (.func 131) #[] #[.pointer (some ⟨by', 0, none⟩)]] w fun e w' => e = .returned (.slice A n c) ∧ Below w.heap.size w w' := by
  have HI := Lib.hid hi
  have HR := Lib.hid hr
  have HOK := Lib.hid hok
  have HY := Lib.hid hy
  clear hi hr hok hy
  go_enter Tryz.func130, Tryz.ntmps130
  go_wp2_with (go_at_call 175; refine (indexF_any _ n c rs y by' w (by omega) HR.out HOK.out HY.out).mono ?_; rintro e w1 ⟨rfl, b1⟩; rw [HI.out]; have B1 := Lib.hid b1; clear b1)
  go_ret
  exact ⟨rfl, B1.out⟩

/-- the row, cut to those that do not end ahead of the row y. -/
theorem delF_any (B n c : Nat) (A : Option Addr) (rs : List RC) (y : Int) (by' : Nat) (w : World) (hown : w.ownsRow B 103 4 (.slice A n c) n (rcs rs)) (hn : rs.length = n) (hnb : n ≤ 1000000000000) (hok : ∀ r ∈ rs, r.ok) (hy : w.cell? ⟨by', 0, none⟩ = some (.int .i64 y)) (hby : ∀ g, (Value.slice A n c).ownBlock = some g → by' ≠ g) :
    Calls Tryz.prog 130 #[.slice A n c, .func (.func 131) #[] #[.pointer (some ⟨by', 0, none⟩)]] w fun e w' => e = .returned (.slice A (keepL y rs).length c) ∧ w'.ownsRow B 103 4 (.slice A (keepL y rs).length c) (keepL y rs).length (rcs (keepL y rs)) ∧ w.grownBy w' (Value.slice A n c).ownBlock := by
  cases hf : rs.findIdx? (endsB y) with
  | none =>
    have hi : idxI (endsB y) rs = -1 := by simp [idxI, hf]
    have hk := keepL_none hi
    rw [hk]
    have hr : RdR w A n rs := by
      rcases hown.2 with ⟨e, e0⟩ | ⟨g, cap, cur, e, _⟩
      · refine ⟨hn, fun h => absurd h (by omega)⟩
      · injection e with e1 _ _
        subst e1
        obtain ⟨_, _, _, rest, hb, _⟩ := own_rcs hown
        have := RdR.of_blk hb
        rw [hn] at this
        exact this
    refine (delF_none A n c rs y by' w hnb hr hok hy hi).mono fun e w' ⟨he, hb⟩ => ⟨by rw [hn]; exact he, ?_, grown_of_below hb _⟩
    rw [hn]
    exact ownsRow_below hown hb
  | some i0 =>
    obtain ⟨g, rfl⟩ : ∃ g, A = some ⟨g, 0, none⟩ := by
      rcases hown.2 with ⟨e, e0⟩ | ⟨g, cap, cur, e, _⟩
      · have := (keepL_first hf).2
        omega
      · injection e with e1 _ _
        exact ⟨g, e1⟩
    exact delF_go B g n c i0 rs y by' w hown hn hnb hok hy (hby g rfl) hf

end Go.Proofs.YtdaedkolpfkdjaaGreat
end
