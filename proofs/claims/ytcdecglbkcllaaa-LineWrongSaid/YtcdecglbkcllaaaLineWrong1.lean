/-
  Paths of equal points, and of two points; what lies in memory of them.
-/
import Derived.Test.YtcdecglbkcllaaaLineRegB
import Derived.Test.YtcdecglbkcllaaaBandArea
namespace Go.Proofs.Ytcdecglbkcllaaa
open Go.RowKit Go.Shelf

/-- the point at 0, 0. -/
def zP : Ln.PtR := ⟨(0, 0), by decide⟩
theorem rep_get {n k : Nat} (h : k < n) : (List.replicate n zP)[k]? = some zP := by rw [List.getElem?_replicate, if_pos h]
theorem zero_len (n : Nat) (h : 1 ≤ n) : Ln.lenP (List.replicate n zP) = 1 := by
  have e : ∀ k, Ln.lenK (List.replicate n zP) k = 0 := by
    intro k
    induction k with
    | zero => rfl
    | succ k ih =>
      by_cases hk : k + 1 < n
      · rw [Ln.lenK_succ (rep_get (by omega)) (rep_get hk), ih]
        rfl
      · have : (List.replicate n zP)[k + 1]? = none := by rw [List.getElem?_replicate, if_neg hk]
        simp only [Ln.lenK, ih, this]
        split <;> simp_all
  unfold Ln.lenP
  rw [if_neg (by simp; omega), e]
  rfl
theorem zero_stp : Ln.stp 0 0 0 0 = 0 := by decide
theorem zero_stpI : Ln.stpI 0 0 0 0 = 0 := by rw [Ln.stpI_max]; rfl
theorem zero_pathA (n : Nat) (h : 1 ≤ n) (x y : Int) : (∃ q ∈ pathA (List.replicate n zP) n, q.1 = (x, y) ∧ x < 1048576 ∧ y < 1048576) ↔ x = 0 ∧ y = 0 := by
  have h1 : ∀ k, k < n → pathA (List.replicate n zP) (k + 1) = Ln.ptsR 0 0 0 0 0 1 := by
    intro k
    induction k with
    | zero => intro hk; exact pathA_one (rep_get (by omega))
    | succ k ih =>
      intro hk
      rw [pathA_next (rep_get (by omega)) (rep_get hk), ih (by omega)]
      have : Ln.ptsR zP.1.1 zP.1.2 zP.1.1 zP.1.2 1 (Ln.stp zP.1.1 zP.1.2 zP.1.1 zP.1.2) = [] := by
        show Ln.ptsR 0 0 0 0 1 (Ln.stp 0 0 0 0) = []
        rw [zero_stp]
        rfl
      rw [this, List.append_nil]
  obtain ⟨m, rfl⟩ : ∃ m, n = m + 1 := ⟨n - 1, by omega⟩
  rw [h1 m (by omega)]
  have e : Ln.ptsR 0 0 0 0 0 1 = [zP] := by decide
  rw [e]
  constructor
  · rintro ⟨q, hq, h2, _, _⟩
    simp only [List.mem_singleton] at hq
    subst hq
    cases h2
    exact ⟨rfl, rfl⟩
  · rintro ⟨rfl, rfl⟩
    exact ⟨zP, by simp, rfl, by omega, by omega⟩
theorem zero_pathL (n : Nat) (h : 1 ≤ n) : (Ln.pathL 0 0 1 1 (List.replicate n zP) n).length = 1 := by
  have h1 : ∀ k, k < n → (Ln.pathL 0 0 1 1 (List.replicate n zP) (k + 1)).length = 1 := by
    intro k
    induction k with
    | zero =>
      intro hk
      rw [Ln.pathL_one (rep_get (by omega)), Ln.cutL_all zP.2 zP.2]
      show (Ln.wiR 0 0 1 1 (Ln.ptsR 0 0 0 0 0 (Ln.stp 0 0 0 0 + 1))).length = 1
      rw [zero_stp]
      decide
    | succ k ih =>
      intro hk
      rw [Ln.pathL_next (rep_get (by omega)) (rep_get hk), List.length_append, ih (by omega)]
      have := Ln.cutL_len1 (X := 0) (Y := 0) (W := 1) (H := 1) zP.2 zP.2 1 (by omega)
      have e : Ln.stpI zP.1.1 zP.1.2 zP.1.1 zP.1.2 = 0 := zero_stpI
      rw [e] at this
      omega
  obtain ⟨m, rfl⟩ : ∃ m, n = m + 1 := ⟨n - 1, by omega⟩
  exact h1 m (by omega)
theorem canon_one {r : RC} (h1 : 0 < r.W) (h2 : 0 < r.H) : Canon [r] := by
  refine ⟨[⟨r.Y, r.H, [(r.X, r.X + r.W)]⟩], ?_, ⟨?_, ?_, ?_⟩⟩
  · simp only [flatB, List.flatMap_cons, List.flatMap_nil, List.append_nil, Bd.rc, bandL, List.map_cons, List.map_nil]
    rw [show r.X + r.W - r.X = r.W from by omega]
  · intro b hb
    simp only [List.mem_singleton] at hb
    subst hb
    refine ⟨h2, by simp, by simp, fun s hs => ?_⟩
    simp only [List.mem_singleton] at hs
    subst hs
    dsimp only
    omega
  · simp
  · intro pre a b post e
    have := congrArg List.length e
    simp at this
    omega
theorem made_pcs (n : Nat) : (madeCells (Value.agg #[.int .i64 0, .int .i64 0]).cells (n * 2)).toList = Ln.pcs (List.replicate n zP) := by
  have e1 : (madeCells (Value.agg #[.int .i64 0, .int .i64 0]).cells (n * 2)).toList = List.replicate (n * 2) (.int .i64 0) := by
    rw [List.eq_replicate_iff]
    refine ⟨by simp [madeCells], fun b hb => ?_⟩
    simp only [madeCells, Array.toList_map, List.mem_map, Array.toList_range, List.mem_range] at hb
    obtain ⟨i, _, rfl⟩ := hb
    have e : (Value.agg #[.int .i64 0, .int .i64 0]).cells = #[.int .i64 0, .int .i64 0] := by rfl
    rw [e]
    have : i % 2 = 0 ∨ i % 2 = 1 := by omega
    show (#[Value.int .i64 0, .int .i64 0] : Array Value)[i % 2]! = _
    rcases this with h | h <;> rw [h] <;> rfl
  have e2 : ∀ m, Ln.pcs (List.replicate m zP) = List.replicate (m * 2) (.int .i64 0) := by
    intro m
    rw [List.eq_replicate_iff]
    refine ⟨?_, fun b hb => ?_⟩
    · have : ∀ l : List Ln.PtR, (Ln.pcs l).length = l.length * 2 := fun l => by
        induction l with
        | nil => rfl
        | cons q l ih => simp [Ln.pcs] at ih ⊢; omega
      rw [this, List.length_replicate]
    · simp only [Ln.pcs, List.mem_flatMap] at hb
      obtain ⟨q, hq, hb⟩ := hb
      obtain rfl := (List.mem_replicate.1 hq).2
      simpa [zP] using hb
  rw [e1, e2]

theorem path_zero (v : Value) (n : Nat) (w : World) (hn : 1 ≤ n ∧ n ≤ 4096) (hr : Ln.RdP w v (Ln.unR (List.replicate n zP))) :
    Calls Try.prog 23 #[.agg #[.int .i64 0, .int .i64 0, .int .i64 1, .int .i64 1], v] w fun e w' => ∃ A c, e = .returned (.tuple #[.slice A 1 c, .int .i64 0]) ∧ Below w.heap.size w w' := by
  refine (Ln.path_any v (List.replicate n zP) 0 0 1 1 w (by intro h; have := congrArg List.length h; simp at this; omega) (by simp; omega) hr).mono fun e w' ⟨hb, h⟩ => ?_
  rcases h with ⟨h, _⟩ | ⟨_, h, _⟩ | ⟨_, _, v', rfl, ho⟩
  · exact absurd h (by decide)
  · rw [zero_len n hn.1] at h
    omega
  · rw [List.length_replicate, zero_pathL n hn.1] at ho
    obtain ⟨A, c, rfl, _⟩ := own_form ho
    exact ⟨A, c, rfl, hb⟩
theorem region_zero (g c n : Nat) (w : World) (hn : 1 ≤ n ∧ n ≤ 4096) (hr : Ln.RdP w (.slice (some ⟨g, 0, none⟩) n c) (Ln.unR (List.replicate n zP))) :
    Calls Try.prog 24 #[.slice (some ⟨g, 0, none⟩) n c] w fun e w' => ∃ A c, e = .returned (.agg #[.slice A 1 c]) ∧ RdR w' A 1 [⟨0, 0, 1, 1⟩] ∧ Below w.heap.size w w' := by
  rcases hr with ⟨h, _⟩ | ⟨g', c', e, hg, hc⟩
  · have := congrArg List.length h
    simp [Ln.unR] at this
    omega
  · injection e with e _ _
    injection e with e
    injection e with e _ _
    subst e
    refine (region_ok g c n (List.replicate n zP) w (by simp) hn hg hc (by rw [zero_len n hn.1]; omega)).mono fun e w' ⟨out, A, c1, he, hrd, hca, hin, _, hb⟩ => ?_
    have ho : out = [⟨0, 0, 1, 1⟩] := canon_uniq hca (canon_one (by decide) (by decide)) (fun x y => by
      rw [hin, zero_pathA n hn.1, in_one]
      dsimp only
      omega)
    subst ho
    exact ⟨A, c1, he, hrd, hb⟩
/-- two points in memory: the first one at 0, 0. -/
def TwoAt (w : World) (g : Nat) (px py : Int) : Prop := Blk w g 23 #[.int .i64 0, .int .i64 0, .int .i64 px, .int .i64 py]
theorem twoAt_new (V : World) (px py : Int) : TwoAt (V.alloc (.cells #[.int .i64 0, .int .i64 0, .int .i64 px, .int .i64 py] 23)) V.heap.size px py := Blk.new V _ _
theorem twoAt_new2 (V : World) (o : Obj) (px py : Int) : TwoAt ((V.alloc o).alloc (.cells #[.int .i64 0, .int .i64 0, .int .i64 px, .int .i64 py] 23)) (V.heap.size + 1) px py := Blk.new2 V o _ _
theorem TwoAt.cells {w : World} {g : Nat} {px py : Int} (h : TwoAt w g px py) : ∀ k p, [((0 : Int), (0 : Int)), (px, py)][k]? = some p → w.cell? ⟨g, k * 2, none⟩ = some (.int .i64 p.1) ∧ w.cell? ⟨g, k * 2 + 1, none⟩ = some (.int .i64 p.2) := by
  intro k p hk
  match k, hk with
  | 0, hk => simp at hk; subst hk; exact ⟨Blk.cellV h (i := 0) rfl, Blk.cellV h (i := 1) rfl⟩
  | 1, hk => simp at hk; subst hk; exact ⟨Blk.cellV h (i := 2) rfl, Blk.cellV h (i := 3) rfl⟩
  | k + 2, hk => simp at hk
theorem bad_two {px py : Int} (h : Ln.rightB px py = false) : (∀ k p, k < 1 → [((0 : Int), (0 : Int)), (px, py)][k]? = some p → Ln.rightB p.1 p.2 = true) ∧ ∀ p, [((0 : Int), (0 : Int)), (px, py)][1]? = some p → Ln.rightB p.1 p.2 = false :=
  ⟨fun k p hk hp => by
    obtain rfl : k = 0 := by omega
    simp at hp
    subst hp
    decide, fun p hp => by simp at hp; subst hp; exact h⟩
theorem path_bad (g c : Nat) (px py X Y W H : Int) (w : World) (h : Ln.rightB px py = false) (ht : TwoAt w g px py) :
    Calls Try.prog 23 #[.agg #[.int .i64 X, .int .i64 Y, .int .i64 W, .int .i64 H], .slice (some ⟨g, 0, none⟩) 2 c] w fun e w' => e = .returned (.tuple #[.slice none 0 0, .int .i64 1]) ∧ Below w.heap.size w w' :=
  Ln.path_range g c 2 1 [(0, 0), (px, py)] X Y W H w rfl (by omega) (Blk.lt ht) ht.cells (by omega) (bad_two h).1 (bad_two h).2
theorem region_bad (g c : Nat) (px py : Int) (w : World) (h : Ln.rightB px py = false) (ht : TwoAt w g px py) :
    Calls Try.prog 24 #[.slice (some ⟨g, 0, none⟩) 2 c] w fun e w' => e = .returned (.agg #[.slice none 0 0]) ∧ Below w.heap.size w w' :=
  Ln.region_range g c 2 1 [(0, 0), (px, py)] w rfl (by omega) (Blk.lt ht) ht.cells (by omega) (bad_two h).1 (bad_two h).2
theorem two_len {px py : Int} (h : Ln.rightB px py = true) : Ln.lenP [zP, ⟨(px, py), h⟩] = Ln.stpI 0 0 px py + 1 := by
  show 1 + Ln.lenK _ (0 + 1) = _
  rw [Ln.lenK_succ (l := [zP, ⟨(px, py), h⟩]) (k := 0) (p := zP) (q := ⟨(px, py), h⟩) rfl rfl, Ln.stpI_max]
  show 1 + (0 + _) = _
  dsimp only [zP]
  omega
theorem path_two (g c : Nat) (px py X Y W H : Int) (w : World) (h : Ln.rightB px py = true) (ht : TwoAt w g px py) :
    Calls Try.prog 23 #[.agg #[.int .i64 X, .int .i64 Y, .int .i64 W, .int .i64 H], .slice (some ⟨g, 0, none⟩) 2 c] w fun e w' => ∃ A m cc er, e = .returned (.tuple #[.slice A m cc, .int .i64 er]) ∧ Below w.heap.size w w' ∧
      ((Ln.bigB X Y W H = true ∧ m = 0 ∧ er = 17) ∨ (Ln.bigB X Y W H = false ∧ 262144 < Ln.stpI 0 0 px py + 1 ∧ m = 0 ∧ er = 4) ∨ (Ln.bigB X Y W H = false ∧ Ln.stpI 0 0 px py + 1 ≤ 262144 ∧ er = 0)) := by
  have hc : ∀ k p, (Ln.unR [zP, ⟨(px, py), h⟩])[k]? = some p → w.cell? ⟨g, k * 2, none⟩ = some (.int .i64 p.1) ∧ w.cell? ⟨g, k * 2 + 1, none⟩ = some (.int .i64 p.2) := ht.cells
  refine (Ln.path_right g c 2 [zP, ⟨(px, py), h⟩] X Y W H w rfl (by omega) (by omega) (Blk.lt ht) hc).mono fun e w' ⟨hb, h'⟩ => ?_
  rw [two_len h] at h'
  rcases h' with ⟨h1, h2⟩ | ⟨h1, h2, h3⟩ | ⟨h1, h2, v', h3, ho⟩
  · exact ⟨none, 0, 0, 17, h2, hb, .inl ⟨h1, rfl, rfl⟩⟩
  · exact ⟨none, 0, 0, 4, h3, hb, .inr (.inl ⟨h1, h2, rfl, rfl⟩)⟩
  · obtain ⟨A, cc, hv, _⟩ := own_form ho
    subst hv
    exact ⟨A, _, cc, 0, h3, hb, .inr (.inr ⟨h1, h2, rfl⟩)⟩
theorem region_far (g c : Nat) (px py : Int) (w : World) (h : Ln.rightB px py = true) (ht : TwoAt w g px py) (hl : 65536 < Ln.stpI 0 0 px py + 1) :
    Calls Try.prog 24 #[.slice (some ⟨g, 0, none⟩) 2 c] w fun e w' => e = .returned (.agg #[.slice none 0 0]) ∧ Below w.heap.size w w' :=
  Ln.region_long g c 2 [zP, ⟨(px, py), h⟩] w rfl (by omega) (Blk.lt ht) (fun k p hk => ht.cells k p hk) (by rw [two_len h]; exact hl)

end Go.Proofs.Ytcdecglbkcllaaa
