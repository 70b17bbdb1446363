/-
  Rectangles with one more place, place by place; line.join at whatever row; the places of a path.
-/
import Derived.Test.YtcdecglbkcllaaaLineJoin
import Derived.Test.YtcdecglbkcllaaaBandMem
import Derived.Test.YtcdecglbkcllaaaLineRegA
namespace Go.Proofs.Ytcdecglbkcllaaa
open Go.RowKit Go.Shelf

/-- rectangles with one more place. -/
def joinL (l : List RC) (x y : Int) : List RC := match l.getLast? with
  | none => [⟨x, y, 1, 1⟩]
  | some r => l.dropLast ++ joinR r x y
theorem joinL_nil (x y : Int) : joinL [] x y = [⟨x, y, 1, 1⟩] := rfl
theorem joinL_last (l0 : List RC) (r : RC) (x y : Int) : joinL (l0 ++ [r]) x y = l0 ++ joinR r x y := by simp [joinL]
theorem last_of {l : List RC} (h : l ≠ []) : ∃ l0 r, l = l0 ++ [r] := ⟨l.dropLast, l.getLast h, (List.dropLast_concat_getLast h).symm⟩
theorem joinR_len (r : RC) (x y : Int) : (joinR r x y).length ≤ 2 := by unfold joinR; split <;> simp
theorem joinL_len (l : List RC) (x y : Int) : (joinL l x y).length ≤ l.length + 1 := by
  by_cases h : l = []
  · subst h; simp [joinL]
  · obtain ⟨l0, r, rfl⟩ := last_of h
    rw [joinL_last]
    have := joinR_len r x y
    simp
    omega
theorem cnt_iff2 (r : RC) : r.cnt = true ↔ (-1048576 ≤ r.X ∧ 0 < r.W ∧ r.X + r.W ≤ 1048576) ∧ (-1048576 ≤ r.Y ∧ 0 < r.H ∧ r.Y + r.H ≤ 1048576) := by
  unfold RC.cnt
  rw [Bool.and_eq_true, fits_iff, fits_iff]
theorem in_one (r : RC) (x y : Int) : InR [r] x y ↔ r.X ≤ x ∧ x < r.X + r.W ∧ r.Y ≤ y ∧ y < r.Y + r.H := by simp [InR]
theorem joinR_ok {r : RC} {x y : Int} (hr : r.cnt = true) (hx : -1048576 ≤ x ∧ x < 1048576) (hy : -1048576 ≤ y ∧ y < 1048576) :
    (∀ q ∈ joinR r x y, q.cnt = true) ∧ ∀ a b, InR (joinR r x y) a b ↔ InR [r] a b ∨ (a = x ∧ b = y) := by
  rw [cnt_iff2] at hr
  unfold joinR growR
  split
  · rename_i r' h
    refine ⟨fun q hq => ?_, fun a b => ?_⟩
    · simp only [List.mem_singleton] at hq
      subst hq
      rw [cnt_iff2]
      repeat' split at h
      all_goals (first | (cases h; done) | (injection h with h; subst h; dsimp only; omega))
    · rw [in_one, in_one]
      repeat' split at h
      all_goals (first | (cases h; done) | (injection h with h; subst h; dsimp only; omega))
  · refine ⟨fun q hq => ?_, fun a b => ?_⟩
    · simp only [List.mem_cons, List.not_mem_nil, or_false] at hq
      rcases hq with rfl | rfl
      · exact (cnt_iff2 _).2 hr
      · rw [cnt_iff2]; dsimp only; omega
    · have e : [r, (⟨x, y, 1, 1⟩ : RC)] = [r] ++ [⟨x, y, 1, 1⟩] := rfl
      rw [e, in_append, in_one ⟨x, y, 1, 1⟩]
      dsimp only
      constructor
      · rintro (h | h)
        · exact .inl h
        · exact .inr (by omega)
      · rintro (h | h)
        · exact .inl h
        · exact .inr (by omega)
theorem joinL_ok {l : List RC} {x y : Int} (hl : ∀ r ∈ l, r.cnt = true) (hx : -1048576 ≤ x ∧ x < 1048576) (hy : -1048576 ≤ y ∧ y < 1048576) :
    (∀ q ∈ joinL l x y, q.cnt = true) ∧ ∀ a b, InR (joinL l x y) a b ↔ InR l a b ∨ (a = x ∧ b = y) := by
  by_cases h : l = []
  · subst h
    refine ⟨fun q hq => ?_, fun a b => ?_⟩
    · simp only [joinL_nil, List.mem_singleton] at hq
      subst hq
      rw [cnt_iff2]; dsimp only; omega
    · rw [joinL_nil, in_one]
      dsimp only
      constructor
      · intro h; exact .inr (by omega)
      · rintro (⟨r, hr, _⟩ | h)
        · cases hr
        · omega
  · obtain ⟨l0, r, rfl⟩ := last_of h
    rw [joinL_last]
    obtain ⟨h1, h2⟩ := joinR_ok (r := r) (hl r (by simp)) hx hy
    refine ⟨fun q hq => ?_, fun a b => ?_⟩
    · rcases List.mem_append.1 hq with hq | hq
      · exact hl q (by simp [hq])
      · exact h1 q hq
    · rw [in_append, in_append, h2]
      exact or_assoc.symm

/-- a place more of a path. -/
def joinQ (o : List RC) (q : Ln.PtR) : List RC := if q.1.1 < 1048576 ∧ q.1.2 < 1048576 then joinL o q.1.1 q.1.2 else o
/-- all places of a path. -/
def joinAll (P : List Ln.PtR) : List RC := P.foldl joinQ []
theorem joinAll_nil : joinAll [] = [] := rfl
theorem joinAll_snoc (P : List Ln.PtR) (q : Ln.PtR) : joinAll (P ++ [q]) = joinQ (joinAll P) q := by simp [joinAll]
theorem joinQ_yes {o : List RC} {q : Ln.PtR} (h1 : q.1.1 < 1048576) (h2 : q.1.2 < 1048576) : joinQ o q = joinL o q.1.1 q.1.2 := if_pos ⟨h1, h2⟩
theorem joinQ_no {o : List RC} {q : Ln.PtR} (h : ¬ (q.1.1 < 1048576 ∧ q.1.2 < 1048576)) : joinQ o q = o := if_neg h
theorem snocInd {α : Type} {p : List α → Prop} (h0 : p []) (h1 : ∀ l a, p l → p (l ++ [a])) (l : List α) : p l := by
  have : ∀ r : List α, p r.reverse := fun r => by
    induction r with
    | nil => exact h0
    | cons a r ih => rw [List.reverse_cons]; exact h1 _ _ ih
  have h := this l.reverse
  rwa [List.reverse_reverse] at h
theorem joinAll_len (P : List Ln.PtR) : (joinAll P).length ≤ P.length := by
  refine snocInd (p := fun P => (joinAll P).length ≤ P.length) (by simp [joinAll]) (fun P q ih => ?_) P
  rw [joinAll_snoc]
  unfold joinQ
  split
  · have := joinL_len (joinAll P) q.1.1 q.1.2
    simp
    omega
  · simp
    omega
theorem joinAll_ok (P : List Ln.PtR) : (∀ r ∈ joinAll P, r.cnt = true) ∧ ∀ a b, InR (joinAll P) a b ↔ ∃ q ∈ P, q.1 = (a, b) ∧ a < 1048576 ∧ b < 1048576 := by
  refine snocInd (p := fun P => (∀ r ∈ joinAll P, r.cnt = true) ∧ ∀ a b, InR (joinAll P) a b ↔ ∃ q ∈ P, q.1 = (a, b) ∧ a < 1048576 ∧ b < 1048576) ⟨by simp [joinAll], by simp [joinAll, InR]⟩ (fun P q ih => ?_) P
  obtain ⟨i1, i2⟩ := ih
  have hq := Ln.right_bd q.2
  rw [joinAll_snoc]
  by_cases h : q.1.1 < 1048576 ∧ q.1.2 < 1048576
  · rw [joinQ_yes h.1 h.2]
    obtain ⟨j1, j2⟩ := joinL_ok (x := q.1.1) (y := q.1.2) i1 ⟨hq.1, h.1⟩ ⟨hq.2.2.1, h.2⟩
    refine ⟨j1, fun a b => ?_⟩
    rw [j2, i2]
    constructor
    · rintro (⟨p, hp, h1⟩ | ⟨rfl, rfl⟩)
      · exact ⟨p, by simp [hp], h1⟩
      · exact ⟨q, by simp, rfl, h.1, h.2⟩
    · rintro ⟨p, hp, h1, h2⟩
      rcases List.mem_append.1 hp with hp | hp
      · exact .inl ⟨p, hp, h1, h2⟩
      · simp only [List.mem_singleton] at hp
        subst hp
        rw [h1]
        exact .inr ⟨rfl, rfl⟩
  · rw [joinQ_no h]
    refine ⟨i1, fun a b => ?_⟩
    rw [i2]
    constructor
    · rintro ⟨p, hp, h1⟩
      exact ⟨p, by simp [hp], h1⟩
    · rintro ⟨p, hp, h1, h2⟩
      rcases List.mem_append.1 hp with hp | hp
      · exact ⟨p, hp, h1, h2⟩
      · simp only [List.mem_singleton] at hp
        subst hp
        rw [h1] at h
        exact absurd h2 h

/-- the places of the first k points' path. -/
def pathA (l : List Ln.PtR) : Nat → List Ln.PtR
  | 0 => []
  | 1 => match l[0]? with
    | some p => Ln.ptsR p.1.1 p.1.2 p.1.1 p.1.2 0 1
    | none => []
  | k + 2 => pathA l (k + 1) ++ match l[k]?, l[k + 1]? with
    | some p, some q => Ln.ptsR p.1.1 p.1.2 q.1.1 q.1.2 1 (Ln.stp p.1.1 p.1.2 q.1.1 q.1.2)
    | _, _ => []
theorem pathA_one {l : List Ln.PtR} {p : Ln.PtR} (hp : l[0]? = some p) : pathA l 1 = Ln.ptsR p.1.1 p.1.2 p.1.1 p.1.2 0 1 := by simp [pathA, hp]
theorem pathA_next {l : List Ln.PtR} {k : Nat} {p q : Ln.PtR} (hp : l[k]? = some p) (hq : l[k + 1]? = some q) : pathA l (k + 2) = pathA l (k + 1) ++ Ln.ptsR p.1.1 p.1.2 q.1.1 q.1.2 1 (Ln.stp p.1.1 p.1.2 q.1.1 q.1.2) := by simp [pathA, hp, hq]
theorem pathA_len (l : List Ln.PtR) (k : Nat) : ((pathA l k).length : Int) ≤ 1 + Ln.lenK l (k - 1) := by
  match k with
  | 0 => simp [pathA, Ln.lenK]
  | 1 =>
    cases hp : l[0]? with
    | none => simp [pathA, hp, Ln.lenK]
    | some p => rw [pathA_one hp, Ln.ptsR_length]; simp [Ln.lenK]
  | k + 2 =>
    have ih := pathA_len l (k + 1)
    simp only [Nat.add_sub_cancel, Nat.add_succ_sub_one] at ih ⊢
    cases hp : l[k]? with
    | none => simp only [pathA, hp, Ln.lenK, List.append_nil]; omega
    | some p =>
      cases hq : l[k + 1]? with
      | none => simp only [pathA, hp, hq, Ln.lenK, List.append_nil]; omega
      | some q =>
        rw [pathA_next hp hq, Ln.lenK_succ hp hq, List.length_append, Ln.ptsR_length]
        have := Ln.stp_max p.1.1 p.1.2 q.1.1 q.1.2
        omega

set_option maxRecDepth 100000 in
set_option maxHeartbeats 2000000 in
theorem join_first (B : Nat) (A : Option Addr) (cap : Nat) (x y : Int) (w : World)
    (hown : w.ownsRow B 45 4 (.slice A 0 cap) 0 []) (hBs : B ≤ w.heap.size) :
    Calls Try.prog 42 #[.slice A 0 cap, .agg #[.int .i64 x, .int .i64 y]] w (JoinP B (.slice A 0 cap) [⟨x, y, 1, 1⟩] w) := by
  obtain ⟨i0, hi, hi1, hi2, hi3⟩ := info_parts Try.infoR2
  have HO := Lib.hid hown
  clear hown
  go_enter Try.func42, Try.ntmps42
  go_upto_region 15 with fail
  have bP := Blk.new w 23 #[.int .i64 x, .int .i64 y]
  have hgw : Below w.heap.size w (w.alloc (.cells #[.int .i64 x, .int .i64 y] 23)) := bal (bre w) _
  obtain ⟨V, hV⟩ : ∃ V, w.alloc (.cells #[.int .i64 x, .int .i64 y] 23) = V := ⟨_, rfl⟩
  rw [hV] at hgw bP ⊢
  have v0 := bP.cellV (i := 0) (v := .int .i64 x) rfl
  have v1 := bP.cellV (i := 1) (v := .int .i64 y) rfl
  have HOV := Lib.hid (ownsRow_below HO.out hgw)
  have HGW := Lib.hid hgw
  have hvs := hgw.size
  clear hV bP hgw
  go_wp2_with (at_builtin; refine wpList_append_own_at _ rfl _ _ 52 rfl B 45 i0 _ 4 32 Try.underlying52 hi hi1 hi2 hi3 rfl (by decide) _ _ _ rfl (HOV.out.alloc _) ⟨V.heap.size, 0, none⟩ 1 1 [.int .i64 x, .int .i64 y, .int .i64 1, .int .i64 1] rfl rfl (four_new2 _ _ _ _ _ _) (by simp [Value.oneCell']) (by simp only [maxLen]; omega) (by omega) (by simp; omega) ?_; intro v' w4 hown' hgrow _ hat)
  go_ret
  refine ⟨v', rfl, by simpa [rcs, RC.cells] using hown', ?_, ?_⟩
  · exact ((grown_of_below HGW.out _).andThen (World.grownBy_alloc V _ _) (fun j hj => .inr hj)).andThen hgrow (fun j hj => .inr hj)
  · rcases hat with h | h
    · exact .inl h
    · refine .inr (fun g' hg' => ?_)
      rw [h] at hg'
      cases hg'
      simp
      omega
theorem join_any (B : Nat) (v : Value) (l : List RC) (x y : Int) (w : World) (hown : w.ownsRow B 45 4 v l.length (rcs l)) (hc : ∀ r ∈ l, r.cnt = true) (hl : l.length ≤ 1000000) (hBs : B ≤ w.heap.size) :
    Calls Try.prog 42 #[v, .agg #[.int .i64 x, .int .i64 y]] w (JoinP B v (joinL l x y) w) := by
  by_cases h : l = []
  · subst h
    obtain ⟨A, cap, rfl, _⟩ := own_form hown
    exact join_first B A cap x y w hown hBs
  · obtain ⟨l0, r, rfl⟩ := last_of h
    have hr := (cnt_iff2 r).1 (hc r (by simp))
    obtain ⟨A, cap, hv, _⟩ := own_form hown
    have hll : (l0 ++ [r]).length = l0.length + 1 := by simp
    rw [hll] at hown hv
    subst hv
    obtain ⟨g, rfl⟩ : ∃ g, A = some ⟨g, 0, none⟩ := by
      rcases hown.2 with ⟨e1, e2⟩ | ⟨g, _, _, e1, _⟩
      · omega
      · injection e1 with e1 _ _
        exact ⟨g, e1⟩
    rw [joinL_last]
    exact join_last B l0.length cap g l0 x y r w rfl (by simp at hl; omega) (by omega) hown hBs

end Go.Proofs.Ytcdecglbkcllaaa
