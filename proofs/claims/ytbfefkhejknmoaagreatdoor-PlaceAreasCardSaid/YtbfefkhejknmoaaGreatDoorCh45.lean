/-
  The walk of the law's example (awake).
-/
import Derived.Test.YtbfefkhejknmoaaGreatDoorCh35
import Derived.Test.YtbfefkhejknmoaaGreatDoorCh44
import Derived.Test.YtbfefkhejknmoaaGreatDoorCh36
namespace Go.Proofs.YtbfefkhejknmoaaGreatDoor
theorem canon_one {r : RC} (h1 : 0 < r.W) (h2 : 0 < r.H) : Canon [r] := by
  refine ⟨[⟨r.Y, r.H, [(r.X, r.X + r.W)]⟩], ?_, ⟨?_, ?_, ?_⟩⟩
  · simp only [flatB, List.flatMap_cons, List.flatMap_nil, List.append_nil, Bd.rc, bandL, List.map_cons, List.map_nil]
    rw [show r.X + r.W - r.X = r.W from by omega]
  · intro b hb
    simp only [List.mem_singleton] at hb
    subst hb
    refine ⟨h2, by simp, by simp, fun s hs => ?_⟩
    simp only [List.mem_singleton] at hs
    subst hs
    dsimp only
    omega
  · simp
  · intro pre a b post e
    have := congrArg List.length e
    simp at this
    omega

open Go.RowKit Go.Maps Go.Shelf

def bxA : BX := ⟨2, 3, 10, 10, true, 0, 0, false, none, 0, 0⟩
def bxB : BX := ⟨1, 1, 2, 2, true, 9, 0, false, none, 0, 0⟩
def awBs : Bxs := fun j => if j = 1048578 then some bxB else if j = 1048577 then some bxA else if j = 1 then some (rootBX 20 20) else none
def awNs : Nodes := [] ++ [(1048577, 1)] ++ [(1048578, 1048577)]
theorem aw_tree : TreeOk awNs := ok_add (ok_add ok_nil (by decide) (by decide)) (by decide) (by decide)
theorem aw_ok : okBs awBs := by
  intro i b h
  unfold awBs at h
  split at h
  · cases h; exact ⟨by decide, by decide, by decide, by decide, by decide⟩
  · split at h
    · cases h; exact ⟨by decide, by decide, by decide, by decide, by decide⟩
    · split at h
      · cases h; exact ⟨by decide, by decide, by decide, by decide, by decide⟩
      · cases h
theorem ok_near {bs : Bxs} (h : okBs bs) : nearB bs := fun i b hb => by
  have := h i b hb
  obtain ⟨h1, h2, _⟩ := this
  omega
theorem aw_org : orgOk awNs awBs 1048578 = true ∧ orgX awNs awBs 1048578 = 3 ∧ orgY awNs awBs 1048578 = 4 := by decide
theorem aw_res : resC awBs awNs 1048577 ⟨2, 3, 12, 9⟩ = 0 := by decide
theorem aw_box : (resBs awBs awNs 1048577 ⟨2, 3, 12, 9⟩ 1048578) = some ⟨3, 0, 2, 2, true, 9, 0, false, none, 0, 0⟩ := by rfl
theorem aw_up : upOf awNs 1048578 = some 1048577 := by decide
theorem aw_mn : mateN awBs (kidsOf awNs 1048577) = 1 := by decide

def awA : Bxs := fun j => if j = 1048577 then some bxA else if j = 1 then some (rootBX 20 20) else none
theorem aw_setA (pv : Value) (w : World) (hp : PlaceIs w pv 1 (fun i => if i = 1 then some (rootBX 20 20) else none)) :
    Calls Tryz.prog 15 #[pv, .int .u32 1048577, .agg #[.int .i64 2, .int .i64 3, .int .i64 10, .int .i64 10, .bool true, .int .i64 0, .int .i64 0, .bool false, .slice none 0 0]] w fun e w' => ∃ mb, e = .returned (.tuple #[.agg #[.map mb], .int .i64 0]) ∧ PlaceIs w' (.agg #[.map mb]) 2 awA ∧ Below w.heap.size w w' := by
  refine (pset_ok pv 1 _ 1048577 bxA w (by decide) (by decide) hp (by decide) (by decide) (by decide) (by decide) (by decide) (by decide) (by decide) (by decide) (.inr ⟨rfl, rfl⟩) (.inr ⟨rfl, rfl⟩) (by decide)).mono ?_
  rintro e w' ⟨pv', rfl, hp', hb'⟩
  obtain ⟨mb, rfl, h⟩ := hp'
  exact ⟨mb, rfl, ⟨mb, rfl, h⟩, hb'⟩
theorem aw_setB (pv : Value) (w : World) (hp : PlaceIs w pv 2 awA) :
    Calls Tryz.prog 15 #[pv, .int .u32 1048578, .agg #[.int .i64 1, .int .i64 1, .int .i64 2, .int .i64 2, .bool true, .int .i64 9, .int .i64 0, .bool false, .slice none 0 0]] w fun e w' => ∃ mb, e = .returned (.tuple #[.agg #[.map mb], .int .i64 0]) ∧ PlaceIs w' (.agg #[.map mb]) 3 awBs ∧ Below w.heap.size w w' := by
  refine (pset_ok pv 2 _ 1048578 bxB w (by decide) (by decide) hp (by decide) (by decide) (by decide) (by decide) (by decide) (by decide) (by decide) (by decide) (.inr ⟨rfl, rfl⟩) (.inr ⟨rfl, rfl⟩) (by decide)).mono ?_
  rintro e w' ⟨pv', rfl, hp', hb'⟩
  obtain ⟨mb, rfl, h⟩ := hp'
  exact ⟨mb, rfl, ⟨mb, rfl, h⟩, hb'⟩
theorem aw_new (w : World) :
    Calls Tryz.prog 14 #[.int .i64 20, .int .i64 20] w fun e w' => ∃ mb, e = .returned (.tuple #[.agg #[.map mb], .int .i64 0]) ∧ PlaceIs w' (.agg #[.map mb]) 1 (fun i => if i = 1 then some (rootBX 20 20) else none) ∧ Below w.heap.size w w' := by
  refine (pnew_any 20 20 w (by decide) (by decide)).mono ?_
  rintro e w' ⟨pv', rfl, hp', hb'⟩
  obtain ⟨mb, rfl, h⟩ := hp'
  exact ⟨mb, rfl, ⟨mb, rfl, h⟩, hb'⟩
theorem aw_addA (w : World) (h : TreeIs w (.agg #[.map none, .map none]) [] none none 0 (fun _ => none)) :
    Calls Tryz.prog 29 #[.agg #[.map none, .map none], .int .u32 1048577, .int .u32 1] w fun e w' => (∃ mk mu nk fk, e = .returned (.tuple #[.agg #[.map mk, .map mu], .int .i64 0]) ∧ TreeIs w' (.agg #[.map mk, .map mu]) [(1048577, 1)] mk mu nk fk) ∧ Below w.heap.size w w' := by
  refine (tadd_ok _ [] none none 0 _ 1048577 1 w (by decide) (by decide) h (by decide) (by decide) (by decide) (by decide)).mono ?_
  rintro e w' ⟨⟨v', mk, mu, nk, fk, rfl, ht⟩, hb⟩
  obtain rfl := ht.shape
  exact ⟨⟨mk, mu, nk, fk, rfl, ht⟩, hb⟩
theorem aw_addB (mk0 mu0 : Option Nat) (nk0 : Nat) (fk0 : Int → Option Value) (w : World) (h : TreeIs w (.agg #[.map mk0, .map mu0]) [(1048577, 1)] mk0 mu0 nk0 fk0) :
    Calls Tryz.prog 29 #[.agg #[.map mk0, .map mu0], .int .u32 1048578, .int .u32 1048577] w fun e w' => (∃ mk mu nk fk, e = .returned (.tuple #[.agg #[.map mk, .map mu], .int .i64 0]) ∧ TreeIs w' (.agg #[.map mk, .map mu]) awNs mk mu nk fk) ∧ Below w.heap.size w w' := by
  refine (tadd_ok _ [(1048577, 1)] mk0 mu0 nk0 fk0 1048578 1048577 w (by decide) (by decide) h (by decide) (by decide) (by decide) (by decide)).mono ?_
  rintro e w' ⟨⟨v', mk, mu, nk, fk, rfl, ht⟩, hb⟩
  obtain rfl := ht.shape
  exact ⟨⟨mk, mu, nk, fk, rfl, ht⟩, hb⟩
theorem aw_origin (mb mk mu : Option Nat) (nk : Nat) (fk : Int → Option Value) (w : World) (hp : PlaceIs w (.agg #[.map mb]) 3 awBs) (h : TreeIs w (.agg #[.map mk, .map mu]) awNs mk mu nk fk) :
    Calls Tryz.prog 17 #[.agg #[.map mb], .agg #[.map mk, .map mu], .int .u32 1048578] w fun e w' => e = .returned (.tuple #[.agg #[.int .i64 3, .int .i64 4], .bool true]) ∧ Below w.heap.size w w' := by
  refine (origin_any _ _ 3 awBs awNs mk mu nk fk 1048578 w (by decide) hp h aw_tree (ok_near aw_ok)).mono ?_
  rintro e w' ⟨rfl, hb⟩
  rw [aw_org.1, aw_org.2.1, aw_org.2.2]
  exact ⟨rfl, hb⟩
theorem aw_resize (mb mk mu : Option Nat) (nk : Nat) (fk : Int → Option Value) (w : World) (hp : PlaceIs w (.agg #[.map mb]) 3 awBs) (h : TreeIs w (.agg #[.map mk, .map mu]) awNs mk mu nk fk) (hH : Halves w) :
    Calls Tryz.prog 12 #[.agg #[.map mb], .agg #[.map mk, .map mu], .int .u32 1048577, .agg #[.int .i64 2, .int .i64 3, .int .i64 12, .int .i64 9]] w fun e w' => ∃ mq, e = .returned (.tuple #[.agg #[.map mq], .int .i64 0]) ∧ PlaceIs w' (.agg #[.map mq]) 3 (resBs awBs awNs 1048577 ⟨2, 3, 12, 9⟩) ∧ Below w.heap.size w w' := by
  refine (resize_any _ _ 3 awBs awNs mk mu nk fk 1048577 ⟨2, 3, 12, 9⟩ w (by decide) hp (by decide) h aw_tree aw_ok hH).mono ?_
  rintro e w' ⟨pv', rfl, hp', hb'⟩
  rw [aw_res]
  obtain ⟨mb, rfl, h⟩ := hp'
  exact ⟨mb, rfl, ⟨mb, rfl, h⟩, hb'⟩
theorem aw_boxQ (mq : Option Nat) (w : World) (hp : PlaceIs w (.agg #[.map mq]) 3 (resBs awBs awNs 1048577 ⟨2, 3, 12, 9⟩)) :
    Calls Tryz.prog 11 #[.agg #[.map mq], .int .u32 1048578] w fun e w' => e = .returned (.tuple #[.agg #[.int .i64 3, .int .i64 0, .int .i64 2, .int .i64 2, .bool true, .int .i64 9, .int .i64 0, .bool false, .slice none 0 0], .bool true]) ∧ Below w.heap.size w w' := by
  refine (box_any _ 3 _ 1048578 w (by decide) hp).mono ?_
  rintro e w' ⟨rfl, hb⟩
  rw [aw_box]
  exact ⟨rfl, hb⟩
theorem aw_mates (mb mk mu : Option Nat) (nk : Nat) (fk : Int → Option Value) (w : World) (hp : PlaceIs w (.agg #[.map mb]) 3 awBs) (h : TreeIs w (.agg #[.map mk, .map mu]) awNs mk mu nk fk) :
    Calls Tryz.prog 30 #[.agg #[.map mb], .agg #[.map mk, .map mu], .int .u32 1048578] w fun e w' => ∃ m f, e = .returned (.map (some m)) ∧ MapIs Tryz.prog 27 .u32 w' m 1 f ∧ f 1048578 = some (.agg #[.int .i64 1, .int .i64 1, .int .i64 2, .int .i64 2]) ∧ Below w.heap.size w w' := by
  refine (mates_any _ _ 3 awBs awNs mk mu nk fk 1048578 1048577 w (by decide) hp h aw_tree aw_up).mono ?_
  rintro e w' ⟨m, rfl, hm, _, hb⟩
  rw [aw_mn] at hm
  exact ⟨m, _, rfl, hm, by rfl, hb⟩
theorem aw_area (mb : Option Nat) (w : World) (hp : PlaceIs w (.agg #[.map mb]) 3 awBs) :
    Calls Tryz.prog 19 #[.agg #[.map mb], .int .u32 1048578] w fun e w' => ∃ A c, e = .returned (.agg #[.slice A 1 c]) ∧ RdR w' A 1 [⟨0, 0, 2, 2⟩] ∧ Below w.heap.size w w' := by
  refine (area_plain _ 3 awBs 1048578 bxB w (by decide) hp rfl rfl (by decide)).mono ?_
  rintro e w' ⟨out, A, c, rfl, hr, hc, hi, _, hb⟩
  have e0 : out = [⟨0, 0, 2, 2⟩] := canon_uniq hc (canon_one (by decide) (by decide)) fun x y => by
    rw [hi]
    unfold InR bxB
    simp only [List.mem_singleton]
    constructor
    · rintro ⟨⟨h1, h2⟩, h3, h4⟩
      exact ⟨_, rfl, by dsimp only; omega, by dsimp only; omega, by dsimp only; omega, by dsimp only; omega⟩
    · rintro ⟨r, rfl, h1, h2, h3, h4⟩
      dsimp only at h1 h2 h3 h4
      omega
  subst e0
  exact ⟨A, c, rfl, hr, hb⟩

end Go.Proofs.YtbfefkhejknmoaaGreatDoor
