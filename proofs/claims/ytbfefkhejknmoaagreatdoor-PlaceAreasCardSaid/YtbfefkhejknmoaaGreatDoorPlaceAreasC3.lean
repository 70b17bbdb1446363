/-
  Regions plainly: what Has tells, and how many places rectangles in a rectangle have.
  The walk of a region's Has.
  The walks of Meet and Within of regions, and of a place's Area where the window is shaped.
  delete on a map with raw elements, and the walk of a place's Drop.
  Windows that are dropped, plainly: the program's boxes and the document's list go side by side.
-/
import Derived.Test.YtbfefkhejknmoaaGreatDoorPlaceAreasC1
import Derived.Test.YtbfefkhejknmoaaGreatDoorCh5
import Derived.WalkMore
import Derived.Test.YtbfefkhejknmoaaGreatDoorPlaceAreasC2
import Derived.Test.YtbfefkhejknmoaaGreatDoorCh47
import Derived.Test.YtbfefkhejknmoaaGreatDoorCh10
import Derived.Test.YtbfefkhejknmoaaGreatDoorCh36
namespace Go.Proofs.YtbfefkhejknmoaaGreatDoor

/-- what Has does: the rectangles one by one, until one begins below the place. -/
def hasL : List RC → Int → Int → Bool
  | [], _, _ => false
  | r :: l, x, y => if y < r.Y then false else if r.Y + r.H ≤ y ∨ r.X + r.W ≤ x then hasL l x y else if r.X ≤ x then true else hasL l x y
theorem hasL_inB : ∀ {l : List RC}, Down l → ∀ x y, hasL l x y = inB l x y
  | [], _, _, _ => rfl
  | r :: l, h, x, y => by
    obtain ⟨h1, h2⟩ := h
    rw [List.pairwise_cons] at h1
    have hd : Down l := ⟨h1.2, fun s hs => h2 s (List.mem_cons_of_mem _ hs)⟩
    have hr := h2 r (by simp)
    have e : inB (r :: l) x y = ((hasX r x && hasY r y) || inB l x y) := by unfold inB; rw [List.any_cons]
    have hh : ∀ b, (hasX r x && hasY r y) = b ↔ (b = true ↔ (r.X ≤ x ∧ x < r.X + r.W) ∧ r.Y ≤ y ∧ y < r.Y + r.H) := fun b => by
      unfold hasX hasY
      cases b
      · simp only [Bool.and_eq_false_iff, decide_eq_false_iff_not, Bool.false_eq_true, false_iff]
        omega
      · simp only [Bool.and_eq_true, decide_eq_true_eq, true_iff]
    unfold hasL
    rw [e]
    by_cases hy : y < r.Y
    · rw [if_pos hy, (hh false).2 ⟨by simp, fun h => by omega⟩, Bool.false_or]
      symm
      rw [Bool.eq_false_iff, Ne, inB_iff]
      rintro ⟨s, hs, h3⟩
      rcases h1.1 s hs with h4 | h4 <;> omega
    rw [if_neg hy]
    by_cases h3 : r.Y + r.H ≤ y ∨ r.X + r.W ≤ x
    · rw [if_pos h3, (hh false).2 ⟨by simp, fun h => by omega⟩, Bool.false_or]
      exact hasL_inB hd x y
    rw [if_neg h3]
    by_cases h4 : r.X ≤ x
    · rw [if_pos h4, (hh true).2 ⟨fun _ => by omega, by simp⟩, Bool.true_or]
    · rw [if_neg h4, (hh false).2 ⟨by simp, fun h => by omega⟩, Bool.false_or]
      exact hasL_inB hd x y

def rowsI (f : Int → Int) : Nat → Int
  | 0 => 0
  | m + 1 => rowsI f m + f m
theorem rowsI_add (f g : Int → Int) : ∀ m, rowsI (fun y => f y + g y) m = rowsI f m + rowsI g m
  | 0 => rfl
  | m + 1 => by unfold rowsI; rw [rowsI_add f g m]; omega
theorem rowsI_le {f : Int → Int} {W : Int} (h : ∀ y, f y ≤ W) : ∀ m : Nat, rowsI f m ≤ m * W
  | 0 => by simp [rowsI]
  | m + 1 => by
    unfold rowsI
    have := rowsI_le h m
    have h2 := h m
    have e : ((m + 1 : Nat) : Int) * W = m * W + W := by rw [Int.natCast_add, Int.add_mul]; simp
    omega
theorem rowsI_zero : ∀ m, rowsI (fun _ => 0) m = 0
  | 0 => rfl
  | m + 1 => by unfold rowsI; rw [rowsI_zero m]; rfl
theorem rowsI_one (w : Int) {Y H : Int} (hY : 0 ≤ Y) (hH : 0 ≤ H) : ∀ m : Nat, rowsI (fun y => if Y ≤ y ∧ y < Y + H then w else 0) m = w * (min (m : Int) (Y + H) - min (m : Int) Y)
  | 0 => by
    rw [show min ((0 : Nat) : Int) (Y + H) - min ((0 : Nat) : Int) Y = 0 from by omega]
    simp [rowsI]
  | m + 1 => by
    unfold rowsI
    rw [rowsI_one w hY hH m]
    split
    · rw [show min ((m + 1 : Nat) : Int) (Y + H) - min ((m + 1 : Nat) : Int) Y = min (m : Int) (Y + H) - min (m : Int) Y + 1 from by omega, Int.mul_add]
      omega
    · rw [show min ((m + 1 : Nat) : Int) (Y + H) - min ((m + 1 : Nat) : Int) Y = min (m : Int) (Y + H) - min (m : Int) Y from by omega]
      omega
def rowW : List RC → Int → Int
  | [], _ => 0
  | r :: l, y => (if r.Y ≤ y ∧ y < r.Y + r.H then r.W else 0) + rowW l y
def sumW : List RC → Int
  | [] => 0
  | r :: l => r.W + sumW l
theorem rowW_row : ∀ (l : List RC) (y : Int), rowW l y = sumW (rowOf l y)
  | [], _ => rfl
  | r :: l, y => by
    unfold rowW
    rw [rowW_row l y]
    have e : rowOf (r :: l) y = if r.Y ≤ y ∧ y < r.Y + r.H then r :: rowOf l y else rowOf l y := by
      unfold rowOf
      rw [List.filter_cons]
      unfold hasY
      by_cases h : r.Y ≤ y ∧ y < r.Y + r.H
      · rw [if_pos h, if_pos (by simpa using h)]
      · rw [if_neg h, if_neg (by simpa using h)]
    rw [e]
    split
    · rfl
    · omega
theorem sumW_le {W : Int} : ∀ (p : List RC) (lo : Int), Right p → (∀ r ∈ p, lo ≤ r.X ∧ r.X + r.W ≤ W) → lo ≤ W → sumW p ≤ W - lo
  | [], lo, _, _, h => by unfold sumW; omega
  | r :: p, lo, h1, h2, _ => by
    obtain ⟨a, b⟩ := h1
    rw [List.pairwise_cons] at a
    have hr := h2 r (by simp)
    have := sumW_le p (r.X + r.W) ⟨a.2, fun s hs => b s (List.mem_cons_of_mem _ hs)⟩ (fun s hs => ⟨by have := a.1 s hs; omega, (h2 s (List.mem_cons_of_mem _ hs)).2⟩) hr.2
    unfold sumW
    omega
def areaS : List RC → Int
  | [] => 0
  | r :: l => r.W * r.H + areaS l
theorem areaL_go : ∀ (l : List RC) (k : Int), l.foldl (fun s r => s + r.W * r.H) k = k + areaS l
  | [], k => by simp [areaS]
  | r :: l, k => by rw [List.foldl_cons, areaL_go l, show areaS (r :: l) = r.W * r.H + areaS l from rfl]; omega
theorem areaL_S (l : List RC) : areaL l = areaS l := by unfold areaL; rw [areaL_go]; omega
theorem areaS_rows {m : Nat} : ∀ (l : List RC), (∀ r ∈ l, 0 ≤ r.Y ∧ 0 < r.H ∧ r.Y + r.H ≤ m) → areaS l = rowsI (rowW l) m
  | [], _ => (rowsI_zero m).symm
  | r :: l, h => by
    have hr := h r (by simp)
    have e : rowW (r :: l) = fun y => (if r.Y ≤ y ∧ y < r.Y + r.H then r.W else 0) + rowW l y := rfl
    rw [e, rowsI_add, rowsI_one _ hr.1 (by omega), ← areaS_rows l (fun s hs => h s (List.mem_cons_of_mem _ hs))]
    rw [show min (m : Int) (r.Y + r.H) - min (m : Int) r.Y = r.H from by omega]
    rfl
/-- rectangles in a rectangle have no more places than it. -/
theorem area_le {l : List RC} (h : Down l) {W H : Int} (hW : 0 ≤ W) (hH : 0 ≤ H) (hin : ∀ r ∈ l, (0 ≤ r.X ∧ r.X + r.W ≤ W) ∧ 0 ≤ r.Y ∧ r.Y + r.H ≤ H) : areaL l ≤ W * H := by
  obtain ⟨m, hm⟩ : ∃ m : Nat, H = (m : Int) := ⟨H.toNat, by omega⟩
  subst hm
  rw [areaL_S, areaS_rows (m := m) l (fun r hr => ⟨(hin r hr).2.1, (h.2 r hr).2, (hin r hr).2.2⟩), Int.mul_comm]
  refine rowsI_le (fun y => ?_) m
  rw [rowW_row]
  have := sumW_le (W := W) (rowOf l y) 0 (row_right h y) (fun r hr => (hin r (List.mem_filter.1 hr).1).1) hW
  omega
/-- rectangles whose places lie in a rectangle lie there. -/
theorem in_corners {l : List RC} (hpos : ∀ r ∈ l, 0 < r.W ∧ 0 < r.H) {W H : Int} (hin : ∀ x y, InR l x y → (0 ≤ x ∧ x < W) ∧ 0 ≤ y ∧ y < H) : ∀ r ∈ l, (0 ≤ r.X ∧ r.X + r.W ≤ W) ∧ 0 ≤ r.Y ∧ r.Y + r.H ≤ H := fun r hr => by
  have hp := hpos r hr
  have h1 := hin r.X r.Y ⟨r, hr, by omega, by omega, by omega, by omega⟩
  have h2 := hin (r.X + r.W - 1) (r.Y + r.H - 1) ⟨r, hr, by omega, by omega, by omega, by omega⟩
  omega

end Go.Proofs.YtbfefkhejknmoaaGreatDoor

namespace Go.Proofs.YtbfefkhejknmoaaGreatDoor
open Go.RowKit

theorem hasL_drop {l : List RC} {k : Nat} {r : RC} (h : l[k]? = some r) (x y : Int) : hasL (l.drop k) x y = if y < r.Y then false else if r.Y + r.H ≤ y ∨ r.X + r.W ≤ x then hasL (l.drop (k + 1)) x y else if r.X ≤ x then true else hasL (l.drop (k + 1)) x y := by
  obtain ⟨h1, h2⟩ := List.getElem?_eq_some_iff.1 h
  rw [List.drop_eq_getElem_cons h1, h2]
  rfl

set_option maxRecDepth 100000 in
set_option maxHeartbeats 2000000 in
theorem hasR_any (A : Option Addr) (n c : Nat) (l : List RC) (x y : Int) (w : World) (hn : n ≤ 1000000000000) (hr : RdR w A n l) (hc : ∀ r ∈ l, r.cnt = true) :
    Calls Tryz.prog 23 #[.agg #[.slice A n c], .int .i64 x, .int .i64 y] w fun e w' => e = .returned (.bool (hasL l x y)) ∧ Below w.heap.size w w' := by
  have HBZ := Lib.hid (bal (bre w) (.cells #[.slice A n c] 44))
  have HR := Lib.hid (hr.below HBZ.out)
  have HC := Lib.hid hc
  have HL := Lib.hid hr.1
  clear hr hc
  go_enter Tryz.func23, Tryz.ntmps23
  go_wp2_with fail
  obtain ⟨Z, hZ⟩ : ∃ Z, w.alloc (.cells #[.slice A n c] 44) = Z := ⟨_, rfl⟩
  have hb := HBZ.out
  have hr := HR.out
  have K3 := Lib.hid (Blk.new w 44 #[.slice A n c])
  have k3 := K3.out
  rw [hZ] at hb hr k3 ⊢
  replace HBZ := Lib.hid hb
  replace HR := Lib.hid hr
  have p0 := k3.cellV (i := 0) (v := .slice A n c) rfl
  clear hb hr k3 hZ
  go_step3
  go_wp2_with fail
  go_step3
  go_wp2_with fail
  clear p0
  go_loopw [7, 13] (fun f i wr => ∃ k : Nat, f = .bool false ∧ i = .int .i64 k ∧ k ≤ n ∧ hasL l x y = hasL (l.drop k) x y ∧ Below Z.heap.size Z wr) (fun _ i _ => n - (intOf i).toNat)
  case atStart => exact ⟨0, rfl, rfl, by omega, rfl, bre Z⟩
  case round =>
    obtain ⟨k, rfl, rfl, hk, hno, hB⟩ := hrel
    have HB := Lib.hid hB
    have HNO := Lib.hid hno
    by_cases hlt : k < n
    · obtain ⟨r, hx⟩ : ∃ r, l[k]? = some r := ⟨_, List.getElem?_eq_getElem (by have := HL.out; omega)⟩
      obtain ⟨b, off, rfl, hb, hcl⟩ := (HR.out.below hB).2 (by omega)
      obtain ⟨c0, c1, c2, c3⟩ := hcl k r hx
      obtain ⟨bX, bY⟩ := cntI r (HC.out r (List.mem_of_getElem? hx))
      have k1 : (k : Int) < (n : Int) := by omega
      have k0 : (0 : Int) ≤ (k : Int) := by omega
      have HD := Lib.hid (hasL_drop hx x y)
      clear hB hno hcl hx
      by_cases h1 : y < r.Y
      · have HV := Lib.hid (show hasL l x y = false by rw [HNO.out, HD.out, if_pos h1])
        go_wp2_with fail
        (try rw [Exit.noGoto_ret])
        go_ret
        exact ⟨by rw [HV.out]; rfl, bstep HBZ.out (bal HB.out _)⟩
      by_cases h2 : r.Y + r.H ≤ y
      · have HV := Lib.hid (show hasL l x y = hasL (l.drop (k + 1)) x y by rw [HNO.out, HD.out, if_neg h1, if_pos (.inl h2)])
        go_wp2_with fail
        go_roundw
        case rel => exact ⟨k + 1, rfl, by go_num, by omega, HV.out, bal HB.out _⟩
        case measure => simp [intOf]; omega
      by_cases h3 : r.X + r.W ≤ x
      · have HV := Lib.hid (show hasL l x y = hasL (l.drop (k + 1)) x y by rw [HNO.out, HD.out, if_neg h1, if_pos (.inr h3)])
        go_wp2_with fail
        go_roundw
        case rel => exact ⟨k + 1, rfl, by go_num, by omega, HV.out, bal HB.out _⟩
        case measure => simp [intOf]; omega
      by_cases h4 : r.X ≤ x
      · have HV := Lib.hid (show hasL l x y = true by rw [HNO.out, HD.out, if_neg h1, if_neg (fun h => h.elim h2 h3), if_pos h4])
        go_wp2_with fail
        (try rw [Exit.noGoto_ret])
        go_ret
        exact ⟨by rw [HV.out]; rfl, bstep HBZ.out (bal HB.out _)⟩
      · have HV := Lib.hid (show hasL l x y = hasL (l.drop (k + 1)) x y by rw [HNO.out, HD.out, if_neg h1, if_neg (fun h => h.elim h2 h3), if_neg h4])
        go_wp2_with fail
        go_roundw
        case rel => exact ⟨k + 1, rfl, by go_num, by omega, HV.out, bal HB.out _⟩
        case measure => simp [intOf]; omega
    · obtain rfl : k = n := by omega
      have ht : l.drop k = [] := List.drop_of_length_le (by rw [HL.out]; exact Nat.le_refl _)
      have HV := Lib.hid (show hasL l x y = false by rw [HNO.out, ht]; rfl)
      have k1 : ¬ (k : Int) < (k : Int) := by omega
      clear hB hno ht
      go_wp2_with fail
      (try rw [Exit.noGoto_ret])
      go_ret
      exact ⟨by rw [HV.out]; rfl, bstep HBZ.out HB.out⟩

end Go.Proofs.YtbfefkhejknmoaaGreatDoor

namespace Go.Proofs.YtbfefkhejknmoaaGreatDoor
open Go.RowKit Go.Maps Go.Shelf

theorem keepAnd : KeepFn 83 (fun a b => a && b) := by
  refine ⟨fun args W => by simp [go_sem], fun a b w => ?_⟩
  cases a <;> cases b
  all_goals
    go_enter Tryz.func83, Tryz.ntmps83
    go_wp2_with fail
    go_ret
    exact ⟨rfl, rfl⟩
theorem RegAt.farS {W : World} {v : Value} {l : List RC} (h : RegAt W v l) {g n c : Nat} {t : TypeId} {B : Option Addr} (hB : Blk W g t #[.slice B n c]) (u : Value) : RegAt (W.setCell ⟨g, 0, none⟩ u) v l := by
  obtain ⟨A, c1, e, hr, h2⟩ := h
  exact ⟨A, c1, e, rdR_farS hr hB u, h2⟩

set_option maxRecDepth 100000 in
set_option maxHeartbeats 4000000 in
theorem meet_any (v1 v2 : Value) (a b : List RC) (Y X : List Int) (w : World) (ha : RegAt w v1 a) (hb : RegAt w v2 b) (he : EdgeIn (a ++ b) Y X) (hYX : Y.length * X.length ≤ 100000) :
    Calls Tryz.prog 63 #[v1, v2] w fun e w' => EndJ w (fun a b => a && b) a b Y X e w' := by
  have HE := Lib.hid he
  have HA := Lib.hid ha
  have HBR := Lib.hid hb
  obtain ⟨A1, c1, rfl, _⟩ := ha
  obtain ⟨A2, c2, rfl, _⟩ := hb
  obtain ⟨n1, hn1⟩ : ∃ n1, a.length = n1 := ⟨_, rfl⟩
  obtain ⟨n2, hn2⟩ : ∃ n2, b.length = n2 := ⟨_, rfl⟩
  have ha := HA.out
  have hb := HBR.out
  rw [hn1] at ha ⊢
  rw [hn2] at hb ⊢
  have hba := bal (bal (bal (bre w) (.cells #[.slice A1 n1 c1] 44)) (.cells #[.slice A2 n2 c2] 44)) (.cells #[.slice none 0 0] 44)
  have xK4 := blk_newA (w.alloc (.cells #[.slice A1 n1 c1] 44)) (.cells #[.slice A2 n2 c2] 44) 44 #[.slice none 0 0]
  have xA := ha.below hba
  have xB := hb.below hba
  clear ha hb HA HBR he
  go_enter Tryz.func63, Tryz.ntmps63
  go_wp2_with fail
  obtain ⟨X3, hX3⟩ : ∃ X3, ((w.alloc (.cells #[.slice A1 n1 c1] 44)).alloc (.cells #[.slice A2 n2 c2] 44)).alloc (.cells #[.slice none 0 0] 44) = X3 := ⟨_, rfl⟩
  rw [hX3] at hba xK4 xA xB ⊢
  rw [World.size_alloc] at xK4
  have HBZ := Lib.hid hba
  have K4 := Lib.hid xK4
  have HA := Lib.hid xA
  have HBR := Lib.hid xB
  clear hba xK4 xA xB hX3
  refine (join_any 83 (fun a b => a && b) _ _ a b Y X _ keepAnd rfl HA.out HBR.out HE.out hYX).mono ?_
  rintro e w5 ⟨v, out, rfl, hro, hin, hed, hb5⟩
  have b5 := K4.out.belowS hb5
  have HB5 := Lib.hid (bstep HBZ.out hb5)
  have HRO := Lib.hid hro
  have HIN := Lib.hid hin
  have HED := Lib.hid hed
  obtain ⟨Ao, co, rfl, _⟩ := hro
  have q0 := b5.cellV (i := 0) (v := .slice none 0 0) rfl
  have f0 := b5.frozen 0
  have l5 := b5.lt
  have K5 := Lib.hid b5
  clear hb5 b5 hin hed
  go_wp2_with fail
  have hb9 := K5.out.set_ 0 (.slice Ao out.length co)
  have r0 := hb9.cellV (i := 0) (v := .slice Ao out.length co) rfl
  exact bodyPost_ret (v := .agg #[.slice Ao out.length co]) (by simp [results, Tryz.results63, go_sem, r0]) rfl ⟨_, out, rfl, HRO.out.farS K5.out _, HIN.out, HED.out, bset (p := ⟨w.heap.size + 1 + 1, 0, none⟩) HB5.out (by show w.heap.size ≤ w.heap.size + 1 + 1; omega) _⟩

theorem Tryz.sizeRg : (Tryz.prog.info? 44).map (·.size) = some 1 := by kernel_rfl
theorem blk_puts1 {w : World} {g : Nat} {t : TypeId} {a0 : Value} (b0 : Value) (h : Blk w g t #[a0]) : Blk (World.setCells w g 0 (#[b0] : Array Value).toList) g t #[b0] := h.set_ 0 b0
theorem regAt_one {w : World} {A : Option Addr} {c : Nat} {r : RC} {out : List RC} (hcn : r.cnt = true) (hr : RdR w A out.length out) (hc : Canon out) (hp : ∀ x y, InR out x y ↔ InR ([r].filter RC.cnt) x y) : out = [r] ∧ RegAt w (.agg #[.slice A out.length c]) [r] := by
  have hpos := (cnt_iff r).1 hcn
  have e1 : [r].filter RC.cnt = [r] := by simp [hcn]
  rw [e1] at hp
  have e2 : out = [r] := canon_uniq hc (canon_one (by omega) (by omega)) hp
  subst e2
  exact ⟨rfl, A, c, rfl, hr, hc, by simp, fun s hs => by rw [List.mem_singleton.1 hs]; exact hcn⟩

set_option maxRecDepth 100000 in
set_option maxHeartbeats 4000000 in
theorem within_any (v1 : Value) (a : List RC) (rx ry rw' rh : Int) (Y X : List Int) (w : World) (ha : RegAt w v1 a) (hcn : (⟨rx, ry, rw', rh⟩ : RC).cnt = true) (he : EdgeIn (a ++ [⟨rx, ry, rw', rh⟩]) Y X) (hYX : Y.length * X.length ≤ 100000) :
    Calls Tryz.prog 45 #[v1, .agg #[.int .i64 rx, .int .i64 ry, .int .i64 rw', .int .i64 rh]] w fun e w' => EndJ w (fun a b => a && b) a [⟨rx, ry, rw', rh⟩] Y X e w' := by
  have HE := Lib.hid he
  have HA := Lib.hid ha
  have HCN := Lib.hid hcn
  obtain ⟨A1, c1, rfl, _⟩ := ha
  obtain ⟨n1, hn1⟩ : ∃ n1, a.length = n1 := ⟨_, rfl⟩
  have ha := HA.out
  rw [hn1] at ha ⊢
  have hba := bal (bal (bal (bre w) (.cells #[.slice A1 n1 c1] 44)) (.cells #[.int .i64 rx, .int .i64 ry, .int .i64 rw', .int .i64 rh] 29)) (.cells #[.slice none 0 0] 44)
  have xK2 := ((Blk.new w 44 #[.slice A1 n1 c1]).alloc (.cells #[.int .i64 rx, .int .i64 ry, .int .i64 rw', .int .i64 rh] 29)).alloc (.cells #[.slice none 0 0] 44)
  have xK3 := (blk_newA w (.cells #[.slice A1 n1 c1] 44) 29 #[.int .i64 rx, .int .i64 ry, .int .i64 rw', .int .i64 rh]).alloc (.cells #[.slice none 0 0] 44)
  have xK4 := blk_newA (w.alloc (.cells #[.slice A1 n1 c1] 44)) (.cells #[.int .i64 rx, .int .i64 ry, .int .i64 rw', .int .i64 rh] 29) 44 #[.slice none 0 0]
  have xA := ha.below hba
  clear ha HA he hcn
  go_enter Tryz.func45, Tryz.ntmps45
  go_upto_region 1 with fail
  obtain ⟨X3, hX3⟩ : ∃ X3, ((w.alloc (.cells #[.slice A1 n1 c1] 44)).alloc (.cells #[.int .i64 rx, .int .i64 ry, .int .i64 rw', .int .i64 rh] 29)).alloc (.cells #[.slice none 0 0] 44) = X3 := ⟨_, rfl⟩
  rw [hX3] at hba xK2 xK3 xK4 xA ⊢
  rw [World.size_alloc] at xK4
  have HBZ := Lib.hid hba
  have K2 := Lib.hid xK2
  have K3 := Lib.hid xK3
  have K4 := Lib.hid xK4
  have HA := Lib.hid xA
  have HL4 := Lib.hid (show X3.heap.size = w.heap.size + 1 + 1 + 1 by rw [← hX3]; simp)
  clear hba xK2 xK3 xK4 xA hX3
  have HBW := Lib.hid (show Below X3.heap.size X3 X3.drew from (bre X3).drew)
  refine wp_region_noPanic ?_
  refine wp_region_held_drew (S := (fun w' => w'.cell? ⟨w.heap.size, 0, none⟩ = some (.slice A1 n1 c1) ∧ w'.cell? ⟨w.heap.size + 1, 0, none⟩ = some (.int .i64 rx) ∧ w'.cell? ⟨w.heap.size + 1, 1, none⟩ = some (.int .i64 ry) ∧ w'.cell? ⟨w.heap.size + 1, 2, none⟩ = some (.int .i64 rw') ∧ w'.cell? ⟨w.heap.size + 1, 3, none⟩ = some (.int .i64 rh))) (by kernel_rfl) ?_ (fun hHeld => ?_)
  · (try dsimp only)
    exact ⟨(K2.out.belowS HBW.out).cellV (i := 0) rfl, (K3.out.belowS HBW.out).cellV (i := 0) rfl, (K3.out.belowS HBW.out).cellV (i := 1) rfl, (K3.out.belowS HBW.out).cellV (i := 2) rfl, (K3.out.belowS HBW.out).cellV (i := 3) rfl⟩
  refine Tr.take_at 0 5 (.agg #[.slice A1 n1 c1]) rfl rfl (by kernel_rfl) (by kernel_rfl) (by kernel_rfl) (fun _ _ _ h => h) (Or.inl ⟨by rfl, ?_⟩) (by assumption) ?_
  · intro W0 hSw
    (try dsimp only at hSw)
    go_simp
  simp only [List.set_cons_zero, List.set_cons_succ]
  refine Tr.take_at 1 6 (.agg #[.int .i64 rx, .int .i64 ry, .int .i64 rw', .int .i64 rh]) rfl rfl (by kernel_rfl) (by kernel_rfl) (by kernel_rfl) (fun _ _ _ h => h) (Or.inl ⟨by rfl, ?_⟩) (by assumption) ?_
  · intro W0 hSw
    (try dsimp only at hSw)
    go_simp
  simp only [List.set_cons_zero, List.set_cons_succ]
  refine wpAnyH_ready (rs := [2]) (by kernel_rfl) (by simp) ?_
  refine AllReadyH.cons rfl (fun K hK => ?_) AllReadyH.nil
  go_simp
  have hbB := bal (bre X3.drew) (.cells #[.int .i64 rx, .int .i64 ry, .int .i64 rw', .int .i64 rh] 29)
  have HR7 := Lib.hid (rd_new4 X3.drew rx ry rw' rh 29)
  replace HBW := Lib.hid (bstep HBW.out hbB)
  clear hbB
  refine hK.out _ _ ?_ (fun hHeld => ?_)
  · (try dsimp only)
    exact ⟨(K2.out.belowS HBW.out).cellV (i := 0) rfl, (K3.out.belowS HBW.out).cellV (i := 0) rfl, (K3.out.belowS HBW.out).cellV (i := 1) rfl, (K3.out.belowS HBW.out).cellV (i := 2) rfl, (K3.out.belowS HBW.out).cellV (i := 3) rfl⟩
  clear hK K
  refine wpAnyH_ready (rs := [3]) (by kernel_rfl) (by simp) ?_
  refine AllReadyH.cons rfl (fun K hK => ?_) AllReadyH.nil
  go_simp
  refine (of_any _ 1 1 [⟨rx, ry, rw', rh⟩] _ (by omega) HR7.out (fun r hr => by rw [List.mem_singleton.1 hr]; have := (cnt_iff _).1 HCN.out; dsimp only at this ⊢; omega)).mono ?_
  rintro e wA ⟨o2, A2, c2, rfl, hr2, hc2, hp2, hl2, hbA⟩
  obtain ⟨rfl, hra⟩ := regAt_one (c := c2) HCN.out hr2 hc2 hp2
  have HRA := Lib.hid hra
  replace HBW := Lib.hid (bstep HBW.out hbA)
  clear hbA hr2 hc2 hp2 hl2 hra
  go_simp
  refine hK.out _ _ ?_ (fun hHeld => ?_)
  · (try dsimp only)
    exact ⟨(K2.out.belowS HBW.out).cellV (i := 0) rfl, (K3.out.belowS HBW.out).cellV (i := 0) rfl, (K3.out.belowS HBW.out).cellV (i := 1) rfl, (K3.out.belowS HBW.out).cellV (i := 2) rfl, (K3.out.belowS HBW.out).cellV (i := 3) rfl⟩
  clear hK K
  refine wpAnyH_ready (rs := [4]) (by kernel_rfl) (by simp) ?_
  refine AllReadyH.cons rfl (fun K hK => ?_) AllReadyH.nil
  go_simp
  refine (meet_any (.agg #[.slice A1 n1 c1]) _ a [⟨rx, ry, rw', rh⟩] Y X _ (HA.out.below HBW.out) HRA.out HE.out hYX).mono ?_
  rintro e wB ⟨v, out, rfl, hro, hin, hed, hbA⟩
  have HRO := Lib.hid hro
  have HIN := Lib.hid hin
  have HED := Lib.hid hed
  obtain ⟨Ao, co, rfl, _⟩ := hro
  replace HBW := Lib.hid (bstep HBW.out hbA)
  clear hbA hin hed
  go_simp
  refine hK.out _ _ ?_ (fun hHeld => ?_)
  · (try dsimp only)
    exact ⟨(K2.out.belowS HBW.out).cellV (i := 0) rfl, (K3.out.belowS HBW.out).cellV (i := 0) rfl, (K3.out.belowS HBW.out).cellV (i := 1) rfl, (K3.out.belowS HBW.out).cellV (i := 2) rfl, (K3.out.belowS HBW.out).cellV (i := 3) rfl⟩
  clear hK K
  have K5 := Lib.hid (K4.out.belowS HBW.out)
  have HB5 := Lib.hid (bstep HBZ.out HBW.out)
  refine wpAnyH_ready (rs := [5]) (by kernel_rfl) (by simp) ?_
  refine AllReadyH.cons rfl (fun K hK => ?_) AllReadyH.nil
  refine Tr.wanted_plain rfl ?_
  refine store_mid0 rfl 44 _ _ rfl (w.heap.size + 1 + 1) 0 #[.slice Ao out.length co] (by rfl) (by rfl) (by have h := there_blk K5.out; exact h) Tryz.sizeRg (by simp [Value.oneCell']) ?_
  have K9 := Lib.hid (blk_puts1 (.slice Ao out.length co) K5.out)
  have HRO9 := Lib.hid (show RegAt (World.setCells wB (w.heap.size + 1 + 1) 0 (#[.slice Ao out.length co] : Array Value).toList) (.agg #[.slice Ao out.length co]) out from HRO.out.farS K5.out _)
  have HB9 := Lib.hid (show Below w.heap.size w (World.setCells wB (w.heap.size + 1 + 1) 0 (#[.slice Ao out.length co] : Array Value).toList) from bset (p := ⟨w.heap.size + 1 + 1, 0, none⟩) HB5.out (by show w.heap.size ≤ w.heap.size + 1 + 1; omega) _)
  have K2' := Lib.hid ((K2.out.belowS HBW.out).far (p := ⟨w.heap.size + 1 + 1, 0, none⟩) (by show w.heap.size ≠ w.heap.size + 1 + 1; omega) (.slice Ao out.length co))
  have K3' := Lib.hid ((K3.out.belowS HBW.out).far (p := ⟨w.heap.size + 1 + 1, 0, none⟩) (by show _ ≠ _; simp) (.slice Ao out.length co))
  refine hK.out _ _ ?_ (fun hHeld => ?_)
  · (try dsimp only)
    exact ⟨K2'.out.cellV (i := 0) rfl, K3'.out.cellV (i := 0) rfl, K3'.out.cellV (i := 1) rfl, K3'.out.cellV (i := 2) rfl, K3'.out.cellV (i := 3) rfl⟩
  clear hK K
  refine wpAnyH_done (by kernel_rfl) ?_ _
  refine NoPanic.normal ?_
  go_wp2_with fail
  have r0 := K9.out.cellV (i := 0) (v := .slice Ao out.length co) rfl
  exact bodyPost_ret (v := .agg #[.slice Ao out.length co]) (by simp [results, Tryz.results45, go_sem, r0]) rfl ⟨_, out, rfl, HRO9.out, HIN.out, HED.out, HB9.out⟩
  
set_option maxRecDepth 100000 in
set_option maxHeartbeats 4000000 in
theorem area_shaped (pv : Value) (n : Nat) (bs : Bxs) (id : Int) (b : BX) (a : List RC) (Ys Xs : List Int) (w : World) (hid : 0 ≤ id ∧ id ≤ 4294967295) (hp : PlaceIs w pv n bs) (hb : bs id = some b) (hS : b.S = true) (hW : (1 ≤ b.W ∧ b.W ≤ 1000000) ∧ 1 ≤ b.H ∧ b.H ≤ 1000000)
    (ha : RegAt w (.agg #[.slice b.A b.n b.c]) a) (he : EdgeIn (a ++ [⟨0, 0, b.W, b.H⟩]) Ys Xs) (hYX : Ys.length * Xs.length ≤ 100000) :
    Calls Tryz.prog 19 #[pv, .int .u32 id] w fun e w' => EndJ w (fun a b => a && b) a [⟨0, 0, b.W, b.H⟩] Ys Xs e w' := by
  obtain ⟨mb, rfl, hm⟩ := hp
  obtain ⟨X, Y, W, H, M, G, B, S, A, sn, c⟩ := b
  dsimp only at hS hW ha he ⊢
  subst hS
  have HM := Lib.hid hm
  have HWF := Lib.hid (u32_wf hid)
  have HE := Lib.hid he
  have HCN := Lib.hid (show (⟨0, 0, W, H⟩ : RC).cnt = true from (cnt_iff _).2 (by dsimp only; omega))
  have HG := Lib.hid (show (bs.f id).getD zBX.v = .agg #[.int .i64 X, .int .i64 Y, .int .i64 W, .int .i64 H, .bool M, .int .i64 G, .int .i64 B, .bool true, .slice A sn c] from (bxv_getD (bs id)).trans (by rw [hb]; rfl))
  have HS := Lib.hid (show (bs.f id).isSome = true by simp [Bxs.f, hb])
  have HBE := Lib.hid (bal (bal (bal (bal (bre w) (.cells #[.map mb] 38)) (.cells #[.slice none 0 0] 44)) (.cells #[.int .i64 X, .int .i64 Y, .int .i64 W, .int .i64 H, .bool M, .int .i64 G, .int .i64 B, .bool true, .slice A sn c] 46)) (.cells #[.int .i64 0, .int .i64 0, .int .i64 W, .int .i64 H] 29))
  have H4 := Lib.hid (((blk_new2 w (.cells #[.map mb] 38) 44 #[.slice none 0 0]).alloc (.cells #[.int .i64 X, .int .i64 Y, .int .i64 W, .int .i64 H, .bool M, .int .i64 G, .int .i64 B, .bool true, .slice A sn c] 46)).alloc (.cells #[.int .i64 0, .int .i64 0, .int .i64 W, .int .i64 H] 29))
  have HA := Lib.hid (ha.below HBE.out)
  clear hm hb ha he
  go_enter Tryz.func19, Tryz.ntmps19
  go_wp2_with (at_lookup; refine opt_look_ok rfl _ _ 36 rfl 27 46 .u32 Tryz.underlying27 Tryz.underlying36 zBX.v (Tryz.zeroBox _) mb n bs.f rfl (HM.out.below (by repeat (first | exact bre _ | refine bal ?_ _))) id rfl HWF.out ?_; rw [HG.out, HS.out])
  obtain ⟨X4, hX4⟩ : ∃ X4, (((w.alloc (.cells #[.map mb] 38)).alloc (.cells #[.slice none 0 0] 44)).alloc (.cells #[.int .i64 X, .int .i64 Y, .int .i64 W, .int .i64 H, .bool M, .int .i64 G, .int .i64 B, .bool true, .slice A sn c] 46)).alloc (.cells #[.int .i64 0, .int .i64 0, .int .i64 W, .int .i64 H] 29) = X4 := ⟨_, rfl⟩
  have hbe := HBE.out
  have h4 := H4.out
  have hA := HA.out
  rw [hX4] at hbe h4 hA ⊢
  replace HBE := Lib.hid hbe
  replace H4 := Lib.hid h4
  replace HA := Lib.hid hA
  clear hbe h4 hA hX4
  refine (within_any _ a 0 0 W H Ys Xs _ HA.out HCN.out HE.out hYX).mono ?_
  rintro e w5 ⟨v, out, rfl, hro, hin, hed, hb5⟩
  have b5 := H4.out.belowS hb5
  have HB5 := Lib.hid (bstep HBE.out hb5)
  have HRO := Lib.hid hro
  have HIN := Lib.hid hin
  have HED := Lib.hid hed
  obtain ⟨Ao, co, rfl, _⟩ := hro
  have q0 := b5.cellV (i := 0) (v := .slice none 0 0) rfl
  have f0 := b5.frozen 0
  have l5 := b5.lt
  have K5 := Lib.hid b5
  clear hb5 b5 hin hed
  go_wp2_with fail
  have hb9 := K5.out.set_ 0 (.slice Ao out.length co)
  have r0 := hb9.cellV (i := 0) (v := .slice Ao out.length co) rfl
  exact bodyPost_ret (v := .agg #[.slice Ao out.length co]) (by simp [results, Tryz.results19, go_sem, r0]) rfl ⟨_, out, rfl, HRO.out.farS K5.out _, HIN.out, HED.out, bset (p := ⟨w.heap.size + 1, 0, none⟩) HB5.out (by show w.heap.size ≤ w.heap.size + 1; omega) _⟩

end Go.Proofs.YtbfefkhejknmoaaGreatDoor

namespace Go.Proofs.YtbfefkhejknmoaaGreatDoor
open Go.RowKit Go.Maps Go.Shelf

section
variable {P : Program} {k e t : TypeId} {q : IntKind} {w w' : World} {b n : Nat} {f : Int → Option Value}
theorem MapIs.del_of {D : DataW Value} {m : Nat} {i : Int} (K : Keyed P k) (hD : w.ownsMap P k rawR b m D) (hs : Maps.size D = n) (hh : ∀ i, Maps.has D (.int q i) = (f i).isSome) (ha : ∀ i v, f i = some v → ∀ z, D.atKey (.int q i) z = .held v)
    (hD' : w'.ownsMap P k rawR b m (D.del (.int q i))) : ∃ n', n' ≤ n ∧ MapIs P k q w' b n' (fun j => if j = i then none else f j) := by
  have hT := hD.tidy K
  have hsz := size_del (k := .int q i) hT
  refine ⟨Maps.size (D.del (.int q i)), by omega, D.del (.int q i), ?_, rfl, fun j => ?_, fun j u hj z => ?_⟩
  · obtain ⟨es, clock, h1, h2, h3, h4⟩ := hD'
    refine ⟨es, clock, h1, h2, ?_, h4⟩
    have := length_read (P := P) (k := k) (R0 := rawR) es
    rw [h4, size_eq, this]
    exact Nat.le_refl _
  · by_cases hj : j = i
    · subst hj
      rw [has_del_same]
      simp
    · rw [has_del_other (by intro e; injection e with _ e; exact hj e), hh]
      simp [hj]
  · by_cases hj' : j = i
    · simp [hj'] at hj
    · simp [hj'] at hj
      rw [atKey_del_other (by intro e; injection e with _ e; exact hj' e)]
      exact ha j u hj z
variable {ops : Array Oper} {rest : List Oper} {o : Oper} {a : Act} {Q : Exit → Act → World → Prop}
/-- 'delete(m, i)', the map nil or not. -/
theorem opt_del (hg : o.guard = none) (m x : Operand) (t k : TypeId) (hop : o.op = Op.call { callee := Callee.builtin Builtin.delete, args := #[m, x], argTypes := #[t, k] }) (e : TypeId) (q : IntKind) (hk : P.underlying k = some (.int q)) (ht : P.underlying t = some (.map k e))
    (mb : Option Nat) (n : Nat) (f : Int → Option Value) (hm : a.eval m = .map mb) (h : MapOpt P k q w mb n f) (i : Int) (hx : a.eval x = .int q i) (hwf : (Lit.int q i).wf = true)
    (hK : ∀ w' n', n' ≤ n → MapOpt P k q w' mb n' (fun j => if j = i then none else f j) → w.grownBy w' mb → wpList P ops Q rest (a.put o.dst (.tuple #[])) w') : wpList P ops Q (o :: rest) a w := by
  rcases h with ⟨rfl, rfl, hf⟩ | ⟨b, rfl, h⟩
  · refine wpList_plain hg fun K' hK' => ?_
    have hrun := Maps.drop_nil (w := w) (int_keyed hk) ht (keyOf_int_mk hk hwf) o.type
    unfold Oper.wp
    simp [execOp, hop, resolve, invoke, builtin, hm, hx, hrun, Result.andThen]
    exact hK' _ _ (hK w 0 (Nat.le_refl _) (.inl ⟨rfl, rfl, fun j => by dsimp only; split; rfl; exact hf j⟩) ⟨rfl, rfl, rfl, Nat.le_refl _, fun _ _ _ => rfl⟩)
  · obtain ⟨D, hD, hs, hh, ha⟩ := h
    refine wpList_delete_own w hg m x t k hop e (int_keyed hk) ht rawR b n D hm hD _ (.int q i) hx (keyOf_int_mk hk hwf) (fun w' h1 h2 => ?_)
    obtain ⟨n', hn', hm'⟩ := MapIs.del_of (int_keyed hk) hD hs hh ha h1
    exact hK w' n' hn' (.inr ⟨b, rfl, hm'⟩) h2.grown
end

theorem ptwin_opt (mb : Option Nat) (n : Nat) (bs : Bxs) (w : World) (h : MapOpt Tryz.prog 27 .u32 w mb n bs.f) :
    Calls Tryz.prog 40 #[.agg #[.map mb]] w fun e w' => ∃ mb', e = .returned (.agg #[.map mb']) ∧ (∀ b, mb' = some b → w.heap.size ≤ b) ∧ MapOpt Tryz.prog 27 .u32 w' mb' n bs.f ∧ Below w.heap.size w w' := by
  rcases h with ⟨rfl, rfl, hf⟩ | ⟨b, rfl, h⟩
  · have HF := Lib.hid hf
    have bres := blk_new2 w (.cells #[.map none] 38) 38 #[.map none]
    have HBR := Lib.hid bres
    have r0 := bres.cellV (i := 0) (v := .map none) rfl
    have rf := bres.frozen 0
    have rl := bres.lt
    clear hf bres
    go_enter Tryz.func40, Tryz.ntmps40
    go_wp2_with (go_at_call 60; refine (AnyW.maps_Clone_nil Tryz.cloneBoxes _).mono ?_; rintro e w1 ⟨rfl, rfl⟩)
    have hr := (HBR.out.set_ 0 (.map none)).cellV (i := 0) (v := .map none) rfl
    exact bodyPost_ret (v := .agg #[.map none]) (by simp [results, Tryz.results40, go_sem, hr]) rfl ⟨_, rfl, (fun b e => by cases e), .inl ⟨rfl, rfl, HF.out⟩, bal (bal (bre w) _) _⟩
  · refine (ptwin_any b n bs w h).mono ?_
    rintro e w' ⟨b', rfl, hb, hm, hB⟩
    exact ⟨_, rfl, (fun c e => by cases e; exact hb), .inr ⟨b', rfl, hm⟩, hB⟩

/-- boxes without those of some windows; the root's stays. -/
def dropBs (bs : Bxs) (ids : List Int) : Bxs := fun i => if i ∈ ids ∧ i ≠ 1 then none else bs i
theorem dropBs_snoc (bs : Bxs) (ids : List Int) (x : Int) : (dropBs bs (ids ++ [x])).f = if x = 1 then (dropBs bs ids).f else fun j => if j = x then none else (dropBs bs ids).f j := by
  funext j
  unfold Bxs.f dropBs
  by_cases hx : x = 1
  · subst hx
    rw [if_pos rfl]
    by_cases hj : j = 1
    · subst hj; simp
    · simp [hj]
  · rw [if_neg hx]
    by_cases hj : j = x
    · subst hj; simp [hx]
    · simp [hj]

set_option maxRecDepth 100000 in
set_option maxHeartbeats 2000000 in
theorem pdrop_any (pv : Value) (n : Nat) (bs : Bxs) (A : Option Addr) (m c : Nat) (ids : List Int) (w : World) (hp : PlaceIs w pv n bs) (hr : Rd w A m (U32 ids)) (hids : ∀ i ∈ ids, 0 ≤ i ∧ i ≤ 4294967295) (hmx : m ≤ maxLen) :
    Calls Tryz.prog 27 #[pv, .slice A m c] w fun e w' => ∃ pv' n', e = .returned pv' ∧ PlaceIs w' pv' n' (dropBs bs ids) ∧ n' ≤ n ∧ Below w.heap.size w w' := by
  obtain ⟨mb, rfl, hm⟩ := hp
  have HM := Lib.hid hm
  have HR := Lib.hid hr
  have HI := Lib.hid hids
  have hm0 := hmx
  unfold maxLen at hm0
  have HMX := Lib.hid hmx
  have HBE := Lib.hid (bal (bal (bre w) (.cells #[.map mb] 38)) (.cells #[.map none] 38))
  have H4 := Lib.hid (blk_new2 w (.cells #[.map mb] 38) 38 #[.map none])
  clear hm hr hids hmx
  go_enter Tryz.func27, Tryz.ntmps27
  go_wp2_with fail
  with_reducible refine (ptwin_opt mb n bs _ (HM.out.below HBE.out)).mono ?_
  rintro e w1 ⟨mb', rfl, hfr, hm1, hb1⟩
  have b4 := H4.out.belowS hb1
  have f4 := b4.frozen 0
  have q4 := b4.cellV (i := 0) (v := .map none) rfl
  have l4 := b4.lt
  have HB1 := Lib.hid (bstep HBE.out hb1)
  have K4 := Lib.hid b4
  have HFR := Lib.hid hfr
  have hlt1 : ∀ b, mb' = some b → b < w1.heap.size := fun b e => by
    rcases hm1 with ⟨e', _⟩ | ⟨b', e', h⟩
    · rw [e'] at e; cases e
    · rw [e'] at e; cases e; exact h.lt
  have HLT := Lib.hid hlt1
  have HM1 := Lib.hid hm1
  clear hb1 b4 hfr hm1 hlt1
  go_wp2_with fail
  have hK5 := Blk.new w1 38 #[.map mb']
  have hK4 := K4.out.alloc (.cells #[.map mb'] 38)
  have hBX := bal HB1.out (.cells #[.map mb'] 38)
  have hMX := HM1.out.below (bal (bre w1) (.cells #[.map mb'] 38))
  have hsX : (w1.alloc (.cells #[.map mb'] 38)).heap.size = w1.heap.size + 1 := World.size_alloc _ _
  obtain ⟨X, hX⟩ : ∃ X, w1.alloc (.cells #[.map mb'] 38) = X := ⟨_, rfl⟩
  rw [hX] at hK5 hK4 hBX hMX hsX ⊢
  have HK5 := Lib.hid hK5
  have HK4 := Lib.hid hK4
  have HBX := Lib.hid hBX
  have HMX' := Lib.hid hMX
  clear hK5 hK4 hBX hMX hX q4 f4 hsX
  go_loopw [12, 7] (fun i _ wr => ∃ (k n2 : Nat), i = .int .i64 k ∧ k ≤ m ∧ n2 ≤ n ∧ MapOpt Tryz.prog 27 .u32 wr mb' n2 (dropBs bs (ids.take k)).f ∧ X.grownBy wr mb') (fun i _ _ => m - (intOf i).toNat)
  case atStart => exact ⟨0, n, rfl, by omega, Nat.le_refl _, by rw [List.take_zero, show dropBs bs [] = bs by funext j; simp [dropBs]]; exact HMX'.out, ⟨rfl, rfl, rfl, Nat.le_refl _, fun _ _ _ => rfl⟩⟩
  case round =>
    obtain ⟨k, n2, rfl, hk, hn2, hmr, hgr⟩ := hrel
    have HMR := Lib.hid hmr
    have HGR := Lib.hid hgr
    have ne4 : some (w.heap.size + 1) ≠ mb' := fun e => by have := HFR.out _ e.symm; simp at this; omega
    have ne5 : some w1.heap.size ≠ mb' := fun e => by have := HLT.out _ e.symm; omega
    have b4 := HK4.out.grown hgr ne4
    have b5 := HK5.out.grown hgr ne5
    have B4 := Lib.hid b4
    have hbw := HBX.out.grown hgr HBX.out.size (fun b e => by have := HFR.out _ e; simp at this; omega)
    have HBW := Lib.hid hbw
    have q5 := b5.cellV (i := 0) (v := .map mb') rfl
    have f4 := b4.frozen 0
    have q4 := b4.cellV (i := 0) (v := .map none) rfl
    have l4' := b4.lt
    clear hmr hgr ne4 ne5 b4 b5 hbw
    by_cases hlt : k < m
    · obtain ⟨x, hx⟩ : ∃ x, ids[k]? = some x := ⟨_, List.getElem?_eq_getElem (by have := HR.out.1; simp [U32] at this; omega)⟩
      have hxb := HI.out x (List.mem_of_getElem? hx)
      have HWF := Lib.hid (u32_wf hxb)
      obtain ⟨b, off, rfl, hbl, hcl⟩ := (HR.out.below HBW.out).2 (by omega)
      have hcell := hcl k _ (U32_at hx)
      have k1 : (k : Int) < (m : Int) := by omega
      have k0 : (0 : Int) ≤ (k : Int) := by omega
      have HTK := Lib.hid (show ids.take (k + 1) = ids.take k ++ [x] by rw [List.take_add_one, hx]; rfl)
      clear hx hcl
      by_cases hx1 : x = 1
      · have d1 : (x != 1) = false := by simp [hx1]
        have HX1 := Lib.hid hx1
        clear hx1
        go_wp2_with fail
        go_roundw
        case rel => exact ⟨k + 1, n2, by go_num, by omega, hn2, by rw [HTK.out, dropBs_snoc, if_pos HX1.out]; exact HMR.out, HGR.out⟩
        case measure => simp [intOf]; omega
      · have d1 : (x != 1) = true := by simp [hx1]
        have HX1 := Lib.hid hx1
        clear hx1
        go_wp2_with (at_delete; refine opt_del rfl _ _ 36 27 rfl 46 .u32 Tryz.underlying27 Tryz.underlying36 mb' n2 _ rfl HMR.out x rfl HWF.out ?_; intro w5 n3 hn3 hm5 hg5; have HM5 := Lib.hid hm5; have HG5 := Lib.hid hg5; clear hm5 hg5)
        go_roundw
        case rel => exact ⟨k + 1, n3, by go_num, by omega, by omega, by rw [HTK.out, dropBs_snoc, if_neg HX1.out]; exact HM5.out, HGR.out.andThen HG5.out (fun j hj => .inr hj)⟩
        case measure => simp [intOf]; omega
    · obtain rfl : k = m := by omega
      have k1 : ¬ (k : Int) < (k : Int) := by omega
      have ht : ids.take k = ids := List.take_of_length_le (by have := HR.out.1; simp [U32] at this; omega)
      have HT := Lib.hid ht
      clear ht
      go_wp2_with fail
      have hb9 := B4.out.set_ 0 (.map mb')
      have r0 := hb9.cellV (i := 0) (v := .map mb') rfl
      refine bodyPost_ret (v := .agg #[.map mb']) (by simp [results, Tryz.results27, go_sem, r0]) rfl ⟨.agg #[.map mb'], rfl, n2, ⟨mb', rfl, ?_⟩, hn2, bset (p := ⟨w.heap.size + 1, 0, none⟩) HBW.out (by show w.heap.size ≤ w.heap.size + 1; omega) _⟩
      have := HMR.out
      rw [HT.out] at this
      exact this.kept (grown_setCell _ ⟨w.heap.size + 1, 0, none⟩ _) (fun b e => by have := HFR.out _ e; simp at this; intro e'; have e2 := Option.some.inj e'; dsimp only at e2; omega)

end Go.Proofs.YtbfefkhejknmoaaGreatDoor

namespace Go.Proofs.YtbfefkhejknmoaaGreatDoor

/-- the list without a window's box, but the root's. -/
def dropD (l : List DB) (id : Int) : List DB := l.filter fun d => decide (d.id ≠ id ∨ id = 1)
def dropsD (l : List DB) (ids : List Int) : List DB := ids.foldl dropD l
theorem mem_dropD {l : List DB} {id : Int} {d : DB} : d ∈ dropD l id ↔ d ∈ l ∧ (d.id ≠ id ∨ id = 1) := by
  unfold dropD
  rw [List.mem_filter, decide_eq_true_eq]
theorem mem_dropsD : ∀ (ids : List Int) (l : List DB) (d : DB), d ∈ dropsD l ids ↔ d ∈ l ∧ ∀ i ∈ ids, d.id ≠ i ∨ i = 1
  | [], l, d => by simp [dropsD]
  | i :: ids, l, d => by
    show d ∈ dropsD (dropD l i) ids ↔ _
    rw [mem_dropsD ids, mem_dropD]
    constructor
    · rintro ⟨⟨h1, h2⟩, h3⟩
      exact ⟨h1, fun j hj => by
        rcases List.mem_cons.1 hj with rfl | hj
        · exact h2
        · exact h3 j hj⟩
    · rintro ⟨h1, h2⟩
      exact ⟨⟨h1, h2 i (by simp)⟩, fun j hj => h2 j (List.mem_cons_of_mem _ hj)⟩
theorem dropD_len (l : List DB) (id : Int) : (dropD l id).length ≤ l.length := List.length_filter_le _ _
theorem dropsD_len : ∀ (ids : List Int) (l : List DB), (dropsD l ids).length ≤ l.length
  | [], _ => Nat.le_refl _
  | i :: ids, l => Nat.le_trans (dropsD_len ids (dropD l i)) (dropD_len l i)
theorem dropsD_snoc (l : List DB) (ids : List Int) (i : Int) : dropsD l (ids ++ [i]) = dropD (dropsD l ids) i := by simp [dropsD]
theorem dropD_take (l : List DB) (id : Int) {k : Nat} {d : DB} (h : l[k]? = some d) : dropD (l.take (k + 1)) id = if d.id ≠ id ∨ id = 1 then dropD (l.take k) id ++ [d] else dropD (l.take k) id := by
  unfold dropD
  rw [List.take_add_one, h, Option.toList_some, List.filter_append]
  by_cases e : d.id ≠ id ∨ id = 1
  · rw [if_pos e]; simp [e]
  · rw [if_neg e]; simp [e]
theorem mem_setL {l : List DB} {d x : DB} (h : x ∈ setL l d) : x ∈ l ∨ x = d := by
  unfold setL at h
  split at h
  · split at h
    · exact List.mem_or_eq_of_mem_set h
    · rcases List.mem_append.1 h with h | h
      · exact .inl h
      · exact .inr (by simpa using h)
  · exact .inl h
theorem mem_foldL {x : DB} : ∀ (L l : List DB), x ∈ L.foldl setL l → x ∈ l ∨ x ∈ L
  | [], _, h => .inl h
  | d :: L, l, h => by
    rcases mem_foldL L (setL l d) h with h | h
    · rcases mem_setL h with h | h
      · exact .inl h
      · exact .inr (by rw [h]; simp)
    · exact .inr (List.mem_cons_of_mem _ h)
/-- boxes and a list that have the same. -/
structure RelI (sm : BX → DB → Prop) (bs : Bxs) (l : List DB) : Prop where
  has : ∀ d ∈ l, ∃ b, bs d.id = some b ∧ sm b d
  non : ∀ i, (∀ d ∈ l, d.id ≠ i) → bs i = none
section
variable {sm sm' : BX → DB → Prop} {bs : Bxs} {n : Nat} {l : List DB}
theorem RelB.toI (h : RelB sm bs n l) : RelI sm bs l := ⟨h.has, h.non⟩
theorem RelI.mono (h : RelI sm bs l) (hs : ∀ b d, sm b d → sm' b d) : RelI sm' bs l :=
  ⟨fun d hd => by
    obtain ⟨b, hb, hsm⟩ := h.has d hd
    exact ⟨b, hb, hs b d hsm⟩, h.non⟩
theorem RelI.find (h : RelI sm bs l) (i : Int) : ((findD l i 0 < 0) ∧ (bs i).isSome = false) ∨ ((0 ≤ findD l i 0) ∧ (bs i).isSome = true) := by
  by_cases e : ∃ d ∈ l, d.id = i
  · right
    obtain ⟨m, h1, d, h2, h3⟩ := findD_yes (k := 0) e
    obtain ⟨d0, hd0, e0⟩ := e
    obtain ⟨b, hb, _⟩ := h.has d0 hd0
    rw [e0] at hb
    exact ⟨by omega, by rw [hb]; rfl⟩
  · left
    have e' : ∀ d ∈ l, d.id ≠ i := fun d hd he => e ⟨d, hd, he⟩
    exact ⟨by rw [findD_no (by omega) e']; decide, by rw [h.non i e']; rfl⟩
theorem RelI.drops (h : RelI sm bs l) (ids : List Int) : RelI sm (dropBs bs ids) (dropsD l ids) := by
  refine ⟨fun d hd => ?_, fun i hi => ?_⟩
  · obtain ⟨h1, h2⟩ := (mem_dropsD ids l d).1 hd
    obtain ⟨b, hb, hs⟩ := h.has d h1
    refine ⟨b, ?_, hs⟩
    unfold dropBs
    rw [if_neg (fun e => ?_)]
    · exact hb
    · rcases h2 d.id e.1 with e' | e'
      · exact e' rfl
      · exact e.2 e'
  · unfold dropBs
    by_cases e : i ∈ ids ∧ i ≠ 1
    · rw [if_pos e]
    · rw [if_neg e]
      refine h.non i (fun d hd he => hi d ((mem_dropsD ids l d).2 ⟨hd, fun j hj => ?_⟩) he)
      by_cases e1 : d.id = j
      · right
        refine Classical.byContradiction fun e2 => e ⟨?_, ?_⟩
        · rw [← he, e1]; exact hj
        · rw [← he, e1]; exact e2
      · exact .inl e1
end

end Go.Proofs.YtbfefkhejknmoaaGreatDoor
