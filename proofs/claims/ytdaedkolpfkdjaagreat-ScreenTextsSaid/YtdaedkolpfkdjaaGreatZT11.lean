/-
  Parts of slices of rectangles that lie in variables; the walks of region.across and of walk.row.
  The walk of walk.row: a region's rectangles that cross a row, rows asked from above.
  Regions joined, plainly: the cells that a rule keeps have just the places that it keeps.
-/
import Derived.Test.YtdaedkolpfkdjaaGreatZT06
import Derived.Test.YtdaedkolpfkdjaaGreatZT09
section
namespace Go.Proofs.YtdaedkolpfkdjaaGreat
open Go.RowKit

theorem RdR.grownSlice {W W' : World} {A B : Option Addr} {n m c g : Nat} {t : TypeId} {rs : List RC} (h : RdR W A n rs) (hB : Blk W g t #[.slice B m c]) (hg : W.grownBy W' (some g)) : RdR W' A n rs :=
  ⟨h.1, fun hn => by
    obtain ⟨b, off, e, hb, hc⟩ := h.2 hn
    have hne : b ≠ g := fun e' => by
      subst e'
      obtain ⟨r, hr'⟩ : ∃ r, rs[0]? = some r := ⟨_, List.getElem?_eq_getElem (by rw [h.1]; exact hn)⟩
      obtain ⟨c0, _⟩ := hc 0 r hr'
      rw [hB.cell] at c0
      cases hoff : off + 0 * 4 with
      | zero => rw [hoff] at c0; simp at c0
      | succ k => rw [hoff] at c0; simp at c0
    have hk : ∀ o v, W.cell? ⟨b, o, none⟩ = some v → W'.cell? ⟨b, o, none⟩ = some v := fun o v hv => by
      have h1 := hg.block b hb (fun e => hne (Option.some.inj e))
      have : W'.cell? ⟨b, o, none⟩ = W.cell? ⟨b, o, none⟩ := by simp only [World.cell?, h1]
      rw [this]; exact hv
    exact ⟨b, off, e, Nat.lt_of_lt_of_le hb hg.size, fun i r hi => by
      obtain ⟨c0, c1, c2, c3⟩ := hc i r hi
      exact ⟨hk _ _ c0, hk _ _ c1, hk _ _ c2, hk _ _ c3⟩⟩⟩

theorem cntI (r : RC) (h : r.cnt = true) : (-1048576 ≤ r.X ∧ 0 < r.W ∧ r.X + r.W ≤ 1048576) ∧ (-1048576 ≤ r.Y ∧ 0 < r.H ∧ r.Y + r.H ≤ 1048576) := by
  unfold RC.cnt at h
  rw [Bool.and_eq_true, fits_iff, fits_iff] at h
  omega
/-- a variable holds a slice that reads as these rectangles. -/
def RowAt (B : Nat) (w : World) (g : Nat) (t : TypeId) (l : List RC) : Prop := ∃ A c, Blk w g t #[.slice A l.length c] ∧ RdR w A l.length l ∧ l.length ≤ c ∧ c ≤ maxLen ∧ (0 < l.length → ∀ a, A = some a → a.block < B)
theorem RowAt.below {B : Nat} {w w' : World} {g : Nat} {t : TypeId} {l : List RC} (h : RowAt B w g t l) (hb : Below w.heap.size w w') : RowAt B w' g t l := by
  obtain ⟨A, c, h1, h2, h3⟩ := h
  exact ⟨A, c, h1.belowS hb, h2.below hb, h3⟩
theorem RowAt.other {B B2 : Nat} {w w' : World} {g g2 : Nat} {t t2 : TypeId} {l l2 : List RC} (h : RowAt B w g t l) (h2 : RowAt B2 w g2 t2 l2) (hne : g ≠ g2) (hg : w.grownBy w' (some g2)) : RowAt B w' g t l := by
  obtain ⟨A, c, h1, h3, h4⟩ := h
  obtain ⟨A2, c2, k1, _⟩ := h2
  exact ⟨A, c, h1.grown hg (fun e => hne (Option.some.inj e)), h3.grownSlice k1 hg, h4⟩

theorem Tryz.sizeRc (w : World) : (Go.sizeOf 103).run Tryz.prog w = .ok 4 w := by kernel_rfl
/-- where a slice begins without its first rectangle. -/
def nxA (b off c : Nat) : Addr := if c = 1 then ⟨b, off, none⟩ else ⟨b, off + 4, none⟩
theorem run_cut_one (W : World) (b off n c : Nat) (h : 1 ≤ n) (_hn : n ≤ c) :
    (Instr.slice 31 (.slice (some ⟨b, off, none⟩) n c) (some (.int .i64 1)) none none).run Tryz.prog W = .ok (.slice (some (nxA b off c)) (n - 1) (c - 1)) W := by
  have ht' : Tryz.prog.underlying 31 = some (.slice (Tryz.prog.elem 31)) := by simp [Program.elem, Tryz.underlying31]
  have he : Tryz.prog.elem 31 = 103 := by simp [Program.elem, Tryz.underlying31]
  rw [run_slice_l W _ _ _ _ ht' .i64 _ (by omega) (by omega), he, Tryz.sizeRc]
  unfold nxA
  by_cases hne : c = 1
  · simp [Result.andThen, sliced, hne]
  · simp [Result.andThen, sliced, Addr.add, hne]
theorem run_cut_to (W : World) (A : Option Addr) (n c h : Nat) (hh : h ≤ c) :
    (Instr.slice 31 (.slice A n c) none (some (.int .i64 (h : Int))) none).run Tryz.prog W = .ok (.slice A h c) W := by
  have ht' : Tryz.prog.underlying 31 = some (.slice (Tryz.prog.elem 31)) := by simp [Program.elem, Tryz.underlying31]
  have he : Tryz.prog.elem 31 = 103 := by simp [Program.elem, Tryz.underlying31]
  rw [run_slice_h W _ _ _ _ ht' .i64 _ (by omega) (by omega), he, Tryz.sizeRc]
  cases c <;> cases A <;> simp [Result.andThen, sliced, Addr.add]
theorem RdR.tail {w : World} {b off n c : Nat} {r : RC} {l : List RC} (h : RdR w (some ⟨b, off, none⟩) (n + 1) (r :: l)) (hc : n + 1 ≤ c) : RdR w (some (nxA b off c)) n l := by
  refine ⟨by have := h.1; simpa using this, fun hn => ?_⟩
  obtain ⟨b', off', e, hb, hcl⟩ := h.2 (by omega)
  cases e
  refine ⟨b, off + 4, by unfold nxA; rw [if_neg (by omega)], hb, fun k r' hk => ?_⟩
  have := hcl (k + 1) r' (by simpa using hk)
  rwa [show off + (k + 1) * 4 = off + 4 + k * 4 from by omega] at this
theorem RdR.pre {w : World} {A : Option Addr} {n m : Nat} {l : List RC} (h : RdR w A n l) (hm : m ≤ n) : RdR w A m (l.take m) := by
  refine ⟨by rw [List.length_take, h.1]; omega, fun hn => ?_⟩
  obtain ⟨b, off, e, hb, hcl⟩ := h.2 (by omega)
  refine ⟨b, off, e, hb, fun k r' hk => hcl k r' ?_⟩
  rw [List.getElem?_take] at hk
  split at hk
  · exact hk
  · cases hk
/-- how long the slice is that a variable holds. -/
def lenAt (w : World) (g : Nat) : Nat := match w.cell? ⟨g, 0, none⟩ with | some (.slice _ n _) => n | _ => 0
theorem RowAt.len {B : Nat} {w : World} {g : Nat} {t : TypeId} {l : List RC} (h : RowAt B w g t l) : lenAt w g = l.length := by
  obtain ⟨A, c, h1, _⟩ := h
  unfold lenAt
  rw [h1.cell]
  rfl
theorem RowAt.drewN {B : Nat} {w : World} {g : Nat} {t : TypeId} {l : List RC} (h : RowAt B w g t l) (q : Nat) : RowAt B (w.drewN q) g t l := h.below (below_drewN (bre w) q)
theorem grown_drewN {w w' : World} {row : Option Nat} (h : w.grownBy w' row) (q : Nat) : w.grownBy (w'.drewN q) row := ⟨h.os, h.tape, h.output, h.size, h.block⟩

/-- the first one of a row's rectangles: does it have the column? -/
def headX (p : List RC) (x : Int) : Bool := match p with | [] => false | r :: _ => decide (r.X ≤ x)
/-- what is left of them where columns are asked from the left. -/
def dropX (p : List RC) (x : Int) : List RC := p.dropWhile (fun r => decide (r.X + r.W ≤ x))
def dropY (p : List RC) (y : Int) : List RC := p.dropWhile (fun r => decide (r.Y + r.H ≤ y))
def EndA (B : Nat) (w : World) (g : Nat) (p : List RC) (x : Int) (e : Ending) (w' : World) : Prop := e = .returned (.bool (headX (dropX p x) x)) ∧ RowAt B w' g 31 (dropX p x) ∧ w.grownBy w' (some g)

theorem RowAt.cut {B : Nat} {w : World} {g : Nat} {t : TypeId} {b off n c : Nat} {r : RC} {l : List RC} (hk : Blk w g t #[.slice (some ⟨b, off, none⟩) n c]) (hr : RdR w (some ⟨b, off, none⟩) n (r :: l)) (hc : n ≤ c) (hm : c ≤ maxLen) (hbb : b < B) :
    RowAt B (w.setCell ⟨g, 0, none⟩ (.slice (some (nxA b off c)) (n - 1) (c - 1))) g t l := by
  have hl := hr.1
  simp only [List.length_cons] at hl
  obtain rfl : n = l.length + 1 := by omega
  have h1 := hr.tail hc
  exact ⟨_, _, hk.set_ 0 _, h1.grownSlice hk (grown_setCell w ⟨g, 0, none⟩ _), by omega, by omega, fun _ a e => by cases e; unfold nxA; split <;> exact hbb⟩

set_option maxRecDepth 100000 in
set_option maxHeartbeats 4000000 in
theorem across_any (B g : Nat) (p : List RC) (x : Int) (w : World) (h : RowAt B w g 31 p) (hc : ∀ r ∈ p, r.cnt = true) :
    Calls Tryz.prog 186 #[.pointer (some ⟨g, 0, none⟩), .int .i64 x] w fun e w' => EndA B w g p x e w' := by
  have HR := Lib.hid h
  have HC := Lib.hid hc
  clear h hc
  go_enter Tryz.func186, Tryz.ntmps186
  go_wp2_with fail
  go_loopw [10] (fun _ wr => ∃ l, RowAt B wr g 31 l ∧ dropX p x = dropX l x ∧ (∀ r ∈ l, r.cnt = true) ∧ w.grownBy wr (some g)) (fun _ wr => lenAt wr g)
  case atStart => exact ⟨p, HR.out, rfl, HC.out, ⟨rfl, rfl, rfl, Nat.le_refl _, fun _ _ _ => rfl⟩⟩
  case round =>
    obtain ⟨l, hat, hdrop, hcl, hgr⟩ := hrel
    have HAT := Lib.hid hat
    have HD := Lib.hid hdrop
    have HCL := Lib.hid hcl
    have HG := Lib.hid hgr
    obtain ⟨A, c, hk, hr, hlc, hcm, hbd⟩ := hat
    have q0 := hk.cellV (i := 0) (v := .slice A l.length c) rfl
    have f0 := hk.frozen 0
    have lg := hk.lt
    have HK := Lib.hid hk
    have HRR := Lib.hid hr
    have HBD := Lib.hid hbd
    clear hdrop hcl hgr hk hr hbd
    cases l with
    | nil =>
      simp only [List.length_nil] at q0 hlc
      have e1 : dropX p x = [] := HD.out
      have HE := Lib.hid e1
      clear e1
      go_wp2_with fail
      go_quiet (fail)
      go_wp2_with fail
      go_ret
      refine ⟨?_, ?_, ?_⟩
      · rw [HE.out]; rfl
      · rw [HE.out]; exact HAT.out.drewN _
      · exact grown_drewN HG.out _
    | cons r l =>
      have hrc := cntI r (HCL.out r (by simp))
      obtain ⟨n, hn⟩ : ∃ n, (r :: l).length = n := ⟨_, rfl⟩
      have hn1 : 1 ≤ n := by rw [← hn]; simp
      have hrr := HRR.out
      have hkk := HK.out
      rw [hn] at q0 hlc hrr hkk
      have HN := Lib.hid hn
      obtain ⟨b, off, rfl, hb, hcc⟩ := hrr.2 (by omega)
      obtain ⟨y0, y1, y2, y3⟩ := hcc 0 r rfl
      simp only [Nat.zero_mul, Nat.add_zero] at y0 y1 y2 y3
      have k1 : (0 : Int) < (n : Int) := by omega
      have k2 : 0 < n := by omega
      have HRN := Lib.hid hrr
      have HKN := Lib.hid hkk
      clear hcc hrr hkk hn
      by_cases hle : r.X + r.W ≤ x
      · have d1 : decide (r.X + r.W ≤ x) = true := decide_eq_true hle
        have hdl : dropX (r :: l) x = dropX l x := by unfold dropX; rw [List.dropWhile_cons, if_pos d1]
        have HDL := Lib.hid hdl
        have hcut := fun W => run_cut_one W b off n c hn1 hlc
        have HCUT := Lib.hid (RowAt.cut (B := B) HKN.out HRN.out hlc hcm (HBD.out (by simp) _ rfl))
        clear hdl
        go_wp2_with fail
        go_quiet (fail)
        go_wp2_with fail
        go_roundw
        case rel => exact ⟨l, HCUT.out.drewN _, HD.out.trans HDL.out, fun s hs => HCL.out s (List.mem_cons_of_mem _ hs), grown_drewN (HG.out.andThen (grown_setCell wr ⟨g, 0, none⟩ _) (fun j hj => .inr hj)) _⟩
        case measure =>
          rw [(HCUT.out.drewN _).len, HAT.out.len]
          simp
      · have d1 : decide (r.X + r.W ≤ x) = false := decide_eq_false hle
        have hdl : dropX (r :: l) x = r :: l := by unfold dropX; rw [List.dropWhile_cons, if_neg (by simpa using hle)]
        have HDL := Lib.hid hdl
        clear hdl
        go_wp2_with fail
        go_quiet (fail)
        go_wp2_with fail
        go_ret
        refine ⟨?_, ?_, ?_⟩
        · rw [HD.out, HDL.out]; rfl
        · rw [HD.out, HDL.out]; exact HAT.out.drewN _
        · exact grown_drewN HG.out _

end Go.Proofs.YtdaedkolpfkdjaaGreat
end

section
namespace Go.Proofs.YtdaedkolpfkdjaaGreat
open Go.RowKit

def takeY (p : List RC) (y : Int) : List RC := p.takeWhile (fun r => decide (r.Y ≤ y))
def EndR (B : Nat) (w : World) (g : Nat) (p : List RC) (y : Int) (e : Ending) (w' : World) : Prop :=
  ∃ A c, e = .returned (.slice A (takeY (dropY p y) y).length c) ∧ (takeY (dropY p y) y).length ≤ c ∧ c ≤ maxLen ∧ RdR w' A (takeY (dropY p y) y).length (takeY (dropY p y) y) ∧ RowAt B w' g 291 (dropY p y) ∧ w.grownBy w' (some g) ∧ (0 < (takeY (dropY p y) y).length → ∀ a, A = some a → a.block < B)
theorem takeY_at {l : List RC} {y : Int} {k : Nat} (h1 : ∀ r ∈ l.take k, r.Y ≤ y) (h2 : ∀ r, l[k]? = some r → ¬ r.Y ≤ y) : takeY l y = l.take k := by
  unfold takeY
  induction l generalizing k with
  | nil => simp
  | cons r l ih =>
    cases k with
    | zero =>
      have := h2 r rfl
      rw [List.takeWhile_cons, if_neg (by simpa using this)]
      rfl
    | succ k =>
      rw [List.take_succ_cons] at h1
      rw [List.takeWhile_cons, if_pos (by simpa using h1 r (by simp)), List.take_succ_cons, ih (fun s hs => h1 s (List.mem_cons_of_mem _ hs)) (fun s hs => h2 s (by simpa using hs))]
theorem endR_of {B : Nat} {w W : World} {g n k c : Nat} {A : Option Addr} {p l : List RC} {y : Int} (hd : dropY p y = l) (hat : RowAt B W g 291 l) (hr : RdR W A n l) (hkn : k ≤ n) (hnc : n ≤ c) (hc : c ≤ maxLen) (h1 : ∀ r ∈ l.take k, r.Y ≤ y) (h2 : ∀ r, l[k]? = some r → ¬ r.Y ≤ y) (hg : w.grownBy W (some g)) (hbd : 0 < n → ∀ a, A = some a → a.block < B) :
    EndR B w g p y (.returned (.slice A k c)) W := by
  have ht := takeY_at h1 h2
  have hp := hr.pre hkn
  unfold EndR
  rw [hd, ht]
  have hl : (l.take k).length = k := hp.1
  rw [hl]
  exact ⟨A, c, rfl, by omega, hc, hp, hat, hg, fun h => hbd (by omega)⟩

set_option maxRecDepth 100000 in
set_option maxHeartbeats 4000000 in
theorem row_any (B g : Nat) (p : List RC) (y : Int) (w : World) (h : RowAt B w g 291 p) (hc : ∀ r ∈ p, r.cnt = true) :
    Calls Tryz.prog 184 #[.pointer (some ⟨g, 0, none⟩), .int .i64 y] w fun e w' => EndR B w g p y e w' := by
  have HR := Lib.hid h
  have HC := Lib.hid hc
  clear h hc
  go_enter Tryz.func184, Tryz.ntmps184
  go_wp2_with fail
  go_loopw [12] (fun _ wr => ∃ l, RowAt B wr g 291 l ∧ dropY p y = dropY l y ∧ (∀ r ∈ l, r.cnt = true) ∧ w.grownBy wr (some g)) (fun _ wr => lenAt wr g)
  case atStart => exact ⟨p, HR.out, rfl, HC.out, ⟨rfl, rfl, rfl, Nat.le_refl _, fun _ _ _ => rfl⟩⟩
  case round =>
    obtain ⟨l, hat, hdrop, hcl, hgr⟩ := hrel
    have HAT := Lib.hid hat
    have HD := Lib.hid hdrop
    have HCL := Lib.hid hcl
    have HG := Lib.hid hgr
    obtain ⟨A, c, hk, hr, hlc, hcm, hbd⟩ := hat
    obtain ⟨n, hn⟩ : ∃ n, l.length = n := ⟨_, rfl⟩
    rw [hn] at hk hr hlc hbd
    have hmx : n ≤ maxLen := Nat.le_trans hlc hcm
    unfold maxLen at hmx
    have q0 := hk.cellV (i := 0) (v := .slice A n c) rfl
    have f0 := hk.frozen 0
    have lg := hk.lt
    have HK := Lib.hid hk
    have HRR := Lib.hid hr
    have HN := Lib.hid hn
    have HBD := Lib.hid hbd
    clear hdrop hcl hgr hk hr hn hbd
    by_cases hmore : ∃ r l', l = r :: l' ∧ r.Y + r.H ≤ y
    · obtain ⟨r, l', rfl, hle⟩ := hmore
      have hrc := cntI r (HCL.out r (by simp))
      have hn1 : 1 ≤ n := by rw [← HN.out]; simp
      obtain ⟨b, off, rfl, hb, hcc⟩ := HRR.out.2 (by omega)
      obtain ⟨y0, y1, y2, y3⟩ := hcc 0 r rfl
      simp only [Nat.zero_mul, Nat.add_zero] at y0 y1 y2 y3
      have k1 : (0 : Int) < (n : Int) := by omega
      have k2 : 0 < n := by omega
      clear hcc
      have d1 : decide (r.Y + r.H ≤ y) = true := decide_eq_true hle
      have hdl : dropY (r :: l') y = dropY l' y := by unfold dropY; rw [List.dropWhile_cons, if_pos d1]
      have HDL := Lib.hid hdl
      have hcut := fun W => run_cut_one W b off n c hn1 hlc
      have HCUT := Lib.hid (RowAt.cut (B := B) HK.out HRR.out hlc hcm (HBD.out k2 _ rfl))
      clear hdl
      go_wp2_with fail
      go_quiet (fail)
      go_wp2_with fail
      go_roundw
      case rel => exact ⟨l', HCUT.out.drewN _, HD.out.trans HDL.out, fun s hs => HCL.out s (List.mem_cons_of_mem _ hs), grown_drewN (HG.out.andThen (grown_setCell wr ⟨g, 0, none⟩ _) (fun j hj => .inr hj)) _⟩
      case measure =>
        rw [(HCUT.out.drewN _).len, HAT.out.len]
        simp
    · have hdl : dropY l y = l := by
        unfold dropY
        cases l with
        | nil => rfl
        | cons r l' => rw [List.dropWhile_cons, if_neg (by simpa using fun h => hmore ⟨r, l', rfl, h⟩)]
      have HDL := Lib.hid (HD.out.trans hdl)
      have HNM := Lib.hid hmore
      have hcuts := fun W k (hk : k ≤ c) => run_cut_to W A n c k hk
      have HCUTS := Lib.hid hcuts
      clear hdl hmore hcuts
      rcases Nat.eq_zero_or_pos n with h0 | h0
      case' inl =>
        have k1 : ¬ (0 : Int) < (n : Int) := by omega
        have k2 : decide ((0 : Int) < (n : Int)) = false := by simp; omega
        have k3 : decide (0 < n) = false := by simp; omega
        have H0 := Lib.hid h0
        clear h0
        go_wp2_with fail
        go_quiet (fail)
      case' inr =>
        have k1 : (0 : Int) < (n : Int) := by omega
        obtain ⟨b, off, hAe, hb, hcc⟩ := HRR.out.2 (by omega)
        rw [hAe] at q0
        obtain ⟨r, hr⟩ : ∃ r, l[0]? = some r := ⟨_, List.getElem?_eq_getElem (by rw [HN.out]; omega)⟩
        have hrc := cntI r (HCL.out r (List.mem_of_getElem? hr))
        obtain ⟨y0, y1, y2, y3⟩ := hcc 0 r hr
        simp only [Nat.zero_mul, Nat.add_zero] at y0 y1 y2 y3
        have d1 : decide (r.Y + r.H ≤ y) = false := decide_eq_false (fun hle => HNM.out (by
          cases l with
          | nil => cases hr
          | cons s l' => cases hr; exact ⟨_, _, rfl, hle⟩))
        clear hcc hr hAe
        go_wp2_with fail
        go_quiet (fail)
      all_goals
        go_wp2_with fail
        have hatD := HAT.out.drewN nq
        have hgD := grown_drewN HG.out nq
        have hrD := HRR.out.below (below_drewN (bre wr) nq)
        have hkD := HK.out.belowS (below_drewN (bre wr) nq)
        obtain ⟨D, hD⟩ : ∃ D, wr.drewN nq = D := ⟨_, rfl⟩
        rw [hD] at hatD hgD hrD hkD ⊢
        have HATD := Lib.hid hatD
        have HGD := Lib.hid hgD
        have HRD := Lib.hid hrD
        have HKD := Lib.hid hkD
        (try clear y0 y1 y2 y3)
        (try clear k1)
        (try clear k2 k3)
        clear hD hatD hgD hrD hkD q0 f0 lg
        go_loopw [5] (fun i w2 => ∃ k : Nat, i = .int .i64 k ∧ k ≤ n ∧ (∀ r ∈ l.take k, r.Y ≤ y) ∧ ∃ q, w2 = D.drewN q) (fun i _ => n - (intOf i).toNat)
        case atStart => exact ⟨0, rfl, by omega, by simp, 0, rfl⟩
        case round =>
          obtain ⟨k, rfl, hkn, hall, q, rfl⟩ := hrel
          have HALL := Lib.hid hall
          have q0 : (D.drewN q).cell? ⟨g, 0, none⟩ = some (.slice A n c) := HKD.out.cellV (i := 0) rfl
          clear hall
          by_cases hlt : k < n
          · obtain ⟨r', hr'⟩ : ∃ r, l[k]? = some r := ⟨_, List.getElem?_eq_getElem (by rw [HN.out]; exact hlt)⟩
            obtain ⟨b', off', hA, hb', hcc'⟩ := HRD.out.2 (by omega)
            rw [hA] at q0
            obtain ⟨z0, z1, z2, z3⟩ := hcc' k r' hr'
            have z1' : (D.drewN q).cell? ⟨b', off' + k * 4 + 1, none⟩ = some (.int .i64 r'.Y) := z1
            have j1 : (k : Int) < (n : Int) := by omega
            have j0 : (0 : Int) ≤ (k : Int) := by omega
            have HAE := Lib.hid hA
            have HR' := Lib.hid hr'
            have HTK := Lib.hid (show l.take (k + 1) = l.take k ++ [r'] by rw [List.take_add_one, hr']; rfl)
            clear hcc' hr' z0 z1 z2 z3 hA
            by_cases hle : r'.Y ≤ y
            · have d1 : decide (r'.Y ≤ y) = true := decide_eq_true hle
              have HLE := Lib.hid hle
              go_wp2_with fail
              go_roundw
              case rel =>
                refine ⟨k + 1, by go_num, by omega, ?_, q, rfl⟩
                rw [HTK.out]
                intro s hs
                rcases List.mem_append.1 hs with hs | hs
                · exact HALL.out s hs
                · simp only [List.mem_singleton] at hs
                  rw [hs]; exact HLE.out
              case measure => simp [intOf]; omega
            · have d1 : decide (r'.Y ≤ y) = false := decide_eq_false hle
              have HLE := Lib.hid hle
              have hct := fun W => HCUTS.out W k (by omega)
              rw [HAE.out] at hct
              go_wp2_with fail
              go_ret
              rw [← HAE.out]
              exact endR_of HDL.out (HATD.out.drewN q) (HRD.out.below (below_drewN (bre D) q)) hkn hlc hcm HALL.out (fun s hs => by rw [HR'.out] at hs; cases hs; exact fun h => absurd HLE.out (by omega)) (grown_drewN HGD.out q) HBD.out
          · obtain rfl : k = n := by omega
            have j1 : ¬ (k : Int) < (k : Int) := by omega
            have j2 : decide ((k : Int) < (k : Int)) = false := by simp
            have j3 : decide (k < k) = false := by simp
            have hct := fun W => HCUTS.out W k hlc
            go_wp2_with fail
            go_ret
            exact endR_of HDL.out (HATD.out.drewN q) (HRD.out.below (below_drewN (bre D) q)) hkn hlc hcm HALL.out (fun s hs => by rw [List.getElem?_eq_none (by rw [HN.out]; exact Nat.le_refl _)] at hs; cases hs) (grown_drewN HGD.out q) HBD.out

end Go.Proofs.YtdaedkolpfkdjaaGreat
end

section
namespace Go.Proofs.YtdaedkolpfkdjaaGreat

/-- numbers, rising, each once. -/
def insR (x : Int) : List Int → List Int
  | [] => [x]
  | y :: l => if x < y then x :: y :: l else if x = y then y :: l else y :: insR x l
def risesOf (zs : List Int) : List Int := zs.foldr insR []
theorem insR_mem (x : Int) (l : List Int) (z : Int) : z ∈ insR x l ↔ z = x ∨ z ∈ l := by
  induction l with
  | nil => simp [insR]
  | cons y l ih =>
    unfold insR
    split
    · simp
    · split
      · rename_i h
        subst h
        simp
      · simp only [List.mem_cons, ih]
        constructor
        · rintro (h | h | h)
          · exact .inr (.inl h)
          · exact .inl h
          · exact .inr (.inr h)
        · rintro (h | h | h)
          · exact .inr (.inl h)
          · exact .inl h
          · exact .inr (.inr h)
theorem insR_rises (x : Int) {l : List Int} (h : l.Pairwise (· < ·)) : (insR x l).Pairwise (· < ·) := by
  induction l with
  | nil => simp [insR]
  | cons y l ih =>
    rw [List.pairwise_cons] at h
    unfold insR
    split
    · rename_i hx
      rw [List.pairwise_cons]
      refine ⟨?_, List.pairwise_cons.2 h⟩
      intro z hz
      rcases List.mem_cons.1 hz with e | hz
      · rw [e]; exact hx
      · have := h.1 z hz
        omega
    · split
      · exact List.pairwise_cons.2 h
      · rw [List.pairwise_cons]
        refine ⟨?_, ih h.2⟩
        intro z hz
        rcases (insR_mem x l z).1 hz with e | hz
        · omega
        · exact h.1 z hz
theorem rises_ok (zs : List Int) : (risesOf zs).Pairwise (· < ·) ∧ ∀ z, z ∈ risesOf zs ↔ z ∈ zs := by
  induction zs with
  | nil => simp [risesOf]
  | cons x zs ih =>
    have e : risesOf (x :: zs) = insR x (risesOf zs) := rfl
    rw [e]
    refine ⟨insR_rises x ih.1, fun z => ?_⟩
    rw [insR_mem, ih.2 z, List.mem_cons]
theorem rises_uniq : ∀ {a b : List Int}, a.Pairwise (· < ·) → b.Pairwise (· < ·) → (∀ z, z ∈ a ↔ z ∈ b) → a = b := by
  intro a
  induction a with
  | nil =>
    intro b _ _ h
    cases b with
    | nil => rfl
    | cons y b => have := (h y).2 (by simp); cases this
  | cons x a ih =>
    intro b ha hb h
    cases b with
    | nil => have := (h x).1 (by simp); cases this
    | cons y b =>
      rw [List.pairwise_cons] at ha hb
      have e : x = y := by
        have h1 := (h x).1 (by simp)
        have h2 := (h y).2 (by simp)
        rcases List.mem_cons.1 h1 with e | h1
        · exact e
        · rcases List.mem_cons.1 h2 with e | h2
          · exact e.symm
          · have := ha.1 y h2
            have := hb.1 x h1
            omega
      subst e
      rw [ih ha.2 hb.2 (fun z => ?_)]
      constructor
      · intro hz
        rcases List.mem_cons.1 ((h z).1 (List.mem_cons_of_mem _ hz)) with e | h'
        · have := ha.1 z hz
          omega
        · exact h'
      · intro hz
        rcases List.mem_cons.1 ((h z).2 (List.mem_cons_of_mem _ hz)) with e | h'
        · have := hb.1 z hz
          omega
        · exact h'
theorem between_from {b v : Int} : ∀ (l : List Int) (c : Int), (c :: l).Pairwise (· < ·) → c ≤ v → b ∈ c :: l → v < b → ∃ k y u, (c :: l)[k]? = some y ∧ (c :: l)[k + 1]? = some u ∧ y ≤ v ∧ v < u := by
  intro l
  induction l with
  | nil =>
    intro c _ hc hb h2
    simp only [List.mem_singleton] at hb
    omega
  | cons d l ihl =>
    intro c hp hc hb h2
    by_cases hd : v < d
    · exact ⟨0, c, d, rfl, rfl, hc, hd⟩
    · have hb2 : b ∈ d :: l := by
        rcases List.mem_cons.1 hb with e | hb
        · omega
        · exact hb
      obtain ⟨k, y', u', h3, h4, h5, h6⟩ := ihl d (List.pairwise_cons.1 hp).2 (by omega) hb2 h2
      exact ⟨k + 1, y', u', by simpa using h3, by simpa using h4, h5, h6⟩
theorem rises_between {ys : List Int} (hs : ys.Pairwise (· < ·)) {a b v : Int} (ha : a ∈ ys) (hb : b ∈ ys) (h1 : a ≤ v) (h2 : v < b) : ∃ k y u, ys[k]? = some y ∧ ys[k + 1]? = some u ∧ y ≤ v ∧ v < u := by
  cases ys with
  | nil => cases ha
  | cons y ys =>
    refine between_from ys y hs ?_ hb h2
    rcases List.mem_cons.1 ha with e | ha
    · omega
    · have := (List.pairwise_cons.1 hs).1 a ha
      omega

/-- rectangles from above, and from the left; none touches another one of its row. -/
def Down (l : List RC) : Prop := l.Pairwise (fun a b => (a.Y = b.Y ∧ a.H = b.H ∧ a.X + a.W < b.X) ∨ a.Y + a.H ≤ b.Y) ∧ ∀ r ∈ l, 0 < r.W ∧ 0 < r.H
theorem canon_down {l : List RC} (h : Canon l) : Down l := by
  refine ⟨?_, canon_pos h⟩
  obtain ⟨bs, rfl, g⟩ := h
  have h1 := g.each
  have h2 := g.down
  clear g
  induction bs with
  | nil => simp [flatB]
  | cons b bs ih =>
    rw [List.pairwise_cons] at h2
    have e : flatB (b :: bs) = b.rc ++ flatB bs := by simp [flatB]
    rw [e, List.pairwise_append]
    refine ⟨?_, ih (fun b hb => h1 b (List.mem_cons_of_mem _ hb)) h2.2, ?_⟩
    · unfold Bd.rc bandL
      rw [List.pairwise_map]
      refine List.Pairwise.imp (fun {s t} hst => ?_) (h1 b (by simp)).2.2.1
      left
      dsimp only
      exact ⟨rfl, rfl, by omega⟩
    · intro r hr s hs
      right
      unfold Bd.rc bandL at hr
      obtain ⟨q, _, rfl⟩ := List.mem_map.1 hr
      unfold flatB at hs
      obtain ⟨c, hc, hs⟩ := List.mem_flatMap.1 hs
      unfold Bd.rc bandL at hs
      obtain ⟨q', _, rfl⟩ := List.mem_map.1 hs
      exact h2.1 c hc

/-- the rectangles that cross a row. -/
def hasY (r : RC) (y : Int) : Bool := decide (r.Y ≤ y) && decide (y < r.Y + r.H)
def hasX (r : RC) (x : Int) : Bool := decide (r.X ≤ x) && decide (x < r.X + r.W)
def rowOf (l : List RC) (y : Int) : List RC := l.filter (hasY · y)
/-- what is left of them where rows are asked from above. -/
def restY (l : List RC) (y : Int) : List RC := l.dropWhile (fun r => decide (r.Y + r.H ≤ y))
theorem restY_restY (l : List RC) {y y' : Int} (h : y ≤ y') : restY (restY l y) y' = restY l y' := by
  unfold restY
  induction l with
  | nil => rfl
  | cons r l ih =>
    rw [List.dropWhile_cons]
    split
    · rename_i hr
      rw [ih, List.dropWhile_cons, if_pos]
      simp only [decide_eq_true_eq] at hr ⊢
      omega
    · rfl
theorem row_rest {l : List RC} (h : Down l) (y : Int) : (restY l y).takeWhile (fun r => decide (r.Y ≤ y)) = rowOf l y := by
  obtain ⟨h1, h2⟩ := h
  unfold restY rowOf
  induction l with
  | nil => rfl
  | cons r l ih =>
    rw [List.pairwise_cons] at h1
    have hr := h2 r (by simp)
    have ih := ih h1.2 (fun s hs => h2 s (List.mem_cons_of_mem _ hs))
    rw [List.dropWhile_cons, List.filter_cons]
    split
    · rename_i hd
      rw [ih, if_neg]
      simp only [decide_eq_true_eq] at hd
      unfold hasY
      simp only [Bool.and_eq_true, decide_eq_true_eq]
      omega
    · rename_i hd
      simp only [decide_eq_true_eq] at hd
      rw [List.takeWhile_cons]
      by_cases hy : r.Y ≤ y
      · rw [if_pos (by simpa using hy), if_pos (by unfold hasY; simp only [Bool.and_eq_true, decide_eq_true_eq]; omega)]
        congr 1
        -- the ones behind it begin at its row, or below
        have key : ∀ (m : List RC), (∀ s ∈ m, (r.Y = s.Y ∧ r.H = s.H) ∨ r.Y + r.H ≤ s.Y) → (m.Pairwise (fun a b => (a.Y = b.Y ∧ a.H = b.H ∧ a.X + a.W < b.X) ∨ a.Y + a.H ≤ b.Y)) → (∀ s ∈ m, 0 < s.W ∧ 0 < s.H) → m.takeWhile (fun r => decide (r.Y ≤ y)) = m.filter (hasY · y) := by
          intro m
          induction m with
          | nil => intro _ _ _; rfl
          | cons s m ihm =>
            intro hm hp hpos
            rw [List.pairwise_cons] at hp
            have hs := hpos s (by simp)
            rw [List.takeWhile_cons, List.filter_cons]
            rcases hm s (by simp) with ⟨e1, e2⟩ | hge
            · rw [if_pos (by simp only [decide_eq_true_eq]; omega), if_pos (by unfold hasY; simp only [Bool.and_eq_true, decide_eq_true_eq]; omega), ihm (fun t ht => hm t (List.mem_cons_of_mem _ ht)) hp.2 (fun t ht => hpos t (List.mem_cons_of_mem _ ht))]
            · rw [if_neg (by simp only [decide_eq_true_eq]; omega), if_neg (by unfold hasY; simp only [Bool.and_eq_true, decide_eq_true_eq]; omega)]
              symm
              rw [List.filter_eq_nil_iff]
              intro t ht
              unfold hasY
              simp only [Bool.and_eq_true, decide_eq_true_eq]
              have := hp.1 t ht
              omega
        refine key l (fun s hs => ?_) h1.2 (fun s hs => h2 s (List.mem_cons_of_mem _ hs))
        rcases h1.1 s hs with ⟨a, b, _⟩ | c
        · exact .inl ⟨a, b⟩
        · exact .inr c
      · rw [if_neg (by simpa using hy), if_neg (by unfold hasY; simp only [Bool.and_eq_true, decide_eq_true_eq]; omega)]
        symm
        rw [List.filter_eq_nil_iff]
        intro t ht
        unfold hasY
        simp only [Bool.and_eq_true, decide_eq_true_eq]
        have := h1.1 t ht
        omega
/-- a row's rectangles stand from the left. -/
def Right (p : List RC) : Prop := p.Pairwise (fun a b => a.X + a.W < b.X) ∧ ∀ r ∈ p, 0 < r.W
theorem row_right {l : List RC} (h : Down l) (y : Int) : Right (rowOf l y) := by
  refine ⟨?_, fun r hr => (h.2 r (List.mem_filter.1 hr).1).1⟩
  unfold rowOf
  rw [List.pairwise_filter]
  refine h.1.imp (fun {a b} hab ha hb => ?_)
  unfold hasY at ha hb
  simp only [Bool.and_eq_true, decide_eq_true_eq] at ha hb
  rcases hab with ⟨_, _, c⟩ | c
  · exact c
  · omega
def restX (p : List RC) (x : Int) : List RC := p.dropWhile (fun r => decide (r.X + r.W ≤ x))
def anyX (p : List RC) (x : Int) : Bool := p.any (hasX · x)
theorem restX_restX (l : List RC) {y y' : Int} (h : y ≤ y') : restX (restX l y) y' = restX l y' := by
  unfold restX
  induction l with
  | nil => rfl
  | cons r l ih =>
    rw [List.dropWhile_cons]
    split
    · rename_i hr
      rw [ih, List.dropWhile_cons, if_pos]
      simp only [decide_eq_true_eq] at hr ⊢
      omega
    · rfl
theorem any_rest {p : List RC} (h : Right p) (x : Int) : anyX p x = (match restX p x with | [] => false | r :: _ => decide (r.X ≤ x)) := by
  obtain ⟨h1, h2⟩ := h
  unfold anyX restX
  induction p with
  | nil => rfl
  | cons r p ih =>
    rw [List.pairwise_cons] at h1
    have hr := h2 r (by simp)
    have ih := ih h1.2 (fun s hs => h2 s (List.mem_cons_of_mem _ hs))
    rw [List.any_cons]
    by_cases hd : r.X + r.W ≤ x
    · rw [List.dropWhile_cons, if_pos (by simpa using hd), ← ih, show hasX r x = false by unfold hasX; simp only [Bool.and_eq_false_iff, decide_eq_false_iff_not]; omega, Bool.false_or]
    · rw [List.dropWhile_cons, if_neg (by simpa using hd)]
      by_cases hx : r.X ≤ x
      · rw [show hasX r x = true by unfold hasX; simp only [Bool.and_eq_true, decide_eq_true_eq]; omega]
        simp [hx]
      · rw [show hasX r x = false by unfold hasX; simp only [Bool.and_eq_false_iff, decide_eq_false_iff_not]; omega, Bool.false_or]
        show p.any (hasX · x) = decide (r.X ≤ x)
        rw [show decide (r.X ≤ x) = false by simpa using hx, List.any_eq_false]
        intro s hs
        have := h1.1 s hs
        unfold hasX
        simp only [Bool.and_eq_true, decide_eq_true_eq]
        omega
/-- has one of the rectangles a place? -/
def inB (l : List RC) (x y : Int) : Bool := l.any (fun r => hasX r x && hasY r y)
theorem inB_iff (l : List RC) (x y : Int) : inB l x y = true ↔ InR l x y := by
  unfold inB InR hasX hasY
  rw [List.any_eq_true]
  constructor
  · rintro ⟨r, hr, h⟩
    simp only [Bool.and_eq_true, decide_eq_true_eq] at h
    exact ⟨r, hr, by omega⟩
  · rintro ⟨r, hr, h⟩
    refine ⟨r, hr, ?_⟩
    simp only [Bool.and_eq_true, decide_eq_true_eq]
    omega
theorem inB_row (l : List RC) (x y : Int) : inB l x y = anyX (rowOf l y) x := by
  unfold inB anyX rowOf
  rw [List.any_filter]
  congr 1
  funext r
  exact Bool.and_comm _ _

/-- where rectangles begin and end. -/
def ysE (l : List RC) : List Int := l.flatMap fun r => [r.Y, r.Y + r.H]
def xsE (l : List RC) : List Int := l.flatMap fun r => [r.X, r.X + r.W]
theorem mem_ysE (l : List RC) (y : Int) : y ∈ ysE l ↔ ∃ r ∈ l, y = r.Y ∨ y = r.Y + r.H := by simp [ysE]
theorem mem_xsE (l : List RC) (y : Int) : y ∈ xsE l ↔ ∃ r ∈ l, y = r.X ∨ y = r.X + r.W := by simp [xsE]
/-- the cells of a row that are kept, the first m of them. -/
def cellsX (keep : Bool → Bool → Bool) (p q : List RC) (y h : Int) (xs : List Int) (m : Nat) : List RC :=
  (List.range m).flatMap fun j => if keep (anyX p (xs.getD j 0)) (anyX q (xs.getD j 0)) then [⟨xs.getD j 0, y, xs.getD (j + 1) 0 - xs.getD j 0, h⟩] else []
def rowX (keep : Bool → Bool → Bool) (a b : List RC) (y h : Int) : List RC :=
  cellsX keep (rowOf a y) (rowOf b y) y h (risesOf (xsE (rowOf a y ++ rowOf b y))) ((risesOf (xsE (rowOf a y ++ rowOf b y))).length - 1)
def cellsY (keep : Bool → Bool → Bool) (a b : List RC) (ys : List Int) (m : Nat) : List RC :=
  (List.range m).flatMap fun j => rowX keep a b (ys.getD j 0) (ys.getD (j + 1) 0 - ys.getD j 0)
def joinR (keep : Bool → Bool → Bool) (a b : List RC) : List RC := cellsY keep a b (risesOf (ysE (a ++ b))) ((risesOf (ysE (a ++ b))).length - 1)
theorem cellsX_succ (keep : Bool → Bool → Bool) (p q : List RC) (y h : Int) (xs : List Int) (m : Nat) :
    cellsX keep p q y h xs (m + 1) = cellsX keep p q y h xs m ++ (if keep (anyX p (xs.getD m 0)) (anyX q (xs.getD m 0)) then [⟨xs.getD m 0, y, xs.getD (m + 1) 0 - xs.getD m 0, h⟩] else []) := by
  unfold cellsX
  rw [List.range_succ, List.flatMap_append]
  simp
theorem cellsY_succ (keep : Bool → Bool → Bool) (a b : List RC) (ys : List Int) (m : Nat) :
    cellsY keep a b ys (m + 1) = cellsY keep a b ys m ++ rowX keep a b (ys.getD m 0) (ys.getD (m + 1) 0 - ys.getD m 0) := by
  unfold cellsY
  rw [List.range_succ, List.flatMap_append]
  simp
theorem cellsX_len (keep : Bool → Bool → Bool) (p q : List RC) (y h : Int) (xs : List Int) (m : Nat) : (cellsX keep p q y h xs m).length ≤ m := by
  induction m with
  | zero => simp [cellsX]
  | succ m ih =>
    rw [cellsX_succ, List.length_append]
    split <;> simp <;> omega
theorem getD_of {l : List Int} {k : Nat} {v : Int} (h : l[k]? = some v) : l.getD k 0 = v := by simp [List.getD, h]
theorem of_getD {l : List Int} {k : Nat} (h : k < l.length) : l[k]? = some (l.getD k 0) := by simp [List.getD, h]
theorem in_cellsX (keep : Bool → Bool → Bool) (p q : List RC) (y h : Int) (xs : List Int) (r : RC) (m : Nat) (hm : m + 1 ≤ xs.length ∨ m = 0) :
    r ∈ cellsX keep p q y h xs m ↔ ∃ j x u, j < m ∧ xs[j]? = some x ∧ xs[j + 1]? = some u ∧ keep (anyX p x) (anyX q x) = true ∧ r = ⟨x, y, u - x, h⟩ := by
  unfold cellsX
  rw [List.mem_flatMap]
  constructor
  · rintro ⟨j, hj, hr⟩
    rw [List.mem_range] at hj
    split at hr
    · rename_i hk
      simp only [List.mem_singleton] at hr
      exact ⟨j, _, _, hj, of_getD (by omega), of_getD (by omega), hk, hr⟩
    · cases hr
  · rintro ⟨j, x, u, hj, hx, hu, hk, rfl⟩
    refine ⟨j, List.mem_range.2 hj, ?_⟩
    rw [getD_of hx, getD_of hu, if_pos hk]
    simp
/-- THE LAW: the cells that are kept have just the places that the rule keeps. -/
theorem join_places {keep : Bool → Bool → Bool} (hk : keep false false = false) {a b : List RC} (_ha : ∀ r ∈ a, 0 < r.W ∧ 0 < r.H) (_hb : ∀ r ∈ b, 0 < r.W ∧ 0 < r.H) (x y : Int) :
    InR (joinR keep a b) x y ↔ keep (inB a x y) (inB b x y) = true := by
  have hys := rises_ok (ysE (a ++ b))
  obtain ⟨ys, hY⟩ : ∃ ys, risesOf (ysE (a ++ b)) = ys := ⟨_, rfl⟩
  unfold joinR
  rw [hY] at hys ⊢
  have hmem : ∀ z, z ∈ ys ↔ ∃ r ∈ a ++ b, z = r.Y ∨ z = r.Y + r.H := fun z => (hys.2 z).trans (mem_ysE _ z)
  -- a row between two edges is the upper edge's
  have hrow : ∀ (l : List RC), (∀ r ∈ l, r ∈ a ++ b) → ∀ k v u, ys[k]? = some v → ys[k + 1]? = some u → v ≤ y → y < u → rowOf l y = rowOf l v := fun l hl k v u hv hu h1 h2 => by
    have hn := (edges_next hys.1 hv hu).2
    unfold rowOf
    refine List.filter_congr (fun r hr => ?_)
    have e1 := hn r.Y ((hmem _).2 ⟨r, hl r hr, .inl rfl⟩)
    have e2 := hn (r.Y + r.H) ((hmem _).2 ⟨r, hl r hr, .inr rfl⟩)
    unfold hasY
    rw [Bool.eq_iff_iff]
    simp only [Bool.and_eq_true, decide_eq_true_eq]
    omega
  -- and so is a column
  have hcol : ∀ (p q l : List RC), (∀ r ∈ l, r ∈ p ++ q) → ∀ j v u, (risesOf (xsE (p ++ q)))[j]? = some v → (risesOf (xsE (p ++ q)))[j + 1]? = some u → v ≤ x → x < u → anyX l x = anyX l v := fun p q l hl j v u hv hu h1 h2 => by
    have ho := rises_ok (xsE (p ++ q))
    have hn := (edges_next ho.1 hv hu).2
    unfold anyX
    have key : ∀ (m : List RC), (∀ r ∈ m, r ∈ p ++ q) → m.any (hasX · x) = m.any (hasX · v) := by
      intro m
      induction m with
      | nil => intro _; rfl
      | cons r m ihm =>
        intro hm
        have hr := hm r (by simp)
        have e1 := hn r.X ((ho.2 _).2 ((mem_xsE _ _).2 ⟨r, hr, .inl rfl⟩))
        have e2 := hn (r.X + r.W) ((ho.2 _).2 ((mem_xsE _ _).2 ⟨r, hr, .inr rfl⟩))
        rw [List.any_cons, List.any_cons, ihm (fun s hs => hm s (List.mem_cons_of_mem _ hs))]
        congr 1
        unfold hasX
        rw [Bool.eq_iff_iff]
        simp only [Bool.and_eq_true, decide_eq_true_eq]
        omega
    exact key l hl
  have hA : ∀ r ∈ a, r ∈ a ++ b := fun r hr => List.mem_append_left _ hr
  have hB : ∀ r ∈ b, r ∈ a ++ b := fun r hr => List.mem_append_right _ hr
  constructor
  · rintro ⟨r, hr, h1, h2, h3, h4⟩
    unfold cellsY at hr
    obtain ⟨k, hkm, hr⟩ := List.mem_flatMap.1 hr
    rw [List.mem_range] at hkm
    have hv := of_getD (l := ys) (k := k) (by omega)
    have hu := of_getD (l := ys) (k := k + 1) (by omega)
    obtain ⟨v, ev⟩ : ∃ v, ys.getD k 0 = v := ⟨_, rfl⟩
    obtain ⟨u, eu⟩ : ∃ u, ys.getD (k + 1) 0 = u := ⟨_, rfl⟩
    rw [ev] at hv hr
    rw [eu] at hu hr
    unfold rowX at hr
    obtain ⟨j, c, d, hj, hc, hd, hkeep, rfl⟩ := (in_cellsX _ _ _ _ _ _ _ _ (by omega)).1 hr
    dsimp only at h1 h2 h3 h4
    rw [inB_row, inB_row, hrow a hA k v u hv hu h3 (by omega), hrow b hB k v u hv hu h3 (by omega)]
    rw [hcol _ _ (rowOf a v) (fun r hr => List.mem_append_left _ hr) j c d hc hd h1 (by omega), hcol _ _ (rowOf b v) (fun r hr => List.mem_append_right _ hr) j c d hc hd h1 (by omega)]
    exact hkeep
  · intro hkeep
    have hin : ∃ r ∈ a ++ b, hasX r x = true ∧ hasY r y = true := by
      cases h1 : inB a x y with
      | true =>
        unfold inB at h1
        obtain ⟨r, hr, h⟩ := List.any_eq_true.1 h1
        rw [Bool.and_eq_true] at h
        exact ⟨r, hA r hr, h⟩
      | false =>
        cases h2 : inB b x y with
        | true =>
          unfold inB at h2
          obtain ⟨r, hr, h⟩ := List.any_eq_true.1 h2
          rw [Bool.and_eq_true] at h
          exact ⟨r, hB r hr, h⟩
        | false => rw [h1, h2, hk] at hkeep; cases hkeep
    obtain ⟨r, hr, hx, hy⟩ := hin
    have hy' := hy
    have hx' := hx
    unfold hasX at hx
    unfold hasY at hy
    simp only [Bool.and_eq_true, decide_eq_true_eq] at hx hy
    obtain ⟨k, v, u, hv, hu, h1, h2⟩ := rises_between hys.1 ((hmem _).2 ⟨r, hr, .inl rfl⟩) ((hmem _).2 ⟨r, hr, .inr rfl⟩) hy.1 hy.2
    have ra := hrow a hA k v u hv hu h1 h2
    have rb := hrow b hB k v u hv hu h1 h2
    have hrr : r ∈ rowOf a v ++ rowOf b v := by
      rw [← ra, ← rb]
      rcases List.mem_append.1 hr with hr | hr
      · exact List.mem_append_left _ (List.mem_filter.2 ⟨hr, hy'⟩)
      · exact List.mem_append_right _ (List.mem_filter.2 ⟨hr, hy'⟩)
    have ho := rises_ok (xsE (rowOf a v ++ rowOf b v))
    obtain ⟨j, c, d, hc, hd, h3, h4⟩ := rises_between ho.1 ((ho.2 _).2 ((mem_xsE _ _).2 ⟨r, hrr, .inl rfl⟩)) ((ho.2 _).2 ((mem_xsE _ _).2 ⟨r, hrr, .inr rfl⟩)) hx.1 hx.2
    rw [inB_row, inB_row, ra, rb, hcol _ _ (rowOf a v) (fun r hr => List.mem_append_left _ hr) j c d hc hd h3 h4, hcol _ _ (rowOf b v) (fun r hr => List.mem_append_right _ hr) j c d hc hd h3 h4] at hkeep
    have hkl := (List.getElem?_eq_some_iff.1 hu).1
    have hjl := (List.getElem?_eq_some_iff.1 hd).1
    refine ⟨⟨c, v, d - c, u - v⟩, ?_, h3, by dsimp only; omega, h1, by dsimp only; omega⟩
    unfold cellsY
    refine List.mem_flatMap.2 ⟨k, List.mem_range.2 (by omega), ?_⟩
    rw [getD_of hv, getD_of hu]
    unfold rowX
    exact (in_cellsX _ _ _ _ _ _ _ _ (by omega)).2 ⟨j, c, d, by omega, hc, hd, hkeep, rfl⟩

end Go.Proofs.YtdaedkolpfkdjaaGreat
end
