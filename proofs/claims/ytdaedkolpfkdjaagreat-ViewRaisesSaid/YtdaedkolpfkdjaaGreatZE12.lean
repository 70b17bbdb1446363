/-
  Parts of slices of rectangles that lie in variables; the walks of region.across and of walk.row.
  The walk of walk.row: a region's rectangles that cross a row, rows asked from above.
-/
import Derived.Test.YtdaedkolpfkdjaaGreatZE06
section
namespace Go.Proofs.YtdaedkolpfkdjaaGreat
open Go.RowKit

theorem RdR.grownSlice {W W' : World} {A B : Option Addr} {n m c g : Nat} {t : TypeId} {rs : List RC} (h : RdR W A n rs) (hB : Blk W g t #[.slice B m c]) (hg : W.grownBy W' (some g)) : RdR W' A n rs :=
  ⟨h.1, fun hn => by
    obtain ⟨b, off, e, hb, hc⟩ := h.2 hn
    have hne : b ≠ g := fun e' => by
      subst e'
      obtain ⟨r, hr'⟩ : ∃ r, rs[0]? = some r := ⟨_, List.getElem?_eq_getElem (by rw [h.1]; exact hn)⟩
      obtain ⟨c0, _⟩ := hc 0 r hr'
      rw [hB.cell] at c0
      cases hoff : off + 0 * 4 with
      | zero => rw [hoff] at c0; simp at c0
      | succ k => rw [hoff] at c0; simp at c0
    have hk : ∀ o v, W.cell? ⟨b, o, none⟩ = some v → W'.cell? ⟨b, o, none⟩ = some v := fun o v hv => by
      have h1 := hg.block b hb (fun e => hne (Option.some.inj e))
      have : W'.cell? ⟨b, o, none⟩ = W.cell? ⟨b, o, none⟩ := by simp only [World.cell?, h1]
      rw [this]; exact hv
    exact ⟨b, off, e, Nat.lt_of_lt_of_le hb hg.size, fun i r hi => by
      obtain ⟨c0, c1, c2, c3⟩ := hc i r hi
      exact ⟨hk _ _ c0, hk _ _ c1, hk _ _ c2, hk _ _ c3⟩⟩⟩

theorem cntI (r : RC) (h : r.cnt = true) : (-1048576 ≤ r.X ∧ 0 < r.W ∧ r.X + r.W ≤ 1048576) ∧ (-1048576 ≤ r.Y ∧ 0 < r.H ∧ r.Y + r.H ≤ 1048576) := by
  unfold RC.cnt at h
  rw [Bool.and_eq_true, fits_iff, fits_iff] at h
  omega
/-- a variable holds a slice that reads as these rectangles. -/
def RowAt (B : Nat) (w : World) (g : Nat) (t : TypeId) (l : List RC) : Prop := ∃ A c, Blk w g t #[.slice A l.length c] ∧ RdR w A l.length l ∧ l.length ≤ c ∧ c ≤ maxLen ∧ (0 < l.length → ∀ a, A = some a → a.block < B)
theorem RowAt.below {B : Nat} {w w' : World} {g : Nat} {t : TypeId} {l : List RC} (h : RowAt B w g t l) (hb : Below w.heap.size w w') : RowAt B w' g t l := by
  obtain ⟨A, c, h1, h2, h3⟩ := h
  exact ⟨A, c, h1.belowS hb, h2.below hb, h3⟩
theorem RowAt.other {B B2 : Nat} {w w' : World} {g g2 : Nat} {t t2 : TypeId} {l l2 : List RC} (h : RowAt B w g t l) (h2 : RowAt B2 w g2 t2 l2) (hne : g ≠ g2) (hg : w.grownBy w' (some g2)) : RowAt B w' g t l := by
  obtain ⟨A, c, h1, h3, h4⟩ := h
  obtain ⟨A2, c2, k1, _⟩ := h2
  exact ⟨A, c, h1.grown hg (fun e => hne (Option.some.inj e)), h3.grownSlice k1 hg, h4⟩

theorem Tryz.sizeRc (w : World) : (Go.sizeOf 103).run Tryz.prog w = .ok 4 w := by kernel_rfl
/-- where a slice begins without its first rectangle. -/
def nxA (b off c : Nat) : Addr := if c = 1 then ⟨b, off, none⟩ else ⟨b, off + 4, none⟩
theorem run_cut_one (W : World) (b off n c : Nat) (h : 1 ≤ n) (_hn : n ≤ c) :
    (Instr.slice 31 (.slice (some ⟨b, off, none⟩) n c) (some (.int .i64 1)) none none).run Tryz.prog W = .ok (.slice (some (nxA b off c)) (n - 1) (c - 1)) W := by
  have ht' : Tryz.prog.underlying 31 = some (.slice (Tryz.prog.elem 31)) := by simp [Program.elem, Tryz.underlying31]
  have he : Tryz.prog.elem 31 = 103 := by simp [Program.elem, Tryz.underlying31]
  rw [run_slice_l W _ _ _ _ ht' .i64 _ (by omega) (by omega), he, Tryz.sizeRc]
  unfold nxA
  by_cases hne : c = 1
  · simp [Result.andThen, sliced, hne]
  · simp [Result.andThen, sliced, Addr.add, hne]
theorem run_cut_to (W : World) (A : Option Addr) (n c h : Nat) (hh : h ≤ c) :
    (Instr.slice 31 (.slice A n c) none (some (.int .i64 (h : Int))) none).run Tryz.prog W = .ok (.slice A h c) W := by
  have ht' : Tryz.prog.underlying 31 = some (.slice (Tryz.prog.elem 31)) := by simp [Program.elem, Tryz.underlying31]
  have he : Tryz.prog.elem 31 = 103 := by simp [Program.elem, Tryz.underlying31]
  rw [run_slice_h W _ _ _ _ ht' .i64 _ (by omega) (by omega), he, Tryz.sizeRc]
  cases c <;> cases A <;> simp [Result.andThen, sliced, Addr.add]
theorem RdR.tail {w : World} {b off n c : Nat} {r : RC} {l : List RC} (h : RdR w (some ⟨b, off, none⟩) (n + 1) (r :: l)) (hc : n + 1 ≤ c) : RdR w (some (nxA b off c)) n l := by
  refine ⟨by have := h.1; simpa using this, fun hn => ?_⟩
  obtain ⟨b', off', e, hb, hcl⟩ := h.2 (by omega)
  cases e
  refine ⟨b, off + 4, by unfold nxA; rw [if_neg (by omega)], hb, fun k r' hk => ?_⟩
  have := hcl (k + 1) r' (by simpa using hk)
  rwa [show off + (k + 1) * 4 = off + 4 + k * 4 from by omega] at this
theorem RdR.pre {w : World} {A : Option Addr} {n m : Nat} {l : List RC} (h : RdR w A n l) (hm : m ≤ n) : RdR w A m (l.take m) := by
  refine ⟨by rw [List.length_take, h.1]; omega, fun hn => ?_⟩
  obtain ⟨b, off, e, hb, hcl⟩ := h.2 (by omega)
  refine ⟨b, off, e, hb, fun k r' hk => hcl k r' ?_⟩
  rw [List.getElem?_take] at hk
  split at hk
  · exact hk
  · cases hk
/-- how long the slice is that a variable holds. -/
def lenAt (w : World) (g : Nat) : Nat := match w.cell? ⟨g, 0, none⟩ with | some (.slice _ n _) => n | _ => 0
theorem RowAt.len {B : Nat} {w : World} {g : Nat} {t : TypeId} {l : List RC} (h : RowAt B w g t l) : lenAt w g = l.length := by
  obtain ⟨A, c, h1, _⟩ := h
  unfold lenAt
  rw [h1.cell]
  rfl
theorem RowAt.drewN {B : Nat} {w : World} {g : Nat} {t : TypeId} {l : List RC} (h : RowAt B w g t l) (q : Nat) : RowAt B (w.drewN q) g t l := h.below (below_drewN (bre w) q)
theorem grown_drewN {w w' : World} {row : Option Nat} (h : w.grownBy w' row) (q : Nat) : w.grownBy (w'.drewN q) row := ⟨h.os, h.tape, h.output, h.size, h.block⟩

/-- the first one of a row's rectangles: does it have the column? -/
def headX (p : List RC) (x : Int) : Bool := match p with | [] => false | r :: _ => decide (r.X ≤ x)
/-- what is left of them where columns are asked from the left. -/
def dropX (p : List RC) (x : Int) : List RC := p.dropWhile (fun r => decide (r.X + r.W ≤ x))
def dropY (p : List RC) (y : Int) : List RC := p.dropWhile (fun r => decide (r.Y + r.H ≤ y))
def EndA (B : Nat) (w : World) (g : Nat) (p : List RC) (x : Int) (e : Ending) (w' : World) : Prop := e = .returned (.bool (headX (dropX p x) x)) ∧ RowAt B w' g 31 (dropX p x) ∧ w.grownBy w' (some g)

theorem RowAt.cut {B : Nat} {w : World} {g : Nat} {t : TypeId} {b off n c : Nat} {r : RC} {l : List RC} (hk : Blk w g t #[.slice (some ⟨b, off, none⟩) n c]) (hr : RdR w (some ⟨b, off, none⟩) n (r :: l)) (hc : n ≤ c) (hm : c ≤ maxLen) (hbb : b < B) :
    RowAt B (w.setCell ⟨g, 0, none⟩ (.slice (some (nxA b off c)) (n - 1) (c - 1))) g t l := by
  have hl := hr.1
  simp only [List.length_cons] at hl
  obtain rfl : n = l.length + 1 := by omega
  have h1 := hr.tail hc
  exact ⟨_, _, hk.set_ 0 _, h1.grownSlice hk (grown_setCell w ⟨g, 0, none⟩ _), by omega, by omega, fun _ a e => by cases e; unfold nxA; split <;> exact hbb⟩

set_option maxRecDepth 100000 in
set_option maxHeartbeats 4000000 in
theorem across_any (B g : Nat) (p : List RC) (x : Int) (w : World) (h : RowAt B w g 31 p) (hc : ∀ r ∈ p, r.cnt = true) :
    Calls Tryz.prog 186 #[.pointer (some ⟨g, 0, none⟩), .int .i64 x] w fun e w' => EndA B w g p x e w' := by
  have HR := Lib.hid h
  have HC := Lib.hid hc
  clear h hc
  go_enter Tryz.func186, Tryz.ntmps186
  go_wp2_with fail
  go_loopw [10] (fun _ wr => ∃ l, RowAt B wr g 31 l ∧ dropX p x = dropX l x ∧ (∀ r ∈ l, r.cnt = true) ∧ w.grownBy wr (some g)) (fun _ wr => lenAt wr g)
  case atStart => exact ⟨p, HR.out, rfl, HC.out, ⟨rfl, rfl, rfl, Nat.le_refl _, fun _ _ _ => rfl⟩⟩
  case round =>
    obtain ⟨l, hat, hdrop, hcl, hgr⟩ := hrel
    have HAT := Lib.hid hat
    have HD := Lib.hid hdrop
    have HCL := Lib.hid hcl
    have HG := Lib.hid hgr
    obtain ⟨A, c, hk, hr, hlc, hcm, hbd⟩ := hat
    have q0 := hk.cellV (i := 0) (v := .slice A l.length c) rfl
    have f0 := hk.frozen 0
    have lg := hk.lt
    have HK := Lib.hid hk
    have HRR := Lib.hid hr
    have HBD := Lib.hid hbd
    clear hdrop hcl hgr hk hr hbd
    cases l with
    | nil =>
      simp only [List.length_nil] at q0 hlc
      have e1 : dropX p x = [] := HD.out
      have HE := Lib.hid e1
      clear e1
      go_wp2_with fail
      go_quiet (fail)
      go_wp2_with fail
      go_ret
      refine ⟨?_, ?_, ?_⟩
      · rw [HE.out]; rfl
      · rw [HE.out]; exact HAT.out.drewN _
      · exact grown_drewN HG.out _
    | cons r l =>
      have hrc := cntI r (HCL.out r (by simp))
      obtain ⟨n, hn⟩ : ∃ n, (r :: l).length = n := ⟨_, rfl⟩
      have hn1 : 1 ≤ n := by rw [← hn]; simp
      have hrr := HRR.out
      have hkk := HK.out
      rw [hn] at q0 hlc hrr hkk
      have HN := Lib.hid hn
      obtain ⟨b, off, rfl, hb, hcc⟩ := hrr.2 (by omega)
      obtain ⟨y0, y1, y2, y3⟩ := hcc 0 r rfl
      simp only [Nat.zero_mul, Nat.add_zero] at y0 y1 y2 y3
      have k1 : (0 : Int) < (n : Int) := by omega
      have k2 : 0 < n := by omega
      have HRN := Lib.hid hrr
      have HKN := Lib.hid hkk
      clear hcc hrr hkk hn
      by_cases hle : r.X + r.W ≤ x
      · have d1 : decide (r.X + r.W ≤ x) = true := decide_eq_true hle
        have hdl : dropX (r :: l) x = dropX l x := by unfold dropX; rw [List.dropWhile_cons, if_pos d1]
        have HDL := Lib.hid hdl
        have hcut := fun W => run_cut_one W b off n c hn1 hlc
        have HCUT := Lib.hid (RowAt.cut (B := B) HKN.out HRN.out hlc hcm (HBD.out (by simp) _ rfl))
        clear hdl
        go_wp2_with fail
        go_quiet (fail)
        go_wp2_with fail
        go_roundw
        case rel => exact ⟨l, HCUT.out.drewN _, HD.out.trans HDL.out, fun s hs => HCL.out s (List.mem_cons_of_mem _ hs), grown_drewN (HG.out.andThen (grown_setCell wr ⟨g, 0, none⟩ _) (fun j hj => .inr hj)) _⟩
        case measure =>
          rw [(HCUT.out.drewN _).len, HAT.out.len]
          simp
      · have d1 : decide (r.X + r.W ≤ x) = false := decide_eq_false hle
        have hdl : dropX (r :: l) x = r :: l := by unfold dropX; rw [List.dropWhile_cons, if_neg (by simpa using hle)]
        have HDL := Lib.hid hdl
        clear hdl
        go_wp2_with fail
        go_quiet (fail)
        go_wp2_with fail
        go_ret
        refine ⟨?_, ?_, ?_⟩
        · rw [HD.out, HDL.out]; rfl
        · rw [HD.out, HDL.out]; exact HAT.out.drewN _
        · exact grown_drewN HG.out _

end Go.Proofs.YtdaedkolpfkdjaaGreat
end

section
namespace Go.Proofs.YtdaedkolpfkdjaaGreat
open Go.RowKit

def takeY (p : List RC) (y : Int) : List RC := p.takeWhile (fun r => decide (r.Y ≤ y))
def EndR (B : Nat) (w : World) (g : Nat) (p : List RC) (y : Int) (e : Ending) (w' : World) : Prop :=
  ∃ A c, e = .returned (.slice A (takeY (dropY p y) y).length c) ∧ (takeY (dropY p y) y).length ≤ c ∧ c ≤ maxLen ∧ RdR w' A (takeY (dropY p y) y).length (takeY (dropY p y) y) ∧ RowAt B w' g 291 (dropY p y) ∧ w.grownBy w' (some g) ∧ (0 < (takeY (dropY p y) y).length → ∀ a, A = some a → a.block < B)
theorem takeY_at {l : List RC} {y : Int} {k : Nat} (h1 : ∀ r ∈ l.take k, r.Y ≤ y) (h2 : ∀ r, l[k]? = some r → ¬ r.Y ≤ y) : takeY l y = l.take k := by
  unfold takeY
  induction l generalizing k with
  | nil => simp
  | cons r l ih =>
    cases k with
    | zero =>
      have := h2 r rfl
      rw [List.takeWhile_cons, if_neg (by simpa using this)]
      rfl
    | succ k =>
      rw [List.take_succ_cons] at h1
      rw [List.takeWhile_cons, if_pos (by simpa using h1 r (by simp)), List.take_succ_cons, ih (fun s hs => h1 s (List.mem_cons_of_mem _ hs)) (fun s hs => h2 s (by simpa using hs))]
theorem endR_of {B : Nat} {w W : World} {g n k c : Nat} {A : Option Addr} {p l : List RC} {y : Int} (hd : dropY p y = l) (hat : RowAt B W g 291 l) (hr : RdR W A n l) (hkn : k ≤ n) (hnc : n ≤ c) (hc : c ≤ maxLen) (h1 : ∀ r ∈ l.take k, r.Y ≤ y) (h2 : ∀ r, l[k]? = some r → ¬ r.Y ≤ y) (hg : w.grownBy W (some g)) (hbd : 0 < n → ∀ a, A = some a → a.block < B) :
    EndR B w g p y (.returned (.slice A k c)) W := by
  have ht := takeY_at h1 h2
  have hp := hr.pre hkn
  unfold EndR
  rw [hd, ht]
  have hl : (l.take k).length = k := hp.1
  rw [hl]
  exact ⟨A, c, rfl, by omega, hc, hp, hat, hg, fun h => hbd (by omega)⟩

set_option maxRecDepth 100000 in
set_option maxHeartbeats 4000000 in
theorem row_any (B g : Nat) (p : List RC) (y : Int) (w : World) (h : RowAt B w g 291 p) (hc : ∀ r ∈ p, r.cnt = true) :
    Calls Tryz.prog 184 #[.pointer (some ⟨g, 0, none⟩), .int .i64 y] w fun e w' => EndR B w g p y e w' := by
  have HR := Lib.hid h
  have HC := Lib.hid hc
  clear h hc
  go_enter Tryz.func184, Tryz.ntmps184
  go_wp2_with fail
  go_loopw [12] (fun _ wr => ∃ l, RowAt B wr g 291 l ∧ dropY p y = dropY l y ∧ (∀ r ∈ l, r.cnt = true) ∧ w.grownBy wr (some g)) (fun _ wr => lenAt wr g)
  case atStart => exact ⟨p, HR.out, rfl, HC.out, ⟨rfl, rfl, rfl, Nat.le_refl _, fun _ _ _ => rfl⟩⟩
  case round =>
    obtain ⟨l, hat, hdrop, hcl, hgr⟩ := hrel
    have HAT := Lib.hid hat
    have HD := Lib.hid hdrop
    have HCL := Lib.hid hcl
    have HG := Lib.hid hgr
    obtain ⟨A, c, hk, hr, hlc, hcm, hbd⟩ := hat
    obtain ⟨n, hn⟩ : ∃ n, l.length = n := ⟨_, rfl⟩
    rw [hn] at hk hr hlc hbd
    have hmx : n ≤ maxLen := Nat.le_trans hlc hcm
    unfold maxLen at hmx
    have q0 := hk.cellV (i := 0) (v := .slice A n c) rfl
    have f0 := hk.frozen 0
    have lg := hk.lt
    have HK := Lib.hid hk
    have HRR := Lib.hid hr
    have HN := Lib.hid hn
    have HBD := Lib.hid hbd
    clear hdrop hcl hgr hk hr hn hbd
    by_cases hmore : ∃ r l', l = r :: l' ∧ r.Y + r.H ≤ y
    · obtain ⟨r, l', rfl, hle⟩ := hmore
      have hrc := cntI r (HCL.out r (by simp))
      have hn1 : 1 ≤ n := by rw [← HN.out]; simp
      obtain ⟨b, off, rfl, hb, hcc⟩ := HRR.out.2 (by omega)
      obtain ⟨y0, y1, y2, y3⟩ := hcc 0 r rfl
      simp only [Nat.zero_mul, Nat.add_zero] at y0 y1 y2 y3
      have k1 : (0 : Int) < (n : Int) := by omega
      have k2 : 0 < n := by omega
      clear hcc
      have d1 : decide (r.Y + r.H ≤ y) = true := decide_eq_true hle
      have hdl : dropY (r :: l') y = dropY l' y := by unfold dropY; rw [List.dropWhile_cons, if_pos d1]
      have HDL := Lib.hid hdl
      have hcut := fun W => run_cut_one W b off n c hn1 hlc
      have HCUT := Lib.hid (RowAt.cut (B := B) HK.out HRR.out hlc hcm (HBD.out k2 _ rfl))
      clear hdl
      go_wp2_with fail
      go_quiet (fail)
      go_wp2_with fail
      go_roundw
      case rel => exact ⟨l', HCUT.out.drewN _, HD.out.trans HDL.out, fun s hs => HCL.out s (List.mem_cons_of_mem _ hs), grown_drewN (HG.out.andThen (grown_setCell wr ⟨g, 0, none⟩ _) (fun j hj => .inr hj)) _⟩
      case measure =>
        rw [(HCUT.out.drewN _).len, HAT.out.len]
        simp
    · have hdl : dropY l y = l := by
        unfold dropY
        cases l with
        | nil => rfl
        | cons r l' => rw [List.dropWhile_cons, if_neg (by simpa using fun h => hmore ⟨r, l', rfl, h⟩)]
      have HDL := Lib.hid (HD.out.trans hdl)
      have HNM := Lib.hid hmore
      have hcuts := fun W k (hk : k ≤ c) => run_cut_to W A n c k hk
      have HCUTS := Lib.hid hcuts
      clear hdl hmore hcuts
      rcases Nat.eq_zero_or_pos n with h0 | h0
      case' inl =>
        have k1 : ¬ (0 : Int) < (n : Int) := by omega
        have k2 : decide ((0 : Int) < (n : Int)) = false := by simp; omega
        have k3 : decide (0 < n) = false := by simp; omega
        have H0 := Lib.hid h0
        clear h0
        go_wp2_with fail
        go_quiet (fail)
      case' inr =>
        have k1 : (0 : Int) < (n : Int) := by omega
        obtain ⟨b, off, hAe, hb, hcc⟩ := HRR.out.2 (by omega)
        rw [hAe] at q0
        obtain ⟨r, hr⟩ : ∃ r, l[0]? = some r := ⟨_, List.getElem?_eq_getElem (by rw [HN.out]; omega)⟩
        have hrc := cntI r (HCL.out r (List.mem_of_getElem? hr))
        obtain ⟨y0, y1, y2, y3⟩ := hcc 0 r hr
        simp only [Nat.zero_mul, Nat.add_zero] at y0 y1 y2 y3
        have d1 : decide (r.Y + r.H ≤ y) = false := decide_eq_false (fun hle => HNM.out (by
          cases l with
          | nil => cases hr
          | cons s l' => cases hr; exact ⟨_, _, rfl, hle⟩))
        clear hcc hr hAe
        go_wp2_with fail
        go_quiet (fail)
      all_goals
        go_wp2_with fail
        have hatD := HAT.out.drewN nq
        have hgD := grown_drewN HG.out nq
        have hrD := HRR.out.below (below_drewN (bre wr) nq)
        have hkD := HK.out.belowS (below_drewN (bre wr) nq)
        obtain ⟨D, hD⟩ : ∃ D, wr.drewN nq = D := ⟨_, rfl⟩
        rw [hD] at hatD hgD hrD hkD ⊢
        have HATD := Lib.hid hatD
        have HGD := Lib.hid hgD
        have HRD := Lib.hid hrD
        have HKD := Lib.hid hkD
        (try clear y0 y1 y2 y3)
        (try clear k1)
        (try clear k2 k3)
        clear hD hatD hgD hrD hkD q0 f0 lg
        go_loopw [5] (fun i w2 => ∃ k : Nat, i = .int .i64 k ∧ k ≤ n ∧ (∀ r ∈ l.take k, r.Y ≤ y) ∧ ∃ q, w2 = D.drewN q) (fun i _ => n - (intOf i).toNat)
        case atStart => exact ⟨0, rfl, by omega, by simp, 0, rfl⟩
        case round =>
          obtain ⟨k, rfl, hkn, hall, q, rfl⟩ := hrel
          have HALL := Lib.hid hall
          have q0 : (D.drewN q).cell? ⟨g, 0, none⟩ = some (.slice A n c) := HKD.out.cellV (i := 0) rfl
          clear hall
          by_cases hlt : k < n
          · obtain ⟨r', hr'⟩ : ∃ r, l[k]? = some r := ⟨_, List.getElem?_eq_getElem (by rw [HN.out]; exact hlt)⟩
            obtain ⟨b', off', hA, hb', hcc'⟩ := HRD.out.2 (by omega)
            rw [hA] at q0
            obtain ⟨z0, z1, z2, z3⟩ := hcc' k r' hr'
            have z1' : (D.drewN q).cell? ⟨b', off' + k * 4 + 1, none⟩ = some (.int .i64 r'.Y) := z1
            have j1 : (k : Int) < (n : Int) := by omega
            have j0 : (0 : Int) ≤ (k : Int) := by omega
            have HAE := Lib.hid hA
            have HR' := Lib.hid hr'
            have HTK := Lib.hid (show l.take (k + 1) = l.take k ++ [r'] by rw [List.take_add_one, hr']; rfl)
            clear hcc' hr' z0 z1 z2 z3 hA
            by_cases hle : r'.Y ≤ y
            · have d1 : decide (r'.Y ≤ y) = true := decide_eq_true hle
              have HLE := Lib.hid hle
              go_wp2_with fail
              go_roundw
              case rel =>
                refine ⟨k + 1, by go_num, by omega, ?_, q, rfl⟩
                rw [HTK.out]
                intro s hs
                rcases List.mem_append.1 hs with hs | hs
                · exact HALL.out s hs
                · simp only [List.mem_singleton] at hs
                  rw [hs]; exact HLE.out
              case measure => simp [intOf]; omega
            · have d1 : decide (r'.Y ≤ y) = false := decide_eq_false hle
              have HLE := Lib.hid hle
              have hct := fun W => HCUTS.out W k (by omega)
              rw [HAE.out] at hct
              go_wp2_with fail
              go_ret
              rw [← HAE.out]
              exact endR_of HDL.out (HATD.out.drewN q) (HRD.out.below (below_drewN (bre D) q)) hkn hlc hcm HALL.out (fun s hs => by rw [HR'.out] at hs; cases hs; exact fun h => absurd HLE.out (by omega)) (grown_drewN HGD.out q) HBD.out
          · obtain rfl : k = n := by omega
            have j1 : ¬ (k : Int) < (k : Int) := by omega
            have j2 : decide ((k : Int) < (k : Int)) = false := by simp
            have j3 : decide (k < k) = false := by simp
            have hct := fun W => HCUTS.out W k hlc
            go_wp2_with fail
            go_ret
            exact endR_of HDL.out (HATD.out.drewN q) (HRD.out.below (below_drewN (bre D) q)) hkn hlc hcm HALL.out (fun s hs => by rw [List.getElem?_eq_none (by rw [HN.out]; exact Nat.le_refl _)] at hs; cases hs) (grown_drewN HGD.out q) HBD.out

end Go.Proofs.YtdaedkolpfkdjaaGreat
end
