/-
  The walk of glazierlaw34.Make.
-/
import Derived.Test.YtdaedkolpfkdjaaGreatZV28
import Derived.Test.YtdaedkolpfkdjaaGreatZV29
section
namespace Go.Proofs.YtdaedkolpfkdjaaGreat
open Go.RowKit Go.Maps Go.Shelf

/-- what Make answers. -/
def MadeP (ps : List PN34) (e : Ending) (w w' : World) : Prop := ∃ (b : Bool) (m1 m2 m3 m4 : Option Nat) (A0 : Option Addr) (n0 c0 : Nat), e = .returned (.tuple #[.agg #[.map m1, .map m2, .map m3, .map m4, .slice A0 n0 c0], .bool b]) ∧ (b = true → ∃ l mk mu mp mc A c RW RH, Made34 w' (.agg #[.map m1, .map m2, .map m3, .map m4, .slice A0 n0 c0]) ps l mk mu mp mc A c RW RH) ∧ Below w.heap.size w w'
theorem blk_puts5 {w : World} {g : Nat} {t : TypeId} {a0 a1 a2 a3 a4 : Value} (b0 b1 b2 b3 b4 : Value) (h : Blk w g t #[a0, a1, a2, a3, a4]) : Blk (((((w.setCell ⟨g, 0, none⟩ b0).setCell ⟨g, 1, none⟩ b1).setCell ⟨g, 2, none⟩ b2).setCell ⟨g, 3, none⟩ b3).setCell ⟨g, 4, none⟩ b4) g t #[b0, b1, b2, b3, b4] :=
 ((((h.set_ 0 b0).set_ 1 b1).set_ 2 b2).set_ 3 b3).set_ 4 b4
theorem below_sets5 {w W : World} (hB : Below w.heap.size w W) {g : Nat} (hg : w.heap.size ≤ g) (b0 b1 b2 b3 b4 : Value) : Below w.heap.size w (((((W.setCell ⟨g, 0, none⟩ b0).setCell ⟨g, 1, none⟩ b1).setCell ⟨g, 2, none⟩ b2).setCell ⟨g, 3, none⟩ b3).setCell ⟨g, 4, none⟩ b4) :=
 bset (p := ⟨g, 4, none⟩) (bset (p := ⟨g, 3, none⟩) (bset (p := ⟨g, 2, none⟩) (bset (p := ⟨g, 1, none⟩) (bset (p := ⟨g, 0, none⟩) hB hg b0) hg b1) hg b2) hg b3) hg b4
theorem no8w (a0 a1 a2 a3 a4 : Int) (b5 b6 : Bool) (A : Option Addr) (n m : Nat) (A' : Option Addr) (n' m' : Nat) : ∀ (j : Nat) (x : Int), (#[.int .i64 a0, .int .i64 a1, .int .i64 a2, .int .i64 a3, .int .i64 a4, .bool b5, .bool b6, .slice A n m, .slice A' n' m'] : Array Value)[j]? ≠ some (.int .u8 x) := fun j x => by
 match j with
 | 0 => simp
 | 1 => simp
 | 2 => simp
 | 3 => simp
 | 4 => simp
 | 5 => simp
 | 6 => simp
 | 7 => simp
 | 8 => simp
 | j + 9 => simp
theorem sets5_ind {W : World} {g : Nat} {t : TypeId} {a0 a1 a2 a3 a4 : Value} {P : World → Prop} (h : Blk W g t #[a0, a1, a2, a3, a4]) (ha : NoI #[a0, a1, a2, a3, a4]) (b0 b1 b2 b3 b4 : Value) (hb : NoI #[b0, b1, b2, b3, b4]) (hP : P W) (hstep : ∀ (V : World) (cs : Array Value) (i : Nat) (u : Value), Blk V g t cs → NoI cs → P V → P (V.setCell ⟨g, i, none⟩ u)) :
 P (((((W.setCell ⟨g, 0, none⟩ b0).setCell ⟨g, 1, none⟩ b1).setCell ⟨g, 2, none⟩ b2).setCell ⟨g, 3, none⟩ b3).setCell ⟨g, 4, none⟩ b4) := by
 have n5 : ∀ {c0 c1 c2 c3 c4 : Value}, (∀ k x, c0 ≠ .int k x) → (∀ k x, c1 ≠ .int k x) → (∀ k x, c2 ≠ .int k x) → (∀ k x, c3 ≠ .int k x) → (∀ k x, c4 ≠ .int k x) → NoI #[c0, c1, c2, c3, c4] := fun h0 h1 h2 h3 h4 j k x => by
  match j with
  | 0 => simpa using h0 k x
  | 1 => simpa using h1 k x
  | 2 => simpa using h2 k x
  | 3 => simpa using h3 k x
  | 4 => simpa using h4 k x
  | j + 5 => simp
 have e : ∀ {c0 c1 c2 c3 c4 : Value}, NoI #[c0, c1, c2, c3, c4] → (∀ k x, c0 ≠ .int k x) ∧ (∀ k x, c1 ≠ .int k x) ∧ (∀ k x, c2 ≠ .int k x) ∧ (∀ k x, c3 ≠ .int k x) ∧ (∀ k x, c4 ≠ .int k x) := fun h => ⟨fun k x => by simpa using h 0 k x, fun k x => by simpa using h 1 k x, fun k x => by simpa using h 2 k x, fun k x => by simpa using h 3 k x, fun k x => by simpa using h 4 k x⟩
 obtain ⟨p0, p1, p2, p3, p4⟩ := e ha
 obtain ⟨q0, q1, q2, q3, _⟩ := e hb
 have h1 : Blk _ g t #[b0, a1, a2, a3, a4] := h.set_ 0 b0
 have h2 : Blk _ g t #[b0, b1, a2, a3, a4] := h1.set_ 1 b1
 have h3 : Blk _ g t #[b0, b1, b2, a3, a4] := h2.set_ 2 b2
 have h4 : Blk _ g t #[b0, b1, b2, b3, a4] := h3.set_ 3 b3
 exact hstep _ _ 4 b4 h4 (n5 q0 q1 q2 q3 p4) (hstep _ _ 3 b3 h3 (n5 q0 q1 q2 p3 p4) (hstep _ _ 2 b2 h2 (n5 q0 q1 p2 p3 p4) (hstep _ _ 1 b1 h1 (n5 q0 p1 p2 p3 p4) (hstep _ _ 0 b0 h ha hP))))
theorem made_end {w wr : World} {ps : List PN34} {l : List R34} {mk mu mp mc : Option Nat} {AL : Option Addr} {k cL RW RH g : Nat} {a0 a1 a2 a3 a4 : Value} {p0 : PN34} (hlk : l.length = k) (hn1 : 1 ≤ k) (hn7 : k ≤ 7) (hps : ps.length = k) (h2 : Blk wr g 70 #[a0, a1, a2, a3, a4]) (ha : NoI #[a0, a1, a2, a3, a4]) (hb : NoI #[.map mk, .map mu, .map mp, .map mc, .slice AL k cL])
 (hmt : MT wr l mk mu) (hmp : MP wr l mp RW RH) (hmc : MC wr l mc) (hmx : MX wr l) (hown : wr.ownsRow (w.heap.size + 1 + 1) 88 9 (.slice AL k cL) k (l.flatMap R34.cells)) (hlike : ∀ (j : Nat) (p : PN34) (d : R34), ps[j]? = some p → l[j]? = some d → Like34 j p d) (hshp : ∀ d ∈ l, RdR w d.A d.n d.sh)
 (hbx : Below w.heap.size w (((((wr.setCell ⟨g, 0, none⟩ (.map mk)).setCell ⟨g, 1, none⟩ (.map mu)).setCell ⟨g, 2, none⟩ (.map mp)).setCell ⟨g, 3, none⟩ (.map mc)).setCell ⟨g, 4, none⟩ (.slice AL k cL))) (hp0 : ps[0]? = some p0 ∧ (RW : Int) = p0.W % 16 + 1 ∧ (RH : Int) = p0.H % 16 + 1) :
 Made34 (((((wr.setCell ⟨g, 0, none⟩ (.map mk)).setCell ⟨g, 1, none⟩ (.map mu)).setCell ⟨g, 2, none⟩ (.map mp)).setCell ⟨g, 3, none⟩ (.map mc)).setCell ⟨g, 4, none⟩ (.slice AL k cL)) (.agg #[.map mk, .map mu, .map mp, .map mc, .slice AL k cL]) ps l mk mu mp mc AL cL RW RH := by
 have ho2 := sets5_ind (P := fun V => V.ownsRow (w.heap.size + 1 + 1) 88 9 (.slice AL k cL) k (l.flatMap R34.cells)) h2 ha (.map mk) (.map mu) (.map mp) (.map mc) (.slice AL k cL) hb hown (fun V cs i u hB _ ho => ho.kept (grown_setCell V ⟨g, i, none⟩ u) (.inr (own_other ho hB (by decide))))
 obtain ⟨d0, hd0⟩ : ∃ d, l[0]? = some d := ⟨_, List.getElem?_eq_getElem (by omega)⟩
 have hk0 := hlike 0 p0 d0 hp0.1 hd0
 have e1 := hk0.W
 have e2 := hk0.H
 refine ⟨by rw [hlk], sets5_ind (P := fun V => MT V l mk mu) h2 ha _ _ _ _ _ hb hmt (fun V cs i u hB hn h => h.set hB hn i u), sets5_ind (P := fun V => MP V l mp RW RH) h2 ha _ _ _ _ _ hb hmp (fun V cs i u hB hn h => h.set hB hn i u), sets5_ind (P := fun V => MC V l mc) h2 ha _ _ _ _ _ hb hmc (fun V cs i u hB hn h => h.set hB hn i u), ?_, fun d hd => (hshp d hd).below hbx, sets5_ind (P := fun V => MX V l) h2 ha _ _ _ _ _ hb hmx (fun V cs i u hB hn h => h.set hB hn i u), by omega, by omega, hlike, d0, hd0, by omega, by omega⟩
 rw [hlk]
 exact RdF.of_own R34.cells_len ho2 hlk
set_option maxRecDepth 100000 in
set_option maxHeartbeats 8000000 in
theorem make34_any (A : Option Addr) (n c : Nat) (ps : List PN34) (w : World) (hn : n ≤ maxLen) (hr : RdP34 w A n ps) (hok : ∀ p ∈ ps, p.ok) :
 Calls Tryz.prog 33 #[.slice A n c] w fun e w' => MadeP ps e w w' := by
 have HR := Lib.hid hr
 have HOK := Lib.hid hok
 have hlen := hr.recs.1
 have HLN := Lib.hid hlen
 have hn9 : (n : Int) ≤ 9223372036854775807 := by simp only [maxLen] at hn; omega
 clear hr hok hlen hn
 have xb := bal (bal (bre w) (.cells #[.map none, .map none, .map none, .map none, .slice none 0 0] 70)) (.cells #[.map none, .map none, .map none, .map none, .slice none 0 0] 70)
 have x2 := (Blk.new w 70 #[.map none, .map none, .map none, .map none, .slice none 0 0]).alloc (.cells #[.map none, .map none, .map none, .map none, .slice none 0 0] 70)
 have x4 := blk_new2 w (.cells #[.map none, .map none, .map none, .map none, .slice none 0 0] 70) 70 #[.map none, .map none, .map none, .map none, .slice none 0 0]
 go_enter Tryz.func33, Tryz.ntmps33
 go_upto_region 2 with fail
 obtain ⟨X, hX⟩ : ∃ X, (w.alloc (.cells #[.map none, .map none, .map none, .map none, .slice none 0 0] 70)).alloc (.cells #[.map none, .map none, .map none, .map none, .slice none 0 0] 70) = X := ⟨_, rfl⟩
 rw [hX] at xb x2 x4 ⊢
 have HB := Lib.hid xb
 have K2 := Lib.hid x2
 have K4 := Lib.hid x4
 have c0 := x4.cellV (i := 0) (v := .map none) rfl
 have c1 := x4.cellV (i := 1) (v := .map none) rfl
 have c2 := x4.cellV (i := 2) (v := .map none) rfl
 have c3 := x4.cellV (i := 3) (v := .map none) rfl
 have c4 := x4.cellV (i := 4) (v := .slice none 0 0) rfl
 have d0 := x2.cellV (i := 0) (v := .map none) rfl
 have d1 := x2.cellV (i := 1) (v := .map none) rfl
 have d2 := x2.cellV (i := 2) (v := .map none) rfl
 have d3 := x2.cellV (i := 3) (v := .map none) rfl
 have d4 := x2.cellV (i := 4) (v := .slice none 0 0) rfl
 have f0 := x2.frozen 0
 have f1 := x2.frozen 1
 have f2 := x2.frozen 2
 have f3 := x2.frozen 3
 have f4 := x2.frozen 4
 have l2 := x2.lt
 clear xb x2 x4 hX
 have FAIL := Lib.hid (show ∀ (W : World) (m1 m2 m3 m4 : Option Nat) (A0 : Option Addr) (n0 c0 : Nat), Below w.heap.size w W → MadeP ps (.returned (.tuple #[.agg #[.map m1, .map m2, .map m3, .map m4, .slice A0 n0 c0], .bool false])) w W from fun W m1 m2 m3 m4 A0 n0 c0 h => ⟨false, m1, m2, m3, m4, A0, n0, c0, rfl, (fun h => by cases h), h⟩)
 by_cases h0 : n = 0
 ·
  subst h0
  go_upto_region 3 with fail
  repeat (first | go_values | go_skip | go_guarded | go_step | go_upon)
  have h9 := (blk_puts5 (.map none) (.map none) (.map none) (.map none) (.slice none 0 0) K2.out)
  have r0 := h9.cellV (i := 0) (v := .map none) rfl
  have r1 := h9.cellV (i := 1) (v := .map none) rfl
  have r2 := h9.cellV (i := 2) (v := .map none) rfl
  have r3 := h9.cellV (i := 3) (v := .map none) rfl
  have r4 := h9.cellV (i := 4) (v := .slice none 0 0) rfl
  exact bodyPost_ret (v := .tuple #[.agg #[.map none, .map none, .map none, .map none, .slice none 0 0], .bool false]) (by simp [results, Tryz.results33, go_sem, r0, r1, r2, r3, r4]) rfl (FAIL.out _ _ _ _ _ _ _ _ (below_sets5 HB.out (Nat.le_refl _) _ _ _ _ _))
 have z0 : ((n : Int) == 0) = false := by rw [beq_eq_false_iff_ne]; omega
 by_cases h7 : 7 < n
 ·
  have z7 : decide ((7 : Int) < (n : Int)) = true := decide_eq_true (by omega)
  go_upto_region 3 with fail
  repeat (first | go_values | go_skip | go_guarded | go_step | go_upon)
  have h9 := (blk_puts5 (.map none) (.map none) (.map none) (.map none) (.slice none 0 0) K2.out)
  have r0 := h9.cellV (i := 0) (v := .map none) rfl
  have r1 := h9.cellV (i := 1) (v := .map none) rfl
  have r2 := h9.cellV (i := 2) (v := .map none) rfl
  have r3 := h9.cellV (i := 3) (v := .map none) rfl
  have r4 := h9.cellV (i := 4) (v := .slice none 0 0) rfl
  exact bodyPost_ret (v := .tuple #[.agg #[.map none, .map none, .map none, .map none, .slice none 0 0], .bool false]) (by simp [results, Tryz.results33, go_sem, r0, r1, r2, r3, r4]) rfl (FAIL.out _ _ _ _ _ _ _ _ (below_sets5 HB.out (Nat.le_refl _) _ _ _ _ _))
 have z7 : decide ((7 : Int) < (n : Int)) = false := decide_eq_false (by omega)
 have hn7 : n ≤ 7 := by omega
 have hn1 : 1 ≤ n := by omega
 obtain ⟨p0, hp0⟩ : ∃ p0, ps[0]? = some p0 := ⟨_, List.getElem?_eq_getElem (by rw [HLN.out]; omega)⟩
 have hp0k := HOK.out p0 (List.mem_of_getElem? hp0)
 obtain ⟨RW, hRW⟩ : ∃ RW : Nat, (RW : Int) = p0.W % 16 + 1 := ⟨(p0.W % 16 + 1).toNat, by have := hp0k.w; omega⟩
 obtain ⟨RH, hRH⟩ : ∃ RH : Nat, (RH : Int) = p0.H % 16 + 1 := ⟨(p0.H % 16 + 1).toNat, by have := hp0k.h; omega⟩
 have HP0 := Lib.hid (show ps[0]? = some p0 ∧ (RW : Int) = p0.W % 16 + 1 ∧ (RH : Int) = p0.H % 16 + 1 from ⟨hp0, hRW, hRH⟩)
 clear hp0 hp0k hRW hRH
 go_upto_region 4 with fail
 clear c0 c1 c2 c3 c4 d0 d1 d2 d3 d4 f0 f1 f2 f3 f4 l2 z0 z7 h0 h7
 go_wp2_with fail
 go_loopw [25, 5, 6, 7, 8, 9, 10, 11, 12, 13] (fun i _ _ _ _ _ _ _ _ _ wr => ∃ (k : Nat) (l : List R34) (mk mu mp mc : Option Nat) (AL : Option Addr) (cL : Nat), i = .int .i64 k ∧ (k ≤ n ∧ l.length = k) ∧ Blk wr (w.heap.size + 1) 70 #[.map mk, .map mu, .map mp, .map mc, .slice AL k cL] ∧ Blk wr w.heap.size 70 #[.map none, .map none, .map none, .map none, .slice none 0 0] ∧ (MT wr l mk mu ∧ MPf wr (.slice AL k cL) l mp RW RH ∧ MCf wr (.slice AL k cL) l mc ∧ MXf wr (.slice AL k cL) l) ∧ wr.ownsRow (w.heap.size + 1 + 1) 88 9 (.slice AL k cL) k (l.flatMap R34.cells) ∧ (∀ (j : Nat) (p : PN34) (d : R34), ps[j]? = some p → l[j]? = some d → Like34 j p d) ∧ (∀ d ∈ l, RdR w d.A d.n d.sh) ∧ Below w.heap.size w wr) (fun i _ _ _ _ _ _ _ _ _ _ => n - (intOf i).toNat)
 case atStart => exact ⟨0, [], none, none, none, none, none, 0, rfl, ⟨by omega, rfl⟩, K4.out, K2.out, ⟨mt_nil _, .inl ⟨rfl, rfl⟩, mcf_nil _ _, mxf_nil _ _⟩, World.ownsRow_nil _ _ _ _, (fun j p d _ h => by simp at h), (fun d hd => by cases hd), HB.out⟩
 case round =>
  obtain ⟨k, l, mk, mu, mp, mc, AL, cL, rfl, ⟨hk, hlk⟩, hb4, hb2, ⟨hmt, hmp, hmc, hmx⟩, hown, hlike, hshp, hbr⟩ := hrel
  have K4 := Lib.hid hb4
  have K2 := Lib.hid hb2
  have HMT := Lib.hid hmt
  have HMP := Lib.hid hmp
  have HMC := Lib.hid hmc
  have HMX := Lib.hid hmx
  have HOW := Lib.hid hown
  have HLI := Lib.hid hlike
  have HSH := Lib.hid hshp
  have HBR := Lib.hid hbr
  have HLK := Lib.hid hlk
  clear hb4 hb2 hmt hmp hmc hmx hown hlike hshp hbr hlk
  by_cases hlt : k < n
  ·
   as_aux_lemma =>
    obtain ⟨p, hpk⟩ : ∃ p, ps[k]? = some p := ⟨_, List.getElem?_eq_getElem (by rw [HLN.out]; exact hlt)⟩
    have hpo := HOK.out p (List.mem_of_getElem? hpk)
    have HPS := Lib.hid (HR.out.shapes p (List.mem_of_getElem? hpk))
    obtain ⟨b, off, rfl, hbl, hcl⟩ := (HR.out.recs.below HBR.out).2 (by omega)
    have hrow := fun i u hu => hcl k p hpk i u hu
    obtain ⟨pU, pX, pY, pW, pH, pM, pS, pA, pn, pc, pI, psh⟩ := p
    have x0 := hrow 0 _ rfl
    have x1 := hrow 1 _ rfl
    have x2 := hrow 2 _ rfl
    have x3 := hrow 3 _ rfl
    have x4 := hrow 4 _ rfl
    have x5 := hrow 5 _ rfl
    have x6 := hrow 6 _ rfl
    have x7 := hrow 7 _ rfl
    have x8 := hrow 8 _ rfl
    dsimp only at x0 x1 x2 x3 x4 x5 x6 x7 x8
    rw [Nat.add_zero] at x0
    have HPK := Lib.hid hpk
    have HPO := Lib.hid hpo
    have k1 : (k : Int) < (n : Int) := by omega
    have k0 : (0 : Int) ≤ (k : Int) := by omega
    clear hrow hcl hpk hpo hbl

    go_upto_region 7 with fail
    have hba := bal (bre wr) (.cells #[.int .u8 pU, .int .i8 pX, .int .i8 pY, .int .u8 pW, .int .u8 pH, .bool pM, .bool pS, .slice pA pn pc, .int .u8 pI] 85)
    have x6' := Blk.new wr 85 #[.int .u8 pU, .int .i8 pX, .int .i8 pY, .int .u8 pW, .int .u8 pH, .bool pM, .bool pS, .slice pA pn pc, .int .u8 pI]
    replace HMT := Lib.hid (HMT.out.below hba)
    replace HMP := Lib.hid (HMP.out.below hba)
    replace HMC := Lib.hid (HMC.out.below hba)
    replace HMX := Lib.hid (HMX.out.below hba)
    replace K4 := Lib.hid (K4.out.belowS hba)
    replace K2 := Lib.hid (K2.out.belowS hba)
    replace HOW := Lib.hid (ownsRow_below HOW.out hba)
    replace HBR := Lib.hid (bstep HBR.out hba)
    obtain ⟨g6, hg6⟩ : ∃ g, wr.heap.size = g := ⟨_, rfl⟩
    obtain ⟨X6, hX6⟩ : ∃ X, wr.alloc (.cells #[.int .u8 pU, .int .i8 pX, .int .i8 pY, .int .u8 pW, .int .u8 pH, .bool pM, .bool pS, .slice pA pn pc, .int .u8 pI] 85) = X := ⟨_, rfl⟩
    have HAB := Lib.hid (⟨HMT.out, HMP.out, HMC.out, HMX.out, K4.out, K2.out, HOW.out, HBR.out, x6'⟩ : _ ∧ _ ∧ _ ∧ _ ∧ _ ∧ _ ∧ _ ∧ _ ∧ _)
    have hab := HAB.out
    rw [hX6] at hab ⊢
    rw [hg6] at hab ⊢
    obtain ⟨a1, a2, a3, a4, a5, a6, a7, a8, a9⟩ := hab
    replace HMT := Lib.hid a1
    replace HMP := Lib.hid a2
    replace HMC := Lib.hid a3
    replace HMX := Lib.hid a4
    replace K4 := Lib.hid a5
    replace K2 := Lib.hid a6
    replace HOW := Lib.hid a7
    replace HBR := Lib.hid a8
    have K6 := Lib.hid a9
    clear a1 a2 a3 a4 a5 a6 a7 a8 a9 HAB hba x6' hX6 hg6 x0 x1 x2 x3 x4 x5 x6 x7 x8
    obtain ⟨wm, hwm⟩ : ∃ x, pW % 16 = x := ⟨_, rfl⟩
    obtain ⟨hm, hhm⟩ : ∃ x, pH % 16 = x := ⟨_, rfl⟩
    have hpw := HPO.out.w
    have hph := HPO.out.h
    dsimp only at hpw hph
    have hwb : 0 ≤ wm ∧ wm ≤ 15 := by omega
    have hhb : 0 ≤ hm ∧ hm ≤ 15 := by omega
    obtain ⟨W, hW⟩ : ∃ W : Nat, (W : Int) = wm + 1 := ⟨(wm + 1).toNat, by omega⟩
    obtain ⟨H, hH⟩ : ∃ H : Nat, (H : Int) = hm + 1 := ⟨(hm + 1).toNat, by omega⟩
    have HWM := Lib.hid (show (W : Int) = pW % 16 + 1 ∧ (H : Int) = pH % 16 + 1 by omega)
    have t0 : pW.tmod 16 = wm := by rw [Int.tmod_eq_emod_of_nonneg (by omega)]; exact hwm
    have t1 : pH.tmod 16 = hm := by rw [Int.tmod_eq_emod_of_nonneg (by omega)]; exact hhm
    have t2 : IntKind.u8.wrap wm = wm := IntWalk.u8_in _ (by omega)
    have t3 : IntKind.u8.wrap hm = hm := IntWalk.u8_in _ (by omega)
    have t4 : IntKind.i64.wrap wm = wm := IntWalk.i64_in _ (by omega)
    have t5 : IntKind.i64.wrap hm = hm := IntWalk.i64_in _ (by omega)
    have t6 : IntKind.i64.wrap (wm + 1) = (W : Int) := by rw [hW]; exact IntWalk.i64_in _ (by omega)
    have t7 : IntKind.i64.wrap (hm + 1) = (H : Int) := by rw [hH]; exact IntWalk.i64_in _ (by omega)
    have hWb : 1 ≤ W ∧ W ≤ 128 := by omega
    have hHb : 1 ≤ H ∧ H ≤ 128 := by omega
    have HWB := Lib.hid (⟨hWb, hHb⟩ : (1 ≤ W ∧ W ≤ 128) ∧ 1 ≤ H ∧ H ≤ 128)
    clear hwm hhm hpw hph hW hH
    go_cut [7, 8] (fun s7 s8 wx => s7 = .int .i64 W ∧ s8 = .int .i64 H ∧ Below X6.heap.size X6 wx)
    case first =>
     as_aux_lemma =>
      have HBW := Lib.hid (show Below X6.heap.size X6 X6.drew from (bre X6).drew)
      have KW := Lib.hid (fun (W' : World) (h : Below X6.heap.size X6 W') => show (fun w' => w'.cell? ⟨g6, 3, none⟩ = some (.int .u8 pW) ∧ w'.cell? ⟨g6, 4, none⟩ = some (.int .u8 pH)) W' from ⟨(K6.out.belowS h).cellV (i := 3) rfl, (K6.out.belowS h).cellV (i := 4) rfl⟩)
      refine wp_region_noPanic ?_
      refine wp_region_held_drew (S := (fun w' => w'.cell? ⟨g6, 3, none⟩ = some (.int .u8 pW) ∧ w'.cell? ⟨g6, 4, none⟩ = some (.int .u8 pH))) (by kernel_rfl) ?_ (fun _ => ?_)
      ·
       (try dsimp only)
       exact ⟨(K6.out.belowS HBW.out).cellV (i := 3) rfl, (K6.out.belowS HBW.out).cellV (i := 4) rfl⟩
      refine Tr.take_at 0 30 (.pointer (some ⟨g6, 3, none⟩)) rfl rfl (by kernel_rfl) (by kernel_rfl) (by kernel_rfl) (fun _ _ _ h => h) (Or.inl ⟨by rfl, ?_⟩) (by assumption) ?_
      ·
       intro W0 hSw
       (try dsimp only at hSw)
       go_simp
      simp only [List.set_cons_zero, List.set_cons_succ]
      refine Tr.take_at 1 31 (.int .u8 pW) rfl rfl (by kernel_rfl) (by kernel_rfl) (by kernel_rfl) (fun _ _ _ h => h) (Or.inl ⟨by rfl, ?_⟩) (by assumption) ?_
      ·
       intro W0 hSw
       (try dsimp only at hSw)
       go_simp
      simp only [List.set_cons_zero, List.set_cons_succ]
      refine Tr.take_at 2 32 (.int .u8 wm) rfl rfl (by kernel_rfl) (by kernel_rfl) (by kernel_rfl) (fun _ _ _ h => h) (Or.inl ⟨by rfl, ?_⟩) (by assumption) ?_
      ·
       intro W0 hSw
       (try dsimp only at hSw)
       go_simp
      simp only [List.set_cons_zero, List.set_cons_succ]
      refine Tr.take_at 3 33 (.int .i64 wm) rfl rfl (by kernel_rfl) (by kernel_rfl) (by kernel_rfl) (fun _ _ _ h => h) (Or.inl ⟨by rfl, ?_⟩) (by assumption) ?_
      ·
       intro W0 hSw
       (try dsimp only at hSw)
       go_simp
      simp only [List.set_cons_zero, List.set_cons_succ]
      refine Tr.take_at 4 34 (.int .i64 W) rfl rfl (by kernel_rfl) (by kernel_rfl) (by kernel_rfl) (fun _ _ _ h => h) (Or.inl ⟨by rfl, ?_⟩) (by assumption) ?_
      ·
       intro W0 hSw
       (try dsimp only at hSw)
       go_simp
      simp only [List.set_cons_zero, List.set_cons_succ]
      refine Tr.take_at 5 35 (.pointer (some ⟨g6, 4, none⟩)) rfl rfl (by kernel_rfl) (by kernel_rfl) (by kernel_rfl) (fun _ _ _ h => h) (Or.inl ⟨by rfl, ?_⟩) (by assumption) ?_
      ·
       intro W0 hSw
       (try dsimp only at hSw)
       go_simp
      simp only [List.set_cons_zero, List.set_cons_succ]
      refine Tr.take_at 6 36 (.int .u8 pH) rfl rfl (by kernel_rfl) (by kernel_rfl) (by kernel_rfl) (fun _ _ _ h => h) (Or.inl ⟨by rfl, ?_⟩) (by assumption) ?_
      ·
       intro W0 hSw
       (try dsimp only at hSw)
       go_simp
      simp only [List.set_cons_zero, List.set_cons_succ]
      refine Tr.take_at 7 37 (.int .u8 hm) rfl rfl (by kernel_rfl) (by kernel_rfl) (by kernel_rfl) (fun _ _ _ h => h) (Or.inl ⟨by rfl, ?_⟩) (by assumption) ?_
      ·
       intro W0 hSw
       (try dsimp only at hSw)
       go_simp
      simp only [List.set_cons_zero, List.set_cons_succ]
      refine Tr.take_at 8 38 (.int .i64 hm) rfl rfl (by kernel_rfl) (by kernel_rfl) (by kernel_rfl) (fun _ _ _ h => h) (Or.inl ⟨by rfl, ?_⟩) (by assumption) ?_
      ·
       intro W0 hSw
       (try dsimp only at hSw)
       go_simp
      simp only [List.set_cons_zero, List.set_cons_succ]
      refine Tr.take_at 9 39 (.int .i64 H) rfl rfl (by kernel_rfl) (by kernel_rfl) (by kernel_rfl) (fun _ _ _ h => h) (Or.inl ⟨by rfl, ?_⟩) (by assumption) ?_
      ·
       intro W0 hSw
       (try dsimp only at hSw)
       go_simp
      simp only [List.set_cons_zero, List.set_cons_succ]
      refine Tr.take_at 10 7 (.int .i64 W) rfl rfl (by kernel_rfl) (by kernel_rfl) (by kernel_rfl) (fun _ _ _ h => h) (Or.inl ⟨by rfl, ?_⟩) (by assumption) ?_
      ·
       intro W0 hSw
       (try dsimp only at hSw)
       go_simp
      simp only [List.set_cons_zero, List.set_cons_succ]
      refine Tr.take_at 11 8 (.int .i64 H) rfl rfl (by kernel_rfl) (by kernel_rfl) (by kernel_rfl) (fun _ _ _ h => h) (Or.inl ⟨by rfl, ?_⟩) (by assumption) ?_
      ·
       intro W0 hSw
       (try dsimp only at hSw)
       go_simp
      simp only [List.set_cons_zero, List.set_cons_succ]
      refine wpAnyH_done (by kernel_rfl) ?_ _
      refine NoPanic.normal ?_
      go_wp2_with fail
      go_meet
      exact ⟨rfl, rfl, HBW.out⟩
    obtain ⟨rfl, rfl, hbc⟩ := hcut
    replace HMT := Lib.hid (HMT.out.below hbc)
    replace HMP := Lib.hid (HMP.out.below hbc)
    replace HMC := Lib.hid (HMC.out.below hbc)
    replace HMX := Lib.hid (HMX.out.below hbc)
    replace K4 := Lib.hid (K4.out.belowS hbc)
    replace K2 := Lib.hid (K2.out.belowS hbc)
    replace K6 := Lib.hid (K6.out.belowS hbc)
    replace HOW := Lib.hid (ownsRow_below HOW.out hbc)
    replace HBR := Lib.hid (bstep HBR.out hbc)
    clear hbc t0 t1 t2 t3 t4 t5 t6 t7 hwb hhb hWb hHb
    obtain ⟨X7, hX7⟩ : ∃ X, X = wc := ⟨_, rfl⟩
    subst hX7
    have e7 := K6.out.cellV (i := 7) (v := .slice pA pn pc) rfl
    go_wp2_with fail
    refine (small_any pA pn pc psh _ HPO.out.n (HPS.out.below HBR.out)).mono ?_
    rintro e w8 ⟨bsm, rfl, hsm, hb8⟩
    have HSM := Lib.hid hsm
    replace HMT := Lib.hid (HMT.out.below hb8)
    replace HMP := Lib.hid (HMP.out.below hb8)
    replace HMC := Lib.hid (HMC.out.below hb8)
    replace HMX := Lib.hid (HMX.out.below hb8)
    replace K4 := Lib.hid (K4.out.belowS hb8)
    replace K2 := Lib.hid (K2.out.belowS hb8)
    replace K6 := Lib.hid (K6.out.belowS hb8)
    replace HOW := Lib.hid (ownsRow_below HOW.out hb8)
    replace HBR := Lib.hid (bstep HBR.out hb8)
    clear hsm hb8 e7
    cases bsm
    ·
     as_aux_lemma =>
      have c0 := K4.out.cellV (i := 0) (v := .map mk) rfl
      have c1 := K4.out.cellV (i := 1) (v := .map mu) rfl
      have c2 := K4.out.cellV (i := 2) (v := .map mp) rfl
      have c3 := K4.out.cellV (i := 3) (v := .map mc) rfl
      have c4 := K4.out.cellV (i := 4) (v := .slice AL k cL) rfl
      have d0 := K2.out.cellV (i := 0) (v := .map none) rfl
      have d1 := K2.out.cellV (i := 1) (v := .map none) rfl
      have d2 := K2.out.cellV (i := 2) (v := .map none) rfl
      have d3 := K2.out.cellV (i := 3) (v := .map none) rfl
      have d4 := K2.out.cellV (i := 4) (v := .slice none 0 0) rfl
      have f0 := K2.out.frozen 0
      have f1 := K2.out.frozen 1
      have f2 := K2.out.frozen 2
      have f3 := K2.out.frozen 3
      have f4 := K2.out.frozen 4
      have l2 := K2.out.lt
      go_upto_region 9 with fail
      repeat (first | go_values | go_skip | go_guarded | go_step | go_upon)
      have h9 := (blk_puts5 (.map mk) (.map mu) (.map mp) (.map mc) (.slice AL k cL) K2.out)
      have r0 := h9.cellV (i := 0) (v := .map mk) rfl
      have r1 := h9.cellV (i := 1) (v := .map mu) rfl
      have r2 := h9.cellV (i := 2) (v := .map mp) rfl
      have r3 := h9.cellV (i := 3) (v := .map mc) rfl
      have r4 := h9.cellV (i := 4) (v := .slice AL k cL) rfl
      exact bodyPost_ret (v := .tuple #[.agg #[.map mk, .map mu, .map mp, .map mc, .slice AL k cL], .bool false]) (by simp [results, Tryz.results33, go_sem, r0, r1, r2, r3, r4]) rfl (FAIL.out _ _ _ _ _ _ _ _ (below_sets5 HBR.out (Nat.le_refl _) _ _ _ _ _))

    replace HSM := Lib.hid (HSM.out rfl)
    have e8 := K6.out.cellV (i := 8) (v := .int .u8 pI) rfl
    go_upto_region 10 with fail
    apply wp_region_lit
    repeat (first | go_step | go_upon)
    refine (ink_any W H pI _ HWB.out.1 HWB.out.2).mono ?_
    have hown0 := HOW.out
    rintro e w10 ⟨Ap, cp, rfl, hri, hcp, hfp, hb10⟩
    have HFP := Lib.hid (Far.fr (n := W * H) hfp (fun g hg => (hown0.lt g hg).2))
    have HRI := Lib.hid hri
    have HCP := Lib.hid hcp
    replace HMT := Lib.hid (HMT.out.below hb10)
    replace HMP := Lib.hid (HMP.out.below hb10)
    replace HMC := Lib.hid (HMC.out.below hb10)
    replace HMX := Lib.hid (HMX.out.below hb10)
    replace K4 := Lib.hid (K4.out.belowS hb10)
    replace K2 := Lib.hid (K2.out.belowS hb10)
    replace K6 := Lib.hid (K6.out.belowS hb10)
    replace HOW := Lib.hid (ownsRow_below HOW.out hb10)
    replace HBR := Lib.hid (bstep HBR.out hb10)
    have HLO := Lib.hid (show ∀ g, (Value.slice AL k cL).ownBlock = some g → g < w10.heap.size from fun g hg => (HOW.out.lt g hg).2)
    have hba := bal (bre w10) (.cells #[.int .i64 (-1), .int .i64 0, .int .i64 0, .int .i64 W, .int .i64 H, .bool true, .bool false, .slice none 0 0, .slice Ap (W * H) cp] 88)
    have xnw := Blk.new w10 88 #[.int .i64 (-1), .int .i64 0, .int .i64 0, .int .i64 W, .int .i64 H, .bool true, .bool false, .slice none 0 0, .slice Ap (W * H) cp]
    have hab := Lib.hid (⟨K4.out.belowS hba, K2.out.belowS hba, K6.out.belowS hba, hba, xnw⟩ : _ ∧ _ ∧ _ ∧ _ ∧ _)
    have hac := hab.out
    clear hab hba xnw hri hcp hfp hown0 hb10 e8
    obtain ⟨X9, hX9⟩ : ∃ X, w10.alloc (.cells #[.int .i64 (-1), .int .i64 0, .int .i64 0, .int .i64 W, .int .i64 H, .bool true, .bool false, .slice none 0 0, .slice Ap (W * H) cp] 88) = X := ⟨_, rfl⟩
    obtain ⟨g9, hg9⟩ : ∃ g, w10.heap.size = g := ⟨_, rfl⟩
    rw [hX9] at hac
    have HN9 := Lib.hid (show w.heap.size + 1 < g9 by have := K4.out.lt; omega)
    have HN69 := Lib.hid (show g6 ≠ g9 by have := K6.out.lt; omega)
    obtain ⟨a1, a2, a3, a4, a5⟩ := hac
    rw [hg9] at a5
    replace K4 := Lib.hid a1
    replace K2 := Lib.hid a2
    replace K6 := Lib.hid a3
    have HBG := Lib.hid a4
    have K9 := Lib.hid a5
    have HG9 := Lib.hid (show w10.heap.size ≤ g9 from Nat.le_of_eq hg9)
    clear a1 a2 a3 a4 a5
    have e8 := K9.out.cellV (i := 8) (v := .slice Ap (W * H) cp) rfl
    dsimp only
    repeat (first | go_step | go_upon)
    clear hX9 hg9 e8
    refine (plane_any W H (inkL W (W * H) pI) Ap (W * H) cp _ HWB.out.1 HWB.out.2 rfl (HRI.out.below HBG.out)).mono ?_
    rintro e w11 ⟨Ag, cg, rfl, hrg, hcg, hfg, hb11⟩
    have hlt9 := HLO.out
    have HFG := Lib.hid (Far.fr (n := W * H) (v := .slice AL k cL) hfg (fun g hg => Nat.lt_of_lt_of_le (hlt9 g hg) HBG.out.size))
    have HRG := Lib.hid hrg
    have HCG := Lib.hid hcg
    replace K4 := Lib.hid (K4.out.belowS hb11)
    replace K2 := Lib.hid (K2.out.belowS hb11)
    replace K6 := Lib.hid (K6.out.belowS hb11)
    replace K9 := Lib.hid (K9.out.belowS hb11)
    replace HBG := Lib.hid (bstep HBG.out hb11)
    clear hrg hcg hfg hlt9 hb11
    have hba := bal (bre w11) (.cells #[.int .i64 W, .int .i64 H, .slice Ag (W * H) cg] 75)
    have xnw := Blk.new w11 75 #[.int .i64 W, .int .i64 H, .slice Ag (W * H) cg]
    have hab := Lib.hid (⟨K4.out.belowS hba, K2.out.belowS hba, K6.out.belowS hba, K9.out.belowS hba, hba, xnw⟩ : _ ∧ _ ∧ _ ∧ _ ∧ _ ∧ _)
    have hac := hab.out
    clear hab hba xnw
    obtain ⟨X10, hX10⟩ : ∃ X, w11.alloc (.cells #[.int .i64 W, .int .i64 H, .slice Ag (W * H) cg] 75) = X := ⟨_, rfl⟩
    obtain ⟨g10, hg10⟩ : ∃ g, w11.heap.size = g := ⟨_, rfl⟩
    rw [hX10] at hac
    have HN10 := Lib.hid (show w.heap.size + 1 < g10 by have := K4.out.lt; omega)
    have HN19 := Lib.hid (show g9 < g10 by have := K9.out.lt; omega)
    obtain ⟨a1, a2, a3, a4, a5, a6⟩ := hac
    rw [hg10] at a6
    replace K4 := Lib.hid a1
    replace K2 := Lib.hid a2
    replace K6 := Lib.hid a3
    replace K9 := Lib.hid a4
    replace HRG := Lib.hid (HRG.out.below a5)
    replace HBG := Lib.hid (bstep HBG.out a5)
    have K10 := Lib.hid a6
    clear a1 a2 a3 a4 a5 a6
    dsimp only
    go_upto_if 62 with fail
    go_cut [12] from 26 to 176 (fun s12 wx => ∃ (mk' mu' mp' : Option Nat) (d : R34), s12 = .int .i64 0 ∧ (d.W = W ∧ d.H = H ∧ d.Ap = Ap ∧ d.np = W * H ∧ d.cp = cp ∧ d.px = inkL W (W * H) pI) ∧ Like34 k ⟨pU, pX, pY, pW, pH, pM, pS, pA, pn, pc, pI, psh⟩ d ∧ Blk wx (w.heap.size + 1) 70 #[.map mk', .map mu', .map mp', .map mc, .slice AL k cL] ∧ St34 w wx g9 g10 d.cells.toArray #[.int .i64 W, .int .i64 H, .slice Ag (W * H) cg] l (W * H) (inkL W (W * H) pI) Ap Ag AL k cL RW RH (l ++ [d]) (l ++ [d]) l mk' mu' mp' mc ∧ RdR w d.A d.n d.sh)
    case first =>
     by_cases hk0 : k = 0
     ·
      as_aux_lemma =>
       have hbg := HBG.out
       replace HMC := Lib.hid (HMC.out.below hbg)
       replace HMX := Lib.hid (HMX.out.below hbg)
       replace HOW := Lib.hid (ownsRow_below HOW.out hbg)
       replace HRI := Lib.hid (HRI.out.below hbg)
       replace HBR := Lib.hid (bstep HBR.out hbg)
       have hl0 : l = [] := List.length_eq_zero_iff.1 (by rw [HLK.out]; exact hk0)
       have HL0 := Lib.hid hl0
       have HK0 := Lib.hid hk0
       have e0 : ((k : Int) == 0) = true := by rw [hk0]; rfl
       clear hbg hl0 hk0 HMT HMP HBG
       go_wp2_with fail
       refine (tnew_any _).mono ?_
       rintro e w14 ⟨rfl, hb14⟩
       replace HMC := Lib.hid (HMC.out.below hb14)
       replace HMX := Lib.hid (HMX.out.below hb14)
       replace HRI := Lib.hid (HRI.out.below hb14)
       replace HRG := Lib.hid (HRG.out.below hb14)
       replace K4 := Lib.hid (K4.out.belowS hb14)
       replace K2 := Lib.hid (K2.out.belowS hb14)
       replace K9 := Lib.hid (K9.out.belowS hb14)
       replace K10 := Lib.hid (K10.out.belowS hb14)
       replace HOW := Lib.hid (ownsRow_below HOW.out hb14)
       replace HBR := Lib.hid (bstep HBR.out hb14)
       clear hb14
       have c0 := K4.out.cellV (i := 0) (v := .map mk) rfl
       have c1 := K4.out.cellV (i := 1) (v := .map mu) rfl
       have f0 := K4.out.frozen 0
       have f1 := K4.out.frozen 1
       have l4 := K4.out.lt
       go_upto_region 15 with fail
       have sK4 : Blk (w14.setCell ⟨w.heap.size + 1, 0, none⟩ (.map none)) (w.heap.size + 1) 70 #[.map none, .map mu, .map mp, .map mc, .slice AL k cL] := K4.out.set_ 0 (.map none)
       have sHMC := HMC.out.set K4.out (noI5 _ _ _ _ _ _ _) 0 (.map none)
       have sHMX := HMX.out.set K4.out (noI5 _ _ _ _ _ _ _) 0 (.map none)
       have sHRI := rd_noint HRI.out K4.out (noI5 _ _ _ _ _ _ _) 0 (.map none)
       have sHRG := rd_noint HRG.out K4.out (noI5 _ _ _ _ _ _ _) 0 (.map none)
       have sK2 := K2.out.far (p := ⟨w.heap.size + 1, 0, none⟩) (by show _ ≠ _; simp only; have := HN9.out; have := HN10.out; omega) (.map none)
       have sK9 := K9.out.far (p := ⟨w.heap.size + 1, 0, none⟩) (by show _ ≠ _; simp only; have := HN9.out; have := HN10.out; omega) (.map none)
       have sK10 := K10.out.far (p := ⟨w.heap.size + 1, 0, none⟩) (by show _ ≠ _; simp only; have := HN9.out; have := HN10.out; omega) (.map none)
       have sHOW := HOW.out.kept (grown_setCell w14 ⟨w.heap.size + 1, 0, none⟩ (.map none)) (.inr (own_other HOW.out K4.out (by decide)))
       have sHBR := bset (p := ⟨w.heap.size + 1, 0, none⟩) HBR.out (by show w.heap.size ≤ w.heap.size + 1; omega) (.map none)
       obtain ⟨V14, hV⟩ : ∃ V, w14.setCell ⟨w.heap.size + 1, 0, none⟩ (.map none) = V := ⟨_, rfl⟩
       rw [hV] at sK4 sHMC sHMX sHRI sHRG sK2 sK9 sK10 sHOW sHBR ⊢
       replace K4 := Lib.hid sK4
       replace HMC := Lib.hid sHMC
       replace HMX := Lib.hid sHMX
       replace HRI := Lib.hid sHRI
       replace HRG := Lib.hid sHRG
       replace K2 := Lib.hid sK2
       replace K9 := Lib.hid sK9
       replace K10 := Lib.hid sK10
       replace HOW := Lib.hid sHOW
       replace HBR := Lib.hid sHBR
       clear hV sK4 sHMC sHMX sHRI sHRG sK2 sK9 sK10 sHOW sHBR
       have sK4 : Blk (V14.setCell ⟨w.heap.size + 1, 1, none⟩ (.map none)) (w.heap.size + 1) 70 #[.map none, .map none, .map mp, .map mc, .slice AL k cL] := K4.out.set_ 1 (.map none)
       have sHMC := HMC.out.set K4.out (noI5 _ _ _ _ _ _ _) 1 (.map none)
       have sHMX := HMX.out.set K4.out (noI5 _ _ _ _ _ _ _) 1 (.map none)
       have sHRI := rd_noint HRI.out K4.out (noI5 _ _ _ _ _ _ _) 1 (.map none)
       have sHRG := rd_noint HRG.out K4.out (noI5 _ _ _ _ _ _ _) 1 (.map none)
       have sK2 := K2.out.far (p := ⟨w.heap.size + 1, 1, none⟩) (by show _ ≠ _; simp only; have := HN9.out; have := HN10.out; omega) (.map none)
       have sK9 := K9.out.far (p := ⟨w.heap.size + 1, 1, none⟩) (by show _ ≠ _; simp only; have := HN9.out; have := HN10.out; omega) (.map none)
       have sK10 := K10.out.far (p := ⟨w.heap.size + 1, 1, none⟩) (by show _ ≠ _; simp only; have := HN9.out; have := HN10.out; omega) (.map none)
       have sHOW := HOW.out.kept (grown_setCell V14 ⟨w.heap.size + 1, 1, none⟩ (.map none)) (.inr (own_other HOW.out K4.out (by decide)))
       have sHBR := bset (p := ⟨w.heap.size + 1, 1, none⟩) HBR.out (by show w.heap.size ≤ w.heap.size + 1; omega) (.map none)
       obtain ⟨V15, hV⟩ : ∃ V, V14.setCell ⟨w.heap.size + 1, 1, none⟩ (.map none) = V := ⟨_, rfl⟩
       rw [hV] at sK4 sHMC sHMX sHRI sHRG sK2 sK9 sK10 sHOW sHBR ⊢
       replace K4 := Lib.hid sK4
       replace HMC := Lib.hid sHMC
       replace HMX := Lib.hid sHMX
       replace HRI := Lib.hid sHRI
       replace HRG := Lib.hid sHRG
       replace K2 := Lib.hid sK2
       replace K9 := Lib.hid sK9
       replace K10 := Lib.hid sK10
       replace HOW := Lib.hid sHOW
       replace HBR := Lib.hid sHBR
       clear hV sK4 sHMC sHMX sHRI sHRG sK2 sK9 sK10 sHOW sHBR
       clear c0 c1 f0 f1 l4
       go_wp2_with fail
       refine (pnew_any W H _ (by have := HWB.out; unfold sideB; rw [Bool.and_eq_true, decide_eq_true_eq, decide_eq_true_eq]; omega) (by have := HWB.out; unfold sideB; rw [Bool.and_eq_true, decide_eq_true_eq, decide_eq_true_eq]; omega)).mono ?_
       rintro e w15 ⟨pv, rfl, hpv, hb15⟩
       have HPV := Lib.hid hpv
       obtain ⟨mp', rfl, _⟩ := hpv
       replace HMC := Lib.hid (HMC.out.below hb15)
       replace HMX := Lib.hid (HMX.out.below hb15)
       replace HRI := Lib.hid (HRI.out.below hb15)
       replace HRG := Lib.hid (HRG.out.below hb15)
       replace K4 := Lib.hid (K4.out.belowS hb15)
       replace K2 := Lib.hid (K2.out.belowS hb15)
       replace K9 := Lib.hid (K9.out.belowS hb15)
       replace K10 := Lib.hid (K10.out.belowS hb15)
       replace HOW := Lib.hid (ownsRow_below HOW.out hb15)
       replace HBR := Lib.hid (bstep HBR.out hb15)
       clear hb15
       have c2 := K4.out.cellV (i := 2) (v := .map mp) rfl
       have f2 := K4.out.frozen 2
       have l4 := K4.out.lt
       go_wp2_with fail
       have sK4 : Blk (w15.setCell ⟨w.heap.size + 1, 2, none⟩ (.map mp')) (w.heap.size + 1) 70 #[.map none, .map none, .map mp', .map mc, .slice AL k cL] := K4.out.set_ 2 (.map mp')
       have sHMC := HMC.out.set K4.out (noI5 _ _ _ _ _ _ _) 2 (.map mp')
       have sHMX := HMX.out.set K4.out (noI5 _ _ _ _ _ _ _) 2 (.map mp')
       have sHRI := rd_noint HRI.out K4.out (noI5 _ _ _ _ _ _ _) 2 (.map mp')
       have sHRG := rd_noint HRG.out K4.out (noI5 _ _ _ _ _ _ _) 2 (.map mp')
       have sK2 := K2.out.far (p := ⟨w.heap.size + 1, 2, none⟩) (by show _ ≠ _; simp only; have := HN9.out; have := HN10.out; omega) (.map mp')
       have sK9 := K9.out.far (p := ⟨w.heap.size + 1, 2, none⟩) (by show _ ≠ _; simp only; have := HN9.out; have := HN10.out; omega) (.map mp')
       have sK10 := K10.out.far (p := ⟨w.heap.size + 1, 2, none⟩) (by show _ ≠ _; simp only; have := HN9.out; have := HN10.out; omega) (.map mp')
       have sHOW := HOW.out.kept (grown_setCell w15 ⟨w.heap.size + 1, 2, none⟩ (.map mp')) (.inr (own_other HOW.out K4.out (by decide)))
       have sHBR := bset (p := ⟨w.heap.size + 1, 2, none⟩) HBR.out (by show w.heap.size ≤ w.heap.size + 1; omega) (.map mp')
       have sHPV := HPV.out.setBlk K4.out 2 (.map mp')
       obtain ⟨V16, hV⟩ : ∃ V, w15.setCell ⟨w.heap.size + 1, 2, none⟩ (.map mp') = V := ⟨_, rfl⟩
       rw [hV] at sK4 sHMC sHMX sHRI sHRG sK2 sK9 sK10 sHOW sHBR sHPV ⊢
       replace K4 := Lib.hid sK4
       replace HMC := Lib.hid sHMC
       replace HMX := Lib.hid sHMX
       replace HRI := Lib.hid sHRI
       replace HRG := Lib.hid sHRG
       replace K2 := Lib.hid sK2
       replace K9 := Lib.hid sK9
       replace K10 := Lib.hid sK10
       replace HOW := Lib.hid sHOW
       replace HBR := Lib.hid sHBR
       replace HPV := Lib.hid sHPV
       clear hV sK4 sHMC sHMX sHRI sHRG sK2 sK9 sK10 sHOW sHBR sHPV
       have hRW : (RW : Int) = (W : Int) ∧ (RH : Int) = (H : Int) := by
        have h1 := HPK.out
        rw [HK0.out] at h1
        have h2 := Option.some.inj (HP0.out.1.symm.trans h1)
        have h3 := HP0.out.2
        rw [h2] at h3
        exact ⟨h3.1.trans HWM.out.1.symm, h3.2.trans HWM.out.2.symm⟩
       have hmp : MPf V16 (.slice AL k cL) (l ++ [⟨-1, 0, 0, W, H, true, false, none, 0, 0, Ap, W * H, cp, [], inkL W (W * H) pI⟩]) mp' RW RH := by
        rw [HL0.out, List.nil_append, hRW.1, hRW.2]
        exact mpf_first HPV.out
       have hmt : MTf V16 (.slice AL k cL) (l ++ [⟨-1, 0, 0, W, H, true, false, none, 0, 0, Ap, W * H, cp, [], inkL W (W * H) pI⟩]) none none := by
        rw [HL0.out, List.nil_append]
        exact mtf_first _ _ _
       have hlk : Like34 k ⟨pU, pX, pY, pW, pH, pM, pS, pA, pn, pc, pI, psh⟩ ⟨-1, 0, 0, W, H, true, false, none, 0, 0, Ap, W * H, cp, [], inkL W (W * H) pI⟩ := by
        rw [HK0.out]
        exact like_first HWM.out HSM.out
       clear hRW c2 f2 l4 e0
       go_meet
       exact ⟨none, none, mp', _, rfl, ⟨rfl, rfl, rfl, rfl, rfl, rfl⟩, hlk, K4.out, ⟨⟨K2.out, K9.out, K10.out, HMX.out, HOW.out, HRI.out, HRG.out, HFP.out, HFG.out, HBR.out⟩, hmt, hmp, HMC.out⟩, ⟨rfl, fun h => absurd h (by simp)⟩⟩
     ·
      as_aux_lemma =>
      have e0 : ((k : Int) == 0) = false := by rw [beq_eq_false_iff_ne]; omega
      have hki : ¬ ((k : Int) = 0) := by omega
      have HK1 := Lib.hid (show 1 ≤ k ∧ k ≤ 7 by omega)
      obtain ⟨un, huu⟩ : ∃ x : Nat, pU % (k : Int) = (x : Int) := ⟨(pU % (k : Int)).toNat, by have := Int.emod_nonneg pU (show (k : Int) ≠ 0 by omega); omega⟩
      have hub : 0 ≤ (un : Int) ∧ (un : Int) < (k : Int) := ⟨huu ▸ Int.emod_nonneg _ (by omega), huu ▸ Int.emod_lt_of_pos _ (by omega)⟩
      have HUU := Lib.hid huu
      have HUB := Lib.hid hub
      have hpu := HPO.out.u
      have hpx := HPO.out.x
      have hpy := HPO.out.y
      dsimp only at hpu hpx hpy
      have t0 : IntKind.i64.wrap pU = pU := IntWalk.i64_in _ (by omega)
      have t1 : pU.tmod (k : Int) = (un : Int) := by rw [Int.tmod_eq_emod_of_nonneg (by omega)]; exact huu
      have t2 : IntKind.i64.wrap (un : Int) = (un : Int) := IntWalk.i64_in _ (by omega)
      have t3 : IntKind.i64.wrap pX = pX := IntWalk.i64_in _ (by omega)
      have t4 : IntKind.i64.wrap pY = pY := IntWalk.i64_in _ (by omega)
      have x0 := K6.out.cellV (i := 0) (v := .int .u8 pU) rfl
      have x1 := K6.out.cellV (i := 1) (v := .int .i8 pX) rfl
      have x2 := K6.out.cellV (i := 2) (v := .int .i8 pY) rfl
      have x5 := K6.out.cellV (i := 5) (v := .bool pM) rfl
      have x6 := K6.out.cellV (i := 6) (v := .bool pS) rfl
      have y0 := K9.out.cellV (i := 0) (v := .int .i64 (-1)) rfl
      have y1 := K9.out.cellV (i := 1) (v := .int .i64 0) rfl
      have y2 := K9.out.cellV (i := 2) (v := .int .i64 0) rfl
      have y5 := K9.out.cellV (i := 5) (v := .bool true) rfl
      have y6 := K9.out.cellV (i := 6) (v := .bool false) rfl
      have f0 := K9.out.frozen 0
      have f1 := K9.out.frozen 1
      have f2 := K9.out.frozen 2
      have f5 := K9.out.frozen 5
      have f6 := K9.out.frozen 6
      have l9 := K9.out.lt
      have hn69 := HN69.out
      clear hub huu hpu hpx hpy
      go_upto_region 16 with fail
      go_cut [] from 26 to 176 (fun wx => Blk wx g9 88 #[.int .i64 (un : Int), .int .i64 pX, .int .i64 pY, .int .i64 W, .int .i64 H, .bool pM, .bool pS, .slice none 0 0, .slice Ap (W * H) cp] ∧ Blk wx (w.heap.size + 1) 70 #[.map mk, .map mu, .map mp, .map mc, .slice AL k cL] ∧ Blk wx w.heap.size 70 #[.map none, .map none, .map none, .map none, .slice none 0 0] ∧ Blk wx g6 85 #[.int .u8 pU, .int .i8 pX, .int .i8 pY, .int .u8 pW, .int .u8 pH, .bool pM, .bool pS, .slice pA pn pc, .int .u8 pI] ∧ Blk wx g10 75 #[.int .i64 W, .int .i64 H, .slice Ag (W * H) cg] ∧ Rd wx Ag (W * H) (Gr.U8 (inkL W (W * H) pI)) ∧ Below w10.heap.size w10 wx)
      case first =>
       as_aux_lemma =>
        go_region
        have q90 : Blk (X10.setCell ⟨g9, 0, none⟩ (.int .i64 (un : Int))) g9 88 #[.int .i64 (un : Int), .int .i64 0, .int .i64 0, .int .i64 W, .int .i64 H, .bool true, .bool false, .slice none 0 0, .slice Ap (W * H) cp] := K9.out.set_ 0 (.int .i64 (un : Int))
        have qHRG0 := rd_nou8 HRG.out K9.out (no8w _ _ _ _ _ _ _ _ _ _ _ _ _) 0 (.int .i64 (un : Int))
        have qHBG0 := bset (p := ⟨g9, 0, none⟩) HBG.out HG9.out (.int .i64 (un : Int))
        have qK20 := K2.out.far (p := ⟨g9, 0, none⟩) (by show _ ≠ _; simp only; have := HN9.out; have := HN19.out; have := HN69.out; omega) (.int .i64 (un : Int))
        have qK40 := K4.out.far (p := ⟨g9, 0, none⟩) (by show _ ≠ _; simp only; have := HN9.out; have := HN19.out; have := HN69.out; omega) (.int .i64 (un : Int))
        have qK60 := K6.out.far (p := ⟨g9, 0, none⟩) (by show _ ≠ _; simp only; have := HN9.out; have := HN19.out; have := HN69.out; omega) (.int .i64 (un : Int))
        have qK100 := K10.out.far (p := ⟨g9, 0, none⟩) (by show _ ≠ _; simp only; have := HN9.out; have := HN19.out; have := HN69.out; omega) (.int .i64 (un : Int))
        have q91 : Blk ((X10.setCell ⟨g9, 0, none⟩ (.int .i64 (un : Int))).setCell ⟨g9, 1, none⟩ (.int .i64 pX)) g9 88 #[.int .i64 (un : Int), .int .i64 pX, .int .i64 0, .int .i64 W, .int .i64 H, .bool true, .bool false, .slice none 0 0, .slice Ap (W * H) cp] := q90.set_ 1 (.int .i64 pX)
        have qHRG1 := rd_nou8 qHRG0 q90 (no8w _ _ _ _ _ _ _ _ _ _ _ _ _) 1 (.int .i64 pX)
        have qHBG1 := bset (p := ⟨g9, 1, none⟩) qHBG0 HG9.out (.int .i64 pX)
        have qK21 := qK20.far (p := ⟨g9, 1, none⟩) (by show _ ≠ _; simp only; have := HN9.out; have := HN19.out; have := HN69.out; omega) (.int .i64 pX)
        have qK41 := qK40.far (p := ⟨g9, 1, none⟩) (by show _ ≠ _; simp only; have := HN9.out; have := HN19.out; have := HN69.out; omega) (.int .i64 pX)
        have qK61 := qK60.far (p := ⟨g9, 1, none⟩) (by show _ ≠ _; simp only; have := HN9.out; have := HN19.out; have := HN69.out; omega) (.int .i64 pX)
        have qK101 := qK100.far (p := ⟨g9, 1, none⟩) (by show _ ≠ _; simp only; have := HN9.out; have := HN19.out; have := HN69.out; omega) (.int .i64 pX)
        have q92 : Blk (((X10.setCell ⟨g9, 0, none⟩ (.int .i64 (un : Int))).setCell ⟨g9, 1, none⟩ (.int .i64 pX)).setCell ⟨g9, 2, none⟩ (.int .i64 pY)) g9 88 #[.int .i64 (un : Int), .int .i64 pX, .int .i64 pY, .int .i64 W, .int .i64 H, .bool true, .bool false, .slice none 0 0, .slice Ap (W * H) cp] := q91.set_ 2 (.int .i64 pY)
        have qHRG2 := rd_nou8 qHRG1 q91 (no8w _ _ _ _ _ _ _ _ _ _ _ _ _) 2 (.int .i64 pY)
        have qHBG2 := bset (p := ⟨g9, 2, none⟩) qHBG1 HG9.out (.int .i64 pY)
        have qK22 := qK21.far (p := ⟨g9, 2, none⟩) (by show _ ≠ _; simp only; have := HN9.out; have := HN19.out; have := HN69.out; omega) (.int .i64 pY)
        have qK42 := qK41.far (p := ⟨g9, 2, none⟩) (by show _ ≠ _; simp only; have := HN9.out; have := HN19.out; have := HN69.out; omega) (.int .i64 pY)
        have qK62 := qK61.far (p := ⟨g9, 2, none⟩) (by show _ ≠ _; simp only; have := HN9.out; have := HN19.out; have := HN69.out; omega) (.int .i64 pY)
        have qK102 := qK101.far (p := ⟨g9, 2, none⟩) (by show _ ≠ _; simp only; have := HN9.out; have := HN19.out; have := HN69.out; omega) (.int .i64 pY)
        have q93 : Blk ((((X10.setCell ⟨g9, 0, none⟩ (.int .i64 (un : Int))).setCell ⟨g9, 1, none⟩ (.int .i64 pX)).setCell ⟨g9, 2, none⟩ (.int .i64 pY)).setCell ⟨g9, 5, none⟩ (.bool pM)) g9 88 #[.int .i64 (un : Int), .int .i64 pX, .int .i64 pY, .int .i64 W, .int .i64 H, .bool pM, .bool false, .slice none 0 0, .slice Ap (W * H) cp] := q92.set_ 5 (.bool pM)
        have qHRG3 := rd_nou8 qHRG2 q92 (no8w _ _ _ _ _ _ _ _ _ _ _ _ _) 5 (.bool pM)
        have qHBG3 := bset (p := ⟨g9, 5, none⟩) qHBG2 HG9.out (.bool pM)
        have qK23 := qK22.far (p := ⟨g9, 5, none⟩) (by show _ ≠ _; simp only; have := HN9.out; have := HN19.out; have := HN69.out; omega) (.bool pM)
        have qK43 := qK42.far (p := ⟨g9, 5, none⟩) (by show _ ≠ _; simp only; have := HN9.out; have := HN19.out; have := HN69.out; omega) (.bool pM)
        have qK63 := qK62.far (p := ⟨g9, 5, none⟩) (by show _ ≠ _; simp only; have := HN9.out; have := HN19.out; have := HN69.out; omega) (.bool pM)
        have qK103 := qK102.far (p := ⟨g9, 5, none⟩) (by show _ ≠ _; simp only; have := HN9.out; have := HN19.out; have := HN69.out; omega) (.bool pM)
        have q94 : Blk (((((X10.setCell ⟨g9, 0, none⟩ (.int .i64 (un : Int))).setCell ⟨g9, 1, none⟩ (.int .i64 pX)).setCell ⟨g9, 2, none⟩ (.int .i64 pY)).setCell ⟨g9, 5, none⟩ (.bool pM)).setCell ⟨g9, 6, none⟩ (.bool pS)) g9 88 #[.int .i64 (un : Int), .int .i64 pX, .int .i64 pY, .int .i64 W, .int .i64 H, .bool pM, .bool pS, .slice none 0 0, .slice Ap (W * H) cp] := q93.set_ 6 (.bool pS)
        have qHRG4 := rd_nou8 qHRG3 q93 (no8w _ _ _ _ _ _ _ _ _ _ _ _ _) 6 (.bool pS)
        have qHBG4 := bset (p := ⟨g9, 6, none⟩) qHBG3 HG9.out (.bool pS)
        have qK24 := qK23.far (p := ⟨g9, 6, none⟩) (by show _ ≠ _; simp only; have := HN9.out; have := HN19.out; have := HN69.out; omega) (.bool pS)
        have qK44 := qK43.far (p := ⟨g9, 6, none⟩) (by show _ ≠ _; simp only; have := HN9.out; have := HN19.out; have := HN69.out; omega) (.bool pS)
        have qK64 := qK63.far (p := ⟨g9, 6, none⟩) (by show _ ≠ _; simp only; have := HN9.out; have := HN19.out; have := HN69.out; omega) (.bool pS)
        have qK104 := qK103.far (p := ⟨g9, 6, none⟩) (by show _ ≠ _; simp only; have := HN9.out; have := HN19.out; have := HN69.out; omega) (.bool pS)
        go_wp2_with fail
        go_meet
        exact ⟨q94.drewT, qK44.drewT, qK24.drewT, qK64.drewT, qK104.drewT, qHRG4.below (bre _).drew, qHBG4.drew⟩
      obtain ⟨a1, a2, a3, a4, a5, a6, a7⟩ := hcut
      replace K9 := Lib.hid a1
      replace K4 := Lib.hid a2
      replace K2 := Lib.hid a3
      replace K6 := Lib.hid a4
      replace K10 := Lib.hid a5
      replace HRG := Lib.hid a6
      replace HBG := Lib.hid a7
      clear a1 a2 a3 a4 a5 a6 a7
      clear x0 x1 x2 x5 x6 y0 y1 y2 y5 y6 f0 f1 f2 f5 f6 l9 t0 t1 t2 t3 t4 hn69
      have x6 := K6.out.cellV (i := 6) (v := .bool pS) rfl
      go_upto_if 93 with fail
      go_cut [] from 26 to 176 (fun wx => ∃ (A : Option Addr) (m c1 : Nat), (pS = true → A = pA ∧ m = pn) ∧ (pS = false → A = none ∧ m = 0) ∧ Blk wx g9 88 #[.int .i64 (un : Int), .int .i64 pX, .int .i64 pY, .int .i64 W, .int .i64 H, .bool pM, .bool pS, .slice A m c1, .slice Ap (W * H) cp] ∧ Blk wx (w.heap.size + 1) 70 #[.map mk, .map mu, .map mp, .map mc, .slice AL k cL] ∧ Blk wx w.heap.size 70 #[.map none, .map none, .map none, .map none, .slice none 0 0] ∧ Blk wx g10 75 #[.int .i64 W, .int .i64 H, .slice Ag (W * H) cg] ∧ Rd wx Ag (W * H) (Gr.U8 (inkL W (W * H) pI)) ∧ Below w10.heap.size w10 wx)
      case first =>
       as_aux_lemma =>
        cases pS
        ·
         go_wp2_with fail
         go_meet
         exact ⟨none, 0, 0, (fun h => by cases h), (fun _ => ⟨rfl, rfl⟩), K9.out, K4.out, K2.out, K10.out, HRG.out, HBG.out⟩
        ·
         have x7 := K6.out.cellV (i := 7) (v := .slice pA pn pc) rfl
         have y7 := K9.out.cellV (i := 7) (v := .slice none 0 0) rfl
         have f7 := K9.out.frozen 7
         have l9 := K9.out.lt
         have b9 : Blk (wc.setCell ⟨g9, 7, none⟩ (.slice pA pn pc)) g9 88 #[.int .i64 (un : Int), .int .i64 pX, .int .i64 pY, .int .i64 W, .int .i64 H, .bool pM, .bool true, .slice pA pn pc, .slice Ap (W * H) cp] := K9.out.set_ 7 (.slice pA pn pc)
         have b4 := K4.out.far (p := ⟨g9, 7, none⟩) (by show _ ≠ _; simp only; have := HN9.out; omega) (.slice pA pn pc)
         have b2 := K2.out.far (p := ⟨g9, 7, none⟩) (by show _ ≠ _; simp only; have := HN9.out; omega) (.slice pA pn pc)
         have b10 := K10.out.far (p := ⟨g9, 7, none⟩) (by show _ ≠ _; simp only; have := HN19.out; omega) (.slice pA pn pc)
         have br := rd_nou8 HRG.out K9.out (no8w _ _ _ _ _ _ _ _ _ _ _ _ _) 7 (.slice pA pn pc)
         have bb := bset (p := ⟨g9, 7, none⟩) HBG.out HG9.out (.slice pA pn pc)
         go_wp2_with fail
         go_meet
         exact ⟨pA, pn, pc, (fun _ => ⟨rfl, rfl⟩), (fun h => by cases h), b9, b4, b2, b10, br, bb⟩
      obtain ⟨A, m, c1, hs1, hs0, a1, a2, a3, a4, a5, a6⟩ := hcut
      have hbg := a6
      have hre : Rest34 w wc g9 g10 #[.int .i64 (un : Int), .int .i64 pX, .int .i64 pY, .int .i64 W, .int .i64 H, .bool pM, .bool pS, .slice A m c1, .slice Ap (W * H) cp] #[.int .i64 W, .int .i64 H, .slice Ag (W * H) cg] l (W * H) (inkL W (W * H) pI) Ap Ag AL k cL := ⟨a3, a1, a4, HMX.out.below hbg, ownsRow_below HOW.out hbg, HRI.out.below hbg, a5, HFP.out, HFG.out, bstep HBR.out hbg⟩
      have HRE := Lib.hid hre
      replace HMT := Lib.hid (HMT.out.below hbg)
      replace HMP := Lib.hid (HMP.out.below hbg)
      replace HMC := Lib.hid (HMC.out.below hbg)
      replace K4 := Lib.hid a2
      have HLO2 := Lib.hid (show ∀ g, (Value.slice AL k cL).ownBlock = some g → g < wc.heap.size from fun g hg => Nat.lt_of_lt_of_le (HLO.out g hg) hbg.size)
      have HRS := Lib.hid (show RdR w A m (if pS then psh else []) from by
       cases pS
       ·
        obtain ⟨rfl, rfl⟩ := hs0 rfl
        exact ⟨rfl, fun h => absurd h (by simp)⟩
       ·
        obtain ⟨rfl, rfl⟩ := hs1 rfl
        exact HPS.out)
      clear hbg hre a1 a2 a3 a4 a5 a6 hs0 hs1 HMX HOW HRI HRG HBR HBG K2 K6 K9 K10 x6
      have hur : UpR l := upR_of (by rw [HLN.out, HLK.out]; omega) HLI.out
      have hl1 : 1 ≤ l.length := by rw [HLK.out]; exact HK1.out.1
      have hl7 : l.length ≤ 7 := by rw [HLK.out]; exact HK1.out.2
      have hdu : 0 ≤ (⟨(un : Int), pX, pY, W, H, pM, pS, A, m, c1, Ap, W * H, cp, if pS then psh else [], inkL W (W * H) pI⟩ : R34).U ∧ (⟨(un : Int), pX, pY, W, H, pM, pS, A, m, c1, Ap, W * H, cp, if pS then psh else [], inkL W (W * H) pI⟩ : R34).U < (l.length : Int) := by rw [HLK.out]; exact HUB.out
      have hnod := nodes_snoc34 hl1 (⟨(un : Int), pX, pY, W, H, pM, pS, A, m, c1, Ap, W * H, cp, if pS then psh else [], inkL W (W * H) pI⟩ : R34)
      have hpre := add_pre34 hur hl1 hl7 hdu
      rw [HLK.out] at hnod hpre
      dsimp only at hnod hpre
      have HPRE := Lib.hid hpre
      have HNOD := Lib.hid hnod
      have HLK2 := Lib.hid (show Like34 k ⟨pU, pX, pY, pW, pH, pM, pS, pA, pn, pc, pI, psh⟩ ⟨(un : Int), pX, pY, W, H, pM, pS, A, m, c1, Ap, W * H, cp, if pS then psh else [], inkL W (W * H) pI⟩ from like_next (p := ⟨pU, pX, pY, pW, pH, pM, pS, pA, pn, pc, pI, psh⟩) (by omega) HUU.out.symm A m c1 HWM.out HSM.out)
      have HDW := Lib.hid (HLK2.out.dw_ok HPO.out)
      obtain ⟨nk, fk, htr⟩ := HMT.out
      have HTR := Lib.hid htr
      clear htr hnod hpre hur hl1 hl7 hdu HMT
      go_upto_region 19 with fail
      go_cut [12] from 26 to 176 (fun s12 wx => ∃ mk' mu' : Option Nat, s12 = .int .i64 0 ∧ Blk wx (w.heap.size + 1) 70 #[.map mk', .map mu', .map mp, .map mc, .slice AL k cL] ∧ St34 w wx g9 g10 #[.int .i64 (un : Int), .int .i64 pX, .int .i64 pY, .int .i64 W, .int .i64 H, .bool pM, .bool pS, .slice A m c1, .slice Ap (W * H) cp] #[.int .i64 W, .int .i64 H, .slice Ag (W * H) cg] l (W * H) (inkL W (W * H) pI) Ap Ag AL k cL RW RH (l ++ [⟨(un : Int), pX, pY, W, H, pM, pS, A, m, c1, Ap, W * H, cp, if pS then psh else [], inkL W (W * H) pI⟩]) l l mk' mu' mp mc)
      case first =>
       as_aux_lemma =>
        have HBW := Lib.hid (show Below wc.heap.size wc wc.drew from (bre wc).drew)
        have KW := Lib.hid (fun (W' : World) (h : Below wc.heap.size wc W') => show (fun w' => w'.cell? ⟨g9, 0, none⟩ = some (.int .i64 (un : Int))) W' from (HRE.out.k9.belowS h).cellV (i := 0) rfl)
        refine wp_region_noPanic ?_
        refine wp_region_held_drew (S := (fun w' => w'.cell? ⟨g9, 0, none⟩ = some (.int .i64 (un : Int)))) (by kernel_rfl) ?_ (fun _ => ?_)
        ·
         (try dsimp only)
         exact (HRE.out.k9.belowS HBW.out).cellV (i := 0) rfl
        refine Tr.take_at 0 98 (.pointer (some ⟨w.heap.size + 1, 0, none⟩)) rfl rfl (by kernel_rfl) (by kernel_rfl) (by kernel_rfl) (fun _ _ _ h => h) (Or.inl ⟨by rfl, ?_⟩) (by assumption) ?_
        ·
         intro W0 hSw
         (try dsimp only at hSw)
         go_simp
        simp only [List.set_cons_zero, List.set_cons_succ]
        refine Tr.take_at 2 100 (.int .i64 k) rfl rfl (by kernel_rfl) (by kernel_rfl) (by kernel_rfl) (fun _ _ _ h => h) (Or.inl ⟨by rfl, ?_⟩) (by assumption) ?_
        ·
         intro W0 hSw
         (try dsimp only at hSw)
         go_simp
        simp only [List.set_cons_zero, List.set_cons_succ]
        refine Tr.take_at 4 102 (.pointer (some ⟨g9, 0, none⟩)) rfl rfl (by kernel_rfl) (by kernel_rfl) (by kernel_rfl) (fun _ _ _ h => h) (Or.inl ⟨by rfl, ?_⟩) (by assumption) ?_
        ·
         intro W0 hSw
         (try dsimp only at hSw)
         go_simp
        simp only [List.set_cons_zero, List.set_cons_succ]
        refine Tr.take_at 5 103 (.int .i64 (un : Int)) rfl rfl (by kernel_rfl) (by kernel_rfl) (by kernel_rfl) (fun _ _ _ h => h) (Or.inl ⟨by rfl, ?_⟩) (by assumption) ?_
        ·
         intro W0 hSw
         (try dsimp only at hSw)
         go_simp
        simp only [List.set_cons_zero, List.set_cons_succ]
        refine wpAnyH_ready (rs := [1, 3]) (by kernel_rfl) (by simp) ?_
        refine AllReadyH.cons rfl (fun K hK => ?_) (AllReadyH.cons rfl (fun K hK => ?_) AllReadyH.nil)
        ·
         have c0 := (K4.out.belowS HBW.out).cellV (i := 0) (v := .map mk) rfl
         have c1 := (K4.out.belowS HBW.out).cellV (i := 1) (v := .map mu) rfl; go_simp
         clear c0 c1
         refine hK.out _ _ (KW.out _ HBW.out) (fun _ => ?_); clear hK K
         refine wpAnyH_ready (rs := [3]) (by kernel_rfl) (by simp) ?_
         refine AllReadyH.cons rfl (fun K hK => ?_) AllReadyH.nil; go_simp
         refine (id34_any k _ (by omega)).mono ?_
         rintro e wc0 ⟨rfl, hbA⟩
         replace HBW := Lib.hid (bstep HBW.out hbA); clear hbA; go_simp
         refine hK.out _ _ (KW.out _ HBW.out) (fun _ => ?_); clear hK K
         refine wpAnyH_ready (rs := [6]) (by kernel_rfl) (by simp) ?_
         refine AllReadyH.cons rfl (fun K hK => ?_) AllReadyH.nil; go_simp
         refine (id34_any un _ (by have := HUB.out; have := HK1.out; omega)).mono ?_
         rintro e wc1 ⟨rfl, hbA⟩
         replace HBW := Lib.hid (bstep HBW.out hbA); clear hbA; go_simp
         refine hK.out _ _ (KW.out _ HBW.out) (fun _ => ?_); clear hK K
         refine wpAnyH_ready (rs := [7]) (by kernel_rfl) (by simp) ?_
         refine AllReadyH.cons rfl (fun K hK => ?_) AllReadyH.nil; go_simp
         refine (tadd_own (.agg #[.map mk, .map mu]) (nodesW (dws l)) mk mu nk fk (idW ((k : Int) - 1)) (idW ((un : Int) - 1)) _ (idW_bd (by omega)) (idW_bd (by have := HUB.out; have := HK1.out; omega)) (HTR.out.below HBW.out) HPRE.out.1 HPRE.out.2.1 HPRE.out.2.2.1 HPRE.out.2.2.2).mono ?_
         rintro e wc2 ⟨⟨mk', mu', nk', fk', rfl, ht'⟩, hbA⟩
         rw [HNOD.out] at ht'
         have HTN := Lib.hid (show MTf wc2 (.slice AL k cL) (l ++ [⟨(un : Int), pX, pY, W, H, pM, pS, A, m, c1, Ap, W * H, cp, if pS then psh else [], inkL W (W * H) pI⟩]) (some mk') (some mu') from mtf_own ht' (fun g hg => Nat.lt_of_lt_of_le (HLO2.out g hg) HBW.out.size))
         clear ht'
         replace HBW := Lib.hid (bstep HBW.out hbA); clear hbA; go_simp
         refine hK.out _ _ (KW.out _ HBW.out) (fun _ => ?_); clear hK K
         refine Tr.take_at 8 97 (.tuple #[.agg #[.map (some mk'), .map (some mu')], .int .i64 0]) rfl rfl (by kernel_rfl) (by kernel_rfl) (by kernel_rfl) (fun _ _ _ h => h) (Or.inl ⟨by rfl, ?_⟩) (by assumption) ?_
         ·
          intro W0 hSw
          (try dsimp only at hSw)
          go_simp
         simp only [List.set_cons_zero, List.set_cons_succ]
         refine Tr.take_at 9 106 (.agg #[.map (some mk'), .map (some mu')]) rfl rfl (by kernel_rfl) (by kernel_rfl) (by kernel_rfl) (fun _ _ _ h => h) (Or.inl ⟨by rfl, ?_⟩) (by assumption) ?_
         ·
          intro W0 hSw
          (try dsimp only at hSw)
          go_simp
         simp only [List.set_cons_zero, List.set_cons_succ]
         refine Tr.take_at 10 107 (.int .i64 0) rfl rfl (by kernel_rfl) (by kernel_rfl) (by kernel_rfl) (fun _ _ _ h => h) (Or.inl ⟨by rfl, ?_⟩) (by assumption) ?_
         ·
          intro W0 hSw
          (try dsimp only at hSw)
          go_simp
         simp only [List.set_cons_zero, List.set_cons_succ]
         refine Tr.take_at 11 108 (.pointer (some ⟨w.heap.size + 1, 0, none⟩)) rfl rfl (by kernel_rfl) (by kernel_rfl) (by kernel_rfl) (fun _ _ _ h => h) (Or.inl ⟨by rfl, ?_⟩) (by assumption) ?_
         ·
          intro W0 hSw
          (try dsimp only at hSw)
          go_simp
         simp only [List.set_cons_zero, List.set_cons_succ]
         refine wpAnyH_ready (rs := [12]) (by kernel_rfl) (by simp) ?_
         refine AllReadyH.cons rfl (fun K hK => ?_) AllReadyH.nil
         have hst3 : St34 w wc2 g9 g10 #[.int .i64 (un : Int), .int .i64 pX, .int .i64 pY, .int .i64 W, .int .i64 H, .bool pM, .bool pS, .slice A m c1, .slice Ap (W * H) cp] #[.int .i64 W, .int .i64 H, .slice Ag (W * H) cg] l (W * H) (inkL W (W * H) pI) Ap Ag AL k cL RW RH (l ++ [⟨(un : Int), pX, pY, W, H, pM, pS, A, m, c1, Ap, W * H, cp, if pS then psh else [], inkL W (W * H) pI⟩]) l l (some mk') (some mu') mp mc := ⟨HRE.out.below HBW.out, HTN.out, HMP.out.below HBW.out, HMC.out.below HBW.out⟩
         have hpt := hst3.putT HN9.out HN10.out (K4.out.belowS HBW.out) (some mk') (some mu')
         refine Tr.wanted_plain rfl ?_
         refine store_mid0 rfl 37 _ _ rfl (w.heap.size + 1) 0 #[.map (some mk'), .map (some mu')] (by rfl) (by rfl) (there_part (K4.out.belowS HBW.out) (by simp)) Tryz.sizeTr (by simp [Value.oneCell']) ?_
         obtain ⟨V19, hV⟩ : ∃ V, World.setCells wc2 (w.heap.size + 1) 0 (#[.map (some mk'), .map (some mu')] : Array Value).toList = V := ⟨_, rfl⟩
         rw [hV] at hpt ⊢
         have HPT := Lib.hid hpt
         clear hV hpt hst3
         replace HBW := Lib.hid (bre V19)
         replace KW := Lib.hid (fun (W' : World) (h : Below V19.heap.size V19 W') => show (fun w' => w'.cell? ⟨g9, 0, none⟩ = some (.int .i64 (un : Int))) W' from (HPT.out.1.r.k9.belowS h).cellV (i := 0) rfl)
         refine hK.out _ _ (KW.out _ HBW.out) (fun _ => ?_); clear hK K
         refine Tr.take_at 13 12 (.int .i64 0) rfl rfl (by kernel_rfl) (by kernel_rfl) (by kernel_rfl) (fun _ _ _ h => h) (Or.inl ⟨by rfl, ?_⟩) (by assumption) ?_
         ·
          intro W0 hSw
          (try dsimp only at hSw)
          go_simp
         simp only [List.set_cons_zero, List.set_cons_succ]
         refine wpAnyH_done (by kernel_rfl) ?_ _
         refine NoPanic.normal ?_
         go_wp2_with fail
         go_meet
         exact ⟨some mk', some mu', rfl, HPT.out.2, HPT.out.1⟩
        ·
         go_simp
         refine (id34_any k _ (by omega)).mono ?_
         rintro e wc0 ⟨rfl, hbA⟩
         replace HBW := Lib.hid (bstep HBW.out hbA); clear hbA; go_simp
         refine hK.out _ _ (KW.out _ HBW.out) (fun _ => ?_); clear hK K
         refine wpAnyH_ready (rs := [1, 6]) (by kernel_rfl) (by simp) ?_
         refine AllReadyH.cons rfl (fun K hK => ?_) (AllReadyH.cons rfl (fun K hK => ?_) AllReadyH.nil)
         ·
          have c0 := (K4.out.belowS HBW.out).cellV (i := 0) (v := .map mk) rfl
          have c1 := (K4.out.belowS HBW.out).cellV (i := 1) (v := .map mu) rfl; go_simp
          clear c0 c1
          refine hK.out _ _ (KW.out _ HBW.out) (fun _ => ?_); clear hK K
          refine wpAnyH_ready (rs := [6]) (by kernel_rfl) (by simp) ?_
          refine AllReadyH.cons rfl (fun K hK => ?_) AllReadyH.nil; go_simp
          refine (id34_any un _ (by have := HUB.out; have := HK1.out; omega)).mono ?_
          rintro e wc1 ⟨rfl, hbA⟩
          replace HBW := Lib.hid (bstep HBW.out hbA); clear hbA; go_simp
          refine hK.out _ _ (KW.out _ HBW.out) (fun _ => ?_); clear hK K
          refine wpAnyH_ready (rs := [7]) (by kernel_rfl) (by simp) ?_
          refine AllReadyH.cons rfl (fun K hK => ?_) AllReadyH.nil; go_simp
          refine (tadd_own (.agg #[.map mk, .map mu]) (nodesW (dws l)) mk mu nk fk (idW ((k : Int) - 1)) (idW ((un : Int) - 1)) _ (idW_bd (by omega)) (idW_bd (by have := HUB.out; have := HK1.out; omega)) (HTR.out.below HBW.out) HPRE.out.1 HPRE.out.2.1 HPRE.out.2.2.1 HPRE.out.2.2.2).mono ?_
          rintro e wc2 ⟨⟨mk', mu', nk', fk', rfl, ht'⟩, hbA⟩
          rw [HNOD.out] at ht'
          have HTN := Lib.hid (show MTf wc2 (.slice AL k cL) (l ++ [⟨(un : Int), pX, pY, W, H, pM, pS, A, m, c1, Ap, W * H, cp, if pS then psh else [], inkL W (W * H) pI⟩]) (some mk') (some mu') from mtf_own ht' (fun g hg => Nat.lt_of_lt_of_le (HLO2.out g hg) HBW.out.size))
          clear ht'
          replace HBW := Lib.hid (bstep HBW.out hbA); clear hbA; go_simp
          refine hK.out _ _ (KW.out _ HBW.out) (fun _ => ?_); clear hK K
          refine Tr.take_at 8 97 (.tuple #[.agg #[.map (some mk'), .map (some mu')], .int .i64 0]) rfl rfl (by kernel_rfl) (by kernel_rfl) (by kernel_rfl) (fun _ _ _ h => h) (Or.inl ⟨by rfl, ?_⟩) (by assumption) ?_
          ·
           intro W0 hSw
           (try dsimp only at hSw)
           go_simp
          simp only [List.set_cons_zero, List.set_cons_succ]
          refine Tr.take_at 9 106 (.agg #[.map (some mk'), .map (some mu')]) rfl rfl (by kernel_rfl) (by kernel_rfl) (by kernel_rfl) (fun _ _ _ h => h) (Or.inl ⟨by rfl, ?_⟩) (by assumption) ?_
          ·
           intro W0 hSw
           (try dsimp only at hSw)
           go_simp
          simp only [List.set_cons_zero, List.set_cons_succ]
          refine Tr.take_at 10 107 (.int .i64 0) rfl rfl (by kernel_rfl) (by kernel_rfl) (by kernel_rfl) (fun _ _ _ h => h) (Or.inl ⟨by rfl, ?_⟩) (by assumption) ?_
          ·
           intro W0 hSw
           (try dsimp only at hSw)
           go_simp
          simp only [List.set_cons_zero, List.set_cons_succ]
          refine Tr.take_at 11 108 (.pointer (some ⟨w.heap.size + 1, 0, none⟩)) rfl rfl (by kernel_rfl) (by kernel_rfl) (by kernel_rfl) (fun _ _ _ h => h) (Or.inl ⟨by rfl, ?_⟩) (by assumption) ?_
          ·
           intro W0 hSw
           (try dsimp only at hSw)
           go_simp
          simp only [List.set_cons_zero, List.set_cons_succ]
          refine wpAnyH_ready (rs := [12]) (by kernel_rfl) (by simp) ?_
          refine AllReadyH.cons rfl (fun K hK => ?_) AllReadyH.nil
          have hst3 : St34 w wc2 g9 g10 #[.int .i64 (un : Int), .int .i64 pX, .int .i64 pY, .int .i64 W, .int .i64 H, .bool pM, .bool pS, .slice A m c1, .slice Ap (W * H) cp] #[.int .i64 W, .int .i64 H, .slice Ag (W * H) cg] l (W * H) (inkL W (W * H) pI) Ap Ag AL k cL RW RH (l ++ [⟨(un : Int), pX, pY, W, H, pM, pS, A, m, c1, Ap, W * H, cp, if pS then psh else [], inkL W (W * H) pI⟩]) l l (some mk') (some mu') mp mc := ⟨HRE.out.below HBW.out, HTN.out, HMP.out.below HBW.out, HMC.out.below HBW.out⟩
          have hpt := hst3.putT HN9.out HN10.out (K4.out.belowS HBW.out) (some mk') (some mu')
          refine Tr.wanted_plain rfl ?_
          refine store_mid0 rfl 37 _ _ rfl (w.heap.size + 1) 0 #[.map (some mk'), .map (some mu')] (by rfl) (by rfl) (there_part (K4.out.belowS HBW.out) (by simp)) Tryz.sizeTr (by simp [Value.oneCell']) ?_
          obtain ⟨V19, hV⟩ : ∃ V, World.setCells wc2 (w.heap.size + 1) 0 (#[.map (some mk'), .map (some mu')] : Array Value).toList = V := ⟨_, rfl⟩
          rw [hV] at hpt ⊢
          have HPT := Lib.hid hpt
          clear hV hpt hst3
          replace HBW := Lib.hid (bre V19)
          replace KW := Lib.hid (fun (W' : World) (h : Below V19.heap.size V19 W') => show (fun w' => w'.cell? ⟨g9, 0, none⟩ = some (.int .i64 (un : Int))) W' from (HPT.out.1.r.k9.belowS h).cellV (i := 0) rfl)
          refine hK.out _ _ (KW.out _ HBW.out) (fun _ => ?_); clear hK K
          refine Tr.take_at 13 12 (.int .i64 0) rfl rfl (by kernel_rfl) (by kernel_rfl) (by kernel_rfl) (fun _ _ _ h => h) (Or.inl ⟨by rfl, ?_⟩) (by assumption) ?_
          ·
           intro W0 hSw
           (try dsimp only at hSw)
           go_simp
          simp only [List.set_cons_zero, List.set_cons_succ]
          refine wpAnyH_done (by kernel_rfl) ?_ _
          refine NoPanic.normal ?_
          go_wp2_with fail
          go_meet
          exact ⟨some mk', some mu', rfl, HPT.out.2, HPT.out.1⟩
         ·
          go_simp
          refine (id34_any un _ (by have := HUB.out; have := HK1.out; omega)).mono ?_
          rintro e wc1 ⟨rfl, hbA⟩
          replace HBW := Lib.hid (bstep HBW.out hbA); clear hbA; go_simp
          refine hK.out _ _ (KW.out _ HBW.out) (fun _ => ?_); clear hK K
          refine wpAnyH_ready (rs := [1]) (by kernel_rfl) (by simp) ?_
          refine AllReadyH.cons rfl (fun K hK => ?_) AllReadyH.nil
          have c0 := (K4.out.belowS HBW.out).cellV (i := 0) (v := .map mk) rfl
          have c1 := (K4.out.belowS HBW.out).cellV (i := 1) (v := .map mu) rfl; go_simp
          clear c0 c1
          refine hK.out _ _ (KW.out _ HBW.out) (fun _ => ?_); clear hK K
          refine wpAnyH_ready (rs := [7]) (by kernel_rfl) (by simp) ?_
          refine AllReadyH.cons rfl (fun K hK => ?_) AllReadyH.nil; go_simp
          refine (tadd_own (.agg #[.map mk, .map mu]) (nodesW (dws l)) mk mu nk fk (idW ((k : Int) - 1)) (idW ((un : Int) - 1)) _ (idW_bd (by omega)) (idW_bd (by have := HUB.out; have := HK1.out; omega)) (HTR.out.below HBW.out) HPRE.out.1 HPRE.out.2.1 HPRE.out.2.2.1 HPRE.out.2.2.2).mono ?_
          rintro e wc2 ⟨⟨mk', mu', nk', fk', rfl, ht'⟩, hbA⟩
          rw [HNOD.out] at ht'
          have HTN := Lib.hid (show MTf wc2 (.slice AL k cL) (l ++ [⟨(un : Int), pX, pY, W, H, pM, pS, A, m, c1, Ap, W * H, cp, if pS then psh else [], inkL W (W * H) pI⟩]) (some mk') (some mu') from mtf_own ht' (fun g hg => Nat.lt_of_lt_of_le (HLO2.out g hg) HBW.out.size))
          clear ht'
          replace HBW := Lib.hid (bstep HBW.out hbA); clear hbA; go_simp
          refine hK.out _ _ (KW.out _ HBW.out) (fun _ => ?_); clear hK K
          refine Tr.take_at 8 97 (.tuple #[.agg #[.map (some mk'), .map (some mu')], .int .i64 0]) rfl rfl (by kernel_rfl) (by kernel_rfl) (by kernel_rfl) (fun _ _ _ h => h) (Or.inl ⟨by rfl, ?_⟩) (by assumption) ?_
          ·
           intro W0 hSw
           (try dsimp only at hSw)
           go_simp
          simp only [List.set_cons_zero, List.set_cons_succ]
          refine Tr.take_at 9 106 (.agg #[.map (some mk'), .map (some mu')]) rfl rfl (by kernel_rfl) (by kernel_rfl) (by kernel_rfl) (fun _ _ _ h => h) (Or.inl ⟨by rfl, ?_⟩) (by assumption) ?_
          ·
           intro W0 hSw
           (try dsimp only at hSw)
           go_simp
          simp only [List.set_cons_zero, List.set_cons_succ]
          refine Tr.take_at 10 107 (.int .i64 0) rfl rfl (by kernel_rfl) (by kernel_rfl) (by kernel_rfl) (fun _ _ _ h => h) (Or.inl ⟨by rfl, ?_⟩) (by assumption) ?_
          ·
           intro W0 hSw
           (try dsimp only at hSw)
           go_simp
          simp only [List.set_cons_zero, List.set_cons_succ]
          refine Tr.take_at 11 108 (.pointer (some ⟨w.heap.size + 1, 0, none⟩)) rfl rfl (by kernel_rfl) (by kernel_rfl) (by kernel_rfl) (fun _ _ _ h => h) (Or.inl ⟨by rfl, ?_⟩) (by assumption) ?_
          ·
           intro W0 hSw
           (try dsimp only at hSw)
           go_simp
          simp only [List.set_cons_zero, List.set_cons_succ]
          refine wpAnyH_ready (rs := [12]) (by kernel_rfl) (by simp) ?_
          refine AllReadyH.cons rfl (fun K hK => ?_) AllReadyH.nil
          have hst3 : St34 w wc2 g9 g10 #[.int .i64 (un : Int), .int .i64 pX, .int .i64 pY, .int .i64 W, .int .i64 H, .bool pM, .bool pS, .slice A m c1, .slice Ap (W * H) cp] #[.int .i64 W, .int .i64 H, .slice Ag (W * H) cg] l (W * H) (inkL W (W * H) pI) Ap Ag AL k cL RW RH (l ++ [⟨(un : Int), pX, pY, W, H, pM, pS, A, m, c1, Ap, W * H, cp, if pS then psh else [], inkL W (W * H) pI⟩]) l l (some mk') (some mu') mp mc := ⟨HRE.out.below HBW.out, HTN.out, HMP.out.below HBW.out, HMC.out.below HBW.out⟩
          have hpt := hst3.putT HN9.out HN10.out (K4.out.belowS HBW.out) (some mk') (some mu')
          refine Tr.wanted_plain rfl ?_
          refine store_mid0 rfl 37 _ _ rfl (w.heap.size + 1) 0 #[.map (some mk'), .map (some mu')] (by rfl) (by rfl) (there_part (K4.out.belowS HBW.out) (by simp)) Tryz.sizeTr (by simp [Value.oneCell']) ?_
          obtain ⟨V19, hV⟩ : ∃ V, World.setCells wc2 (w.heap.size + 1) 0 (#[.map (some mk'), .map (some mu')] : Array Value).toList = V := ⟨_, rfl⟩
          rw [hV] at hpt ⊢
          have HPT := Lib.hid hpt
          clear hV hpt hst3
          replace HBW := Lib.hid (bre V19)
          replace KW := Lib.hid (fun (W' : World) (h : Below V19.heap.size V19 W') => show (fun w' => w'.cell? ⟨g9, 0, none⟩ = some (.int .i64 (un : Int))) W' from (HPT.out.1.r.k9.belowS h).cellV (i := 0) rfl)
          refine hK.out _ _ (KW.out _ HBW.out) (fun _ => ?_); clear hK K
          refine Tr.take_at 13 12 (.int .i64 0) rfl rfl (by kernel_rfl) (by kernel_rfl) (by kernel_rfl) (fun _ _ _ h => h) (Or.inl ⟨by rfl, ?_⟩) (by assumption) ?_
          ·
           intro W0 hSw
           (try dsimp only at hSw)
           go_simp
          simp only [List.set_cons_zero, List.set_cons_succ]
          refine wpAnyH_done (by kernel_rfl) ?_ _
          refine NoPanic.normal ?_
          go_wp2_with fail
          go_meet
          exact ⟨some mk', some mu', rfl, HPT.out.2, HPT.out.1⟩
      obtain ⟨mk', mu', rfl, a1, a2⟩ := hcut
      replace K4 := Lib.hid a1
      have HST := Lib.hid a2
      clear a1 a2 HRE HTR HPRE HNOD HMP HMC HLO2
      have hsp := HST.out.p
      have hne : l ≠ [] := fun h => by have h1 := HLK.out; have h2 := HK1.out; rw [h, List.length_nil] at h1; omega
      obtain ⟨_, bs, hpl, hsc, hfar⟩ := hsp.resolve_left (fun h => hne h.1)
      have hl1 : 1 ≤ l.length := by rw [HLK.out]; exact HK1.out.1
      have hl7 : l.length ≤ 7 := by rw [HLK.out]; exact HK1.out.2
      rw [HLK.out] at hpl
      have HL1 := Lib.hid hl1
      have HL7 := Lib.hid hl7
      have HPL := Lib.hid hpl
      have HSC := Lib.hid hsc
      have HFA := Lib.hid hfar
      have hfew : (if pS then psh else []).length ≤ 12 := HDW.out.few
      have hm1 : m ≤ 12 := by have := HRS.out.1; omega
      have HSM2 := Lib.hid (show ∀ r ∈ (if pS then psh else []), r.X ≤ 9223372036854775807 ∧ r.Y ≤ 9223372036854775807 from fun r hr => by have := HDW.out.sh r hr; omega)
      clear hsp hne hpl hsc hfar hl1 hl7 hfew
      go_upto_region 21 with fail
      have HBW := Lib.hid (show Below wc.heap.size wc wc.drew from (bre wc).drew)
      have KW := Lib.hid (fun (W' : World) (h : Below wc.heap.size wc W') => show (fun w' => w'.cell? ⟨g9, 1, none⟩ = some (.int .i64 pX) ∧ w'.cell? ⟨g9, 2, none⟩ = some (.int .i64 pY) ∧ w'.cell? ⟨g9, 5, none⟩ = some (.bool pM) ∧ w'.cell? ⟨g9, 6, none⟩ = some (.bool pS) ∧ w'.cell? ⟨g9, 7, none⟩ = some (.slice A m c1)) W' from ⟨(HST.out.r.k9.belowS h).cellV (i := 1) rfl, (HST.out.r.k9.belowS h).cellV (i := 2) rfl, (HST.out.r.k9.belowS h).cellV (i := 5) rfl, (HST.out.r.k9.belowS h).cellV (i := 6) rfl, (HST.out.r.k9.belowS h).cellV (i := 7) rfl⟩)
      refine wp_region_noPanic ?_
      refine wp_region_held_drew (S := (fun w' => w'.cell? ⟨g9, 1, none⟩ = some (.int .i64 pX) ∧ w'.cell? ⟨g9, 2, none⟩ = some (.int .i64 pY) ∧ w'.cell? ⟨g9, 5, none⟩ = some (.bool pM) ∧ w'.cell? ⟨g9, 6, none⟩ = some (.bool pS) ∧ w'.cell? ⟨g9, 7, none⟩ = some (.slice A m c1))) (by kernel_rfl) ?_ (fun _ => ?_)
      ·
       (try dsimp only)
       exact ⟨(HST.out.r.k9.belowS HBW.out).cellV (i := 1) rfl, (HST.out.r.k9.belowS HBW.out).cellV (i := 2) rfl, (HST.out.r.k9.belowS HBW.out).cellV (i := 5) rfl, (HST.out.r.k9.belowS HBW.out).cellV (i := 6) rfl, (HST.out.r.k9.belowS HBW.out).cellV (i := 7) rfl⟩
      refine Tr.take_at 0 112 (.pointer (some ⟨w.heap.size + 1, 2, none⟩)) rfl rfl (by kernel_rfl) (by kernel_rfl) (by kernel_rfl) (fun _ _ _ h => h) (Or.inl ⟨by rfl, ?_⟩) (by assumption) ?_
      ·
       intro W0 hSw
       (try dsimp only at hSw)
       go_simp
      simp only [List.set_cons_zero, List.set_cons_succ]
      refine Tr.take_at 2 114 (.int .i64 k) rfl rfl (by kernel_rfl) (by kernel_rfl) (by kernel_rfl) (fun _ _ _ h => h) (Or.inl ⟨by rfl, ?_⟩) (by assumption) ?_
      ·
       intro W0 hSw
       (try dsimp only at hSw)
       go_simp
      simp only [List.set_cons_zero, List.set_cons_succ]
      refine Tr.take_at 4 116 (.pointer (some ⟨g9, 1, none⟩)) rfl rfl (by kernel_rfl) (by kernel_rfl) (by kernel_rfl) (fun _ _ _ h => h) (Or.inl ⟨by rfl, ?_⟩) (by assumption) ?_
      ·
       intro W0 hSw
       (try dsimp only at hSw)
       go_simp
      simp only [List.set_cons_zero, List.set_cons_succ]
      refine Tr.take_at 5 117 (.int .i64 pX) rfl rfl (by kernel_rfl) (by kernel_rfl) (by kernel_rfl) (fun _ _ _ h => h) (Or.inl ⟨by rfl, ?_⟩) (by assumption) ?_
      ·
       intro W0 hSw
       (try dsimp only at hSw)
       go_simp
      simp only [List.set_cons_zero, List.set_cons_succ]
      refine Tr.take_at 6 118 (.pointer (some ⟨g9, 2, none⟩)) rfl rfl (by kernel_rfl) (by kernel_rfl) (by kernel_rfl) (fun _ _ _ h => h) (Or.inl ⟨by rfl, ?_⟩) (by assumption) ?_
      ·
       intro W0 hSw
       (try dsimp only at hSw)
       go_simp
      simp only [List.set_cons_zero, List.set_cons_succ]
      refine Tr.take_at 7 119 (.int .i64 pY) rfl rfl (by kernel_rfl) (by kernel_rfl) (by kernel_rfl) (fun _ _ _ h => h) (Or.inl ⟨by rfl, ?_⟩) (by assumption) ?_
      ·
       intro W0 hSw
       (try dsimp only at hSw)
       go_simp
      simp only [List.set_cons_zero, List.set_cons_succ]
      refine Tr.take_at 8 120 (.int .i64 W) rfl rfl (by kernel_rfl) (by kernel_rfl) (by kernel_rfl) (fun _ _ _ h => h) (Or.inl ⟨by rfl, ?_⟩) (by assumption) ?_
      ·
       intro W0 hSw
       (try dsimp only at hSw)
       go_simp
      simp only [List.set_cons_zero, List.set_cons_succ]
      refine Tr.take_at 9 121 (.int .i64 H) rfl rfl (by kernel_rfl) (by kernel_rfl) (by kernel_rfl) (fun _ _ _ h => h) (Or.inl ⟨by rfl, ?_⟩) (by assumption) ?_
      ·
       intro W0 hSw
       (try dsimp only at hSw)
       go_simp
      simp only [List.set_cons_zero, List.set_cons_succ]
      refine Tr.take_at 10 122 (.pointer (some ⟨g9, 5, none⟩)) rfl rfl (by kernel_rfl) (by kernel_rfl) (by kernel_rfl) (fun _ _ _ h => h) (Or.inl ⟨by rfl, ?_⟩) (by assumption) ?_
      ·
       intro W0 hSw
       (try dsimp only at hSw)
       go_simp
      simp only [List.set_cons_zero, List.set_cons_succ]
      refine Tr.take_at 11 123 (.bool pM) rfl rfl (by kernel_rfl) (by kernel_rfl) (by kernel_rfl) (fun _ _ _ h => h) (Or.inl ⟨by rfl, ?_⟩) (by assumption) ?_
      ·
       intro W0 hSw
       (try dsimp only at hSw)
       go_simp
      simp only [List.set_cons_zero, List.set_cons_succ]
      refine Tr.take_at 12 124 (.pointer (some ⟨g9, 6, none⟩)) rfl rfl (by kernel_rfl) (by kernel_rfl) (by kernel_rfl) (fun _ _ _ h => h) (Or.inl ⟨by rfl, ?_⟩) (by assumption) ?_
      ·
       intro W0 hSw
       (try dsimp only at hSw)
       go_simp
      simp only [List.set_cons_zero, List.set_cons_succ]
      refine Tr.take_at 13 125 (.bool pS) rfl rfl (by kernel_rfl) (by kernel_rfl) (by kernel_rfl) (fun _ _ _ h => h) (Or.inl ⟨by rfl, ?_⟩) (by assumption) ?_
      ·
       intro W0 hSw
       (try dsimp only at hSw)
       go_simp
      simp only [List.set_cons_zero, List.set_cons_succ]
      refine Tr.take_at 14 126 (.pointer (some ⟨g9, 7, none⟩)) rfl rfl (by kernel_rfl) (by kernel_rfl) (by kernel_rfl) (fun _ _ _ h => h) (Or.inl ⟨by rfl, ?_⟩) (by assumption) ?_
      ·
       intro W0 hSw
       (try dsimp only at hSw)
       go_simp
      simp only [List.set_cons_zero, List.set_cons_succ]
      refine Tr.take_at 15 127 (.slice A m c1) rfl rfl (by kernel_rfl) (by kernel_rfl) (by kernel_rfl) (fun _ _ _ h => h) (Or.inl ⟨by rfl, ?_⟩) (by assumption) ?_
      ·
       intro W0 hSw
       (try dsimp only at hSw)
       go_simp
      simp only [List.set_cons_zero, List.set_cons_succ]
      refine wpAnyH_ready (rs := [1, 3]) (by kernel_rfl) (by simp) ?_
      refine AllReadyH.cons rfl (fun K hK => ?_) (AllReadyH.cons rfl (fun K hK => ?_) AllReadyH.nil)
      ·
       have c2 := (K4.out.belowS HBW.out).cellV (i := 2) (v := .map mp) rfl; go_simp
       clear c2
       refine hK.out _ _ (KW.out _ HBW.out) (fun _ => ?_); clear hK K
       refine wpAnyH_ready (rs := [3]) (by kernel_rfl) (by simp) ?_
       refine AllReadyH.cons rfl (fun K hK => ?_) AllReadyH.nil; go_simp
       refine (id34_any k _ (by omega)).mono ?_
       rintro e wc0 ⟨rfl, hbA⟩
       replace HBW := Lib.hid (bstep HBW.out hbA); clear hbA; go_simp
       refine hK.out _ _ (KW.out _ HBW.out) (fun _ => ?_); clear hK K
       refine wpAnyH_ready (rs := [16]) (by kernel_rfl) (by simp) ?_
       refine AllReadyH.cons rfl (fun K hK => ?_) AllReadyH.nil; go_simp
       refine (of_anyT A m c1 (if pS then psh else []) _ (by omega) (HRS.out.below (bstep HST.out.r.bel HBW.out)) HSM2.out).mono ?_
       rintro e wc1 ⟨out, Ao, co, rfl, hr, hc, hp, hl', hty, hbA⟩
       have hp2 : ∀ x y, InR out x y ↔ InR (⟨(un : Int), pX, pY, W, H, pM, pS, A, m, c1, Ap, W * H, cp, if pS then psh else [], inkL W (W * H) pI⟩ : R34).dw.sh x y := fun x y => (hp x y).trans (sh_cnt HDW.out x y)
       have HOF := Lib.hid (show BoxOf wc1 (⟨(un : Int), pX, pY, W, H, pM, pS, A, m, c1, Ap, W * H, cp, if pS then psh else [], inkL W (W * H) pI⟩ : R34).dw (⟨pX, pY, (W : Int), (H : Int), pM, 0, 0, pS, Ao, out.length, co⟩ : BX) from box_of (d := (⟨(un : Int), pX, pY, W, H, pM, pS, A, m, c1, Ap, W * H, cp, if pS then psh else [], inkL W (W * H) pI⟩ : R34).dw) (co := co) HDW.out hr hc hp2 hl')
       have HNO := Lib.hid (show pS = false → out.length = 0 from fun hS => by
        rw [no_places hc (fun x y hxy => by
         have h1 := (hp2 x y).1 hxy
         have h0 : (⟨(un : Int), pX, pY, W, H, pM, pS, A, m, c1, Ap, W * H, cp, if pS then psh else [], inkL W (W * H) pI⟩ : R34).dw.sh = [] := HDW.out.s hS
         rw [h0] at h1
         obtain ⟨r, hr, _⟩ := h1
         cases hr)]
        rfl)
       have HFO := Lib.hid (show Far (.slice AL k cL) Ao out.length from fun h0 a ha e => by
        rcases hty with h1 | ⟨g, cs, h1, h2⟩
        ·
         omega
        ·
         rw [h1] at ha
         cases ha
         exact own_other (ownsRow_below HST.out.r.own (bstep HBW.out hbA)) h2 (by decide) e)
       clear hr hc hp hp2 hl' hty
       replace HBW := Lib.hid (bstep HBW.out hbA); clear hbA; go_simp
       refine hK.out _ _ (KW.out _ HBW.out) (fun _ => ?_); clear hK K
       refine Tr.take_at 17 129 (.agg #[.int .i64 pX, .int .i64 pY, .int .i64 W, .int .i64 H, .bool pM, .int .i64 0, .int .i64 0, .bool pS, .slice Ao out.length co]) rfl rfl (by kernel_rfl) (by kernel_rfl) (by kernel_rfl) (fun _ _ _ h => h) (Or.inl ⟨by rfl, ?_⟩) (by assumption) ?_
       ·
        intro W0 hSw
        apply y_build
        as_aux_lemma => kernel_rfl
       simp only [List.set_cons_zero, List.set_cons_succ]
       refine wpAnyH_ready (rs := [18]) (by kernel_rfl) (by simp) ?_
       refine AllReadyH.cons rfl (fun K hK => ?_) AllReadyH.nil; go_simp
       have hset := set_34 (d := ⟨(un : Int), pX, pY, W, H, pM, pS, A, m, c1, Ap, W * H, cp, if pS then psh else [], inkL W (W * H) pI⟩) (b := (⟨pX, pY, (W : Int), (H : Int), pM, 0, 0, pS, Ao, out.length, co⟩ : BX)) (HSC.out.below HBW.out) HL1.out HL7.out HDW.out HOF.out ⟨rfl, rfl⟩ HNO.out
       rw [HLK.out] at hset
       refine (pset_any (.agg #[.map mp]) k bs (idW ((k : Int) - 1)) (⟨pX, pY, (W : Int), (H : Int), pM, 0, 0, pS, Ao, out.length, co⟩ : BX) _ (idW_bd (by omega)) (by omega) (HPL.out.below HBW.out) (fun h => by have := HK1.out; omega)).mono ?_
       rintro e wc2 ⟨pv', rfl, hp', hbA⟩
       rw [hset.1]
       rw [hset.2.1, hset.2.2] at hp'
       have hp2 := hp'
       obtain ⟨mp', rfl, _⟩ := hp'
       have HPN := Lib.hid (show MPf wc2 (.slice AL k cL) (l ++ [⟨(un : Int), pX, pY, W, H, pM, pS, A, m, c1, Ap, W * H, cp, if pS then psh else [], inkL W (W * H) pI⟩]) mp' RW RH from mpf_step (d := ⟨(un : Int), pX, pY, W, H, pM, pS, A, m, c1, Ap, W * H, cp, if pS then psh else [], inkL W (W * H) pI⟩) HL1.out (by rw [HLK.out]; exact hp2) ((HSC.out.below HBW.out).below hbA) (HOF.out.below hbA) HFA.out HFO.out)
       clear hset hp2
       replace HBW := Lib.hid (bstep HBW.out hbA)
       replace HOF := Lib.hid (HOF.out.below hbA); clear hbA; go_simp
       refine hK.out _ _ (KW.out _ HBW.out) (fun _ => ?_); clear hK K
       refine Tr.take_at 19 111 (.tuple #[.agg #[.map mp'], .int .i64 0]) rfl rfl (by kernel_rfl) (by kernel_rfl) (by kernel_rfl) (fun _ _ _ h => h) (Or.inl ⟨by rfl, ?_⟩) (by assumption) ?_
       ·
        intro W0 hSw
        (try dsimp only at hSw)
        go_simp
       simp only [List.set_cons_zero, List.set_cons_succ]
       refine Tr.take_at 20 131 (.agg #[.map mp']) rfl rfl (by kernel_rfl) (by kernel_rfl) (by kernel_rfl) (fun _ _ _ h => h) (Or.inl ⟨by rfl, ?_⟩) (by assumption) ?_
       ·
        intro W0 hSw
        (try dsimp only at hSw)
        go_simp
       simp only [List.set_cons_zero, List.set_cons_succ]
       refine Tr.take_at 21 132 (.int .i64 0) rfl rfl (by kernel_rfl) (by kernel_rfl) (by kernel_rfl) (fun _ _ _ h => h) (Or.inl ⟨by rfl, ?_⟩) (by assumption) ?_
       ·
        intro W0 hSw
        (try dsimp only at hSw)
        go_simp
       simp only [List.set_cons_zero, List.set_cons_succ]
       refine Tr.take_at 22 133 (.pointer (some ⟨w.heap.size + 1, 2, none⟩)) rfl rfl (by kernel_rfl) (by kernel_rfl) (by kernel_rfl) (fun _ _ _ h => h) (Or.inl ⟨by rfl, ?_⟩) (by assumption) ?_
       ·
        intro W0 hSw
        (try dsimp only at hSw)
        go_simp
       simp only [List.set_cons_zero, List.set_cons_succ]
       refine wpAnyH_ready (rs := [23]) (by kernel_rfl) (by simp) ?_
       refine AllReadyH.cons rfl (fun K hK => ?_) AllReadyH.nil
       have hst2 := HST.out.below HBW.out
       have hst3 : St34 w wc2 g9 g10 #[.int .i64 (un : Int), .int .i64 pX, .int .i64 pY, .int .i64 W, .int .i64 H, .bool pM, .bool pS, .slice A m c1, .slice Ap (W * H) cp] #[.int .i64 W, .int .i64 H, .slice Ag (W * H) cg] l (W * H) (inkL W (W * H) pI) Ap Ag AL k cL RW RH (l ++ [⟨(un : Int), pX, pY, W, H, pM, pS, A, m, c1, Ap, W * H, cp, if pS then psh else [], inkL W (W * H) pI⟩]) (l ++ [⟨(un : Int), pX, pY, W, H, pM, pS, A, m, c1, Ap, W * H, cp, if pS then psh else [], inkL W (W * H) pI⟩]) l mk' mu' mp' mc := ⟨hst2.r, hst2.t, HPN.out, hst2.c⟩
       have hpt := hst3.putP HN9.out HN10.out (K4.out.belowS HBW.out) mp'
       refine Tr.wanted_plain rfl ?_
       refine store_mid0 rfl 40 _ _ rfl (w.heap.size + 1) 2 #[.map mp'] (by rfl) (by rfl) (there_part (K4.out.belowS HBW.out) (by simp)) Tryz.sizePl (by simp [Value.oneCell']) ?_
       obtain ⟨V19, hV⟩ : ∃ V, World.setCells wc2 (w.heap.size + 1) 2 (#[.map mp'] : Array Value).toList = V := ⟨_, rfl⟩
       rw [hV] at hpt ⊢
       clear hst2
       have HPT := Lib.hid hpt
       clear hV hpt hst3
       replace HBW := Lib.hid (bre V19)
       replace KW := Lib.hid (fun (W' : World) (h : Below V19.heap.size V19 W') => show (fun w' => w'.cell? ⟨g9, 1, none⟩ = some (.int .i64 pX) ∧ w'.cell? ⟨g9, 2, none⟩ = some (.int .i64 pY) ∧ w'.cell? ⟨g9, 5, none⟩ = some (.bool pM) ∧ w'.cell? ⟨g9, 6, none⟩ = some (.bool pS) ∧ w'.cell? ⟨g9, 7, none⟩ = some (.slice A m c1)) W' from (by have k9 := HPT.out.1.r.k9.belowS h; exact ⟨k9.cellV (i := 1) rfl, k9.cellV (i := 2) rfl, k9.cellV (i := 5) rfl, k9.cellV (i := 6) rfl, k9.cellV (i := 7) rfl⟩))
       refine hK.out _ _ (KW.out _ HBW.out) (fun _ => ?_); clear hK K
       refine Tr.take_at 24 12 (.int .i64 0) rfl rfl (by kernel_rfl) (by kernel_rfl) (by kernel_rfl) (fun _ _ _ h => h) (Or.inl ⟨by rfl, ?_⟩) (by assumption) ?_
       ·
        intro W0 hSw
        (try dsimp only at hSw)
        go_simp
       simp only [List.set_cons_zero, List.set_cons_succ]
       refine wpAnyH_done (by kernel_rfl) ?_ _
       refine NoPanic.normal ?_
       go_wp2_with fail
       go_meet
       exact ⟨mk', mu', mp', _, rfl, ⟨rfl, rfl, rfl, rfl, rfl, rfl⟩, HLK2.out, HPT.out.2, HPT.out.1, HRS.out⟩
      ·
       go_simp
       refine (id34_any k _ (by omega)).mono ?_
       rintro e wc0 ⟨rfl, hbA⟩
       replace HBW := Lib.hid (bstep HBW.out hbA); clear hbA; go_simp
       refine hK.out _ _ (KW.out _ HBW.out) (fun _ => ?_); clear hK K
       refine wpAnyH_ready (rs := [1, 16]) (by kernel_rfl) (by simp) ?_
       refine AllReadyH.cons rfl (fun K hK => ?_) (AllReadyH.cons rfl (fun K hK => ?_) AllReadyH.nil)
       ·
        have c2 := (K4.out.belowS HBW.out).cellV (i := 2) (v := .map mp) rfl; go_simp
        clear c2
        refine hK.out _ _ (KW.out _ HBW.out) (fun _ => ?_); clear hK K
        refine wpAnyH_ready (rs := [16]) (by kernel_rfl) (by simp) ?_
        refine AllReadyH.cons rfl (fun K hK => ?_) AllReadyH.nil; go_simp
        refine (of_anyT A m c1 (if pS then psh else []) _ (by omega) (HRS.out.below (bstep HST.out.r.bel HBW.out)) HSM2.out).mono ?_
        rintro e wc1 ⟨out, Ao, co, rfl, hr, hc, hp, hl', hty, hbA⟩
        have hp2 : ∀ x y, InR out x y ↔ InR (⟨(un : Int), pX, pY, W, H, pM, pS, A, m, c1, Ap, W * H, cp, if pS then psh else [], inkL W (W * H) pI⟩ : R34).dw.sh x y := fun x y => (hp x y).trans (sh_cnt HDW.out x y)
        have HOF := Lib.hid (show BoxOf wc1 (⟨(un : Int), pX, pY, W, H, pM, pS, A, m, c1, Ap, W * H, cp, if pS then psh else [], inkL W (W * H) pI⟩ : R34).dw (⟨pX, pY, (W : Int), (H : Int), pM, 0, 0, pS, Ao, out.length, co⟩ : BX) from box_of (d := (⟨(un : Int), pX, pY, W, H, pM, pS, A, m, c1, Ap, W * H, cp, if pS then psh else [], inkL W (W * H) pI⟩ : R34).dw) (co := co) HDW.out hr hc hp2 hl')
        have HNO := Lib.hid (show pS = false → out.length = 0 from fun hS => by
         rw [no_places hc (fun x y hxy => by
          have h1 := (hp2 x y).1 hxy
          have h0 : (⟨(un : Int), pX, pY, W, H, pM, pS, A, m, c1, Ap, W * H, cp, if pS then psh else [], inkL W (W * H) pI⟩ : R34).dw.sh = [] := HDW.out.s hS
          rw [h0] at h1
          obtain ⟨r, hr, _⟩ := h1
          cases hr)]
         rfl)
        have HFO := Lib.hid (show Far (.slice AL k cL) Ao out.length from fun h0 a ha e => by
         rcases hty with h1 | ⟨g, cs, h1, h2⟩
         ·
          omega
         ·
          rw [h1] at ha
          cases ha
          exact own_other (ownsRow_below HST.out.r.own (bstep HBW.out hbA)) h2 (by decide) e)
        clear hr hc hp hp2 hl' hty
        replace HBW := Lib.hid (bstep HBW.out hbA); clear hbA; go_simp
        refine hK.out _ _ (KW.out _ HBW.out) (fun _ => ?_); clear hK K
        refine Tr.take_at 17 129 (.agg #[.int .i64 pX, .int .i64 pY, .int .i64 W, .int .i64 H, .bool pM, .int .i64 0, .int .i64 0, .bool pS, .slice Ao out.length co]) rfl rfl (by kernel_rfl) (by kernel_rfl) (by kernel_rfl) (fun _ _ _ h => h) (Or.inl ⟨by rfl, ?_⟩) (by assumption) ?_
        ·
         intro W0 hSw
         apply y_build
         as_aux_lemma => kernel_rfl
        simp only [List.set_cons_zero, List.set_cons_succ]
        refine wpAnyH_ready (rs := [18]) (by kernel_rfl) (by simp) ?_
        refine AllReadyH.cons rfl (fun K hK => ?_) AllReadyH.nil; go_simp
        have hset := set_34 (d := ⟨(un : Int), pX, pY, W, H, pM, pS, A, m, c1, Ap, W * H, cp, if pS then psh else [], inkL W (W * H) pI⟩) (b := (⟨pX, pY, (W : Int), (H : Int), pM, 0, 0, pS, Ao, out.length, co⟩ : BX)) (HSC.out.below HBW.out) HL1.out HL7.out HDW.out HOF.out ⟨rfl, rfl⟩ HNO.out
        rw [HLK.out] at hset
        refine (pset_any (.agg #[.map mp]) k bs (idW ((k : Int) - 1)) (⟨pX, pY, (W : Int), (H : Int), pM, 0, 0, pS, Ao, out.length, co⟩ : BX) _ (idW_bd (by omega)) (by omega) (HPL.out.below HBW.out) (fun h => by have := HK1.out; omega)).mono ?_
        rintro e wc2 ⟨pv', rfl, hp', hbA⟩
        rw [hset.1]
        rw [hset.2.1, hset.2.2] at hp'
        have hp2 := hp'
        obtain ⟨mp', rfl, _⟩ := hp'
        have HPN := Lib.hid (show MPf wc2 (.slice AL k cL) (l ++ [⟨(un : Int), pX, pY, W, H, pM, pS, A, m, c1, Ap, W * H, cp, if pS then psh else [], inkL W (W * H) pI⟩]) mp' RW RH from mpf_step (d := ⟨(un : Int), pX, pY, W, H, pM, pS, A, m, c1, Ap, W * H, cp, if pS then psh else [], inkL W (W * H) pI⟩) HL1.out (by rw [HLK.out]; exact hp2) ((HSC.out.below HBW.out).below hbA) (HOF.out.below hbA) HFA.out HFO.out)
        clear hset hp2
        replace HBW := Lib.hid (bstep HBW.out hbA)
        replace HOF := Lib.hid (HOF.out.below hbA); clear hbA; go_simp
        refine hK.out _ _ (KW.out _ HBW.out) (fun _ => ?_); clear hK K
        refine Tr.take_at 19 111 (.tuple #[.agg #[.map mp'], .int .i64 0]) rfl rfl (by kernel_rfl) (by kernel_rfl) (by kernel_rfl) (fun _ _ _ h => h) (Or.inl ⟨by rfl, ?_⟩) (by assumption) ?_
        ·
         intro W0 hSw
         (try dsimp only at hSw)
         go_simp
        simp only [List.set_cons_zero, List.set_cons_succ]
        refine Tr.take_at 20 131 (.agg #[.map mp']) rfl rfl (by kernel_rfl) (by kernel_rfl) (by kernel_rfl) (fun _ _ _ h => h) (Or.inl ⟨by rfl, ?_⟩) (by assumption) ?_
        ·
         intro W0 hSw
         (try dsimp only at hSw)
         go_simp
        simp only [List.set_cons_zero, List.set_cons_succ]
        refine Tr.take_at 21 132 (.int .i64 0) rfl rfl (by kernel_rfl) (by kernel_rfl) (by kernel_rfl) (fun _ _ _ h => h) (Or.inl ⟨by rfl, ?_⟩) (by assumption) ?_
        ·
         intro W0 hSw
         (try dsimp only at hSw)
         go_simp
        simp only [List.set_cons_zero, List.set_cons_succ]
        refine Tr.take_at 22 133 (.pointer (some ⟨w.heap.size + 1, 2, none⟩)) rfl rfl (by kernel_rfl) (by kernel_rfl) (by kernel_rfl) (fun _ _ _ h => h) (Or.inl ⟨by rfl, ?_⟩) (by assumption) ?_
        ·
         intro W0 hSw
         (try dsimp only at hSw)
         go_simp
        simp only [List.set_cons_zero, List.set_cons_succ]
        refine wpAnyH_ready (rs := [23]) (by kernel_rfl) (by simp) ?_
        refine AllReadyH.cons rfl (fun K hK => ?_) AllReadyH.nil
        have hst2 := HST.out.below HBW.out
        have hst3 : St34 w wc2 g9 g10 #[.int .i64 (un : Int), .int .i64 pX, .int .i64 pY, .int .i64 W, .int .i64 H, .bool pM, .bool pS, .slice A m c1, .slice Ap (W * H) cp] #[.int .i64 W, .int .i64 H, .slice Ag (W * H) cg] l (W * H) (inkL W (W * H) pI) Ap Ag AL k cL RW RH (l ++ [⟨(un : Int), pX, pY, W, H, pM, pS, A, m, c1, Ap, W * H, cp, if pS then psh else [], inkL W (W * H) pI⟩]) (l ++ [⟨(un : Int), pX, pY, W, H, pM, pS, A, m, c1, Ap, W * H, cp, if pS then psh else [], inkL W (W * H) pI⟩]) l mk' mu' mp' mc := ⟨hst2.r, hst2.t, HPN.out, hst2.c⟩
        have hpt := hst3.putP HN9.out HN10.out (K4.out.belowS HBW.out) mp'
        refine Tr.wanted_plain rfl ?_
        refine store_mid0 rfl 40 _ _ rfl (w.heap.size + 1) 2 #[.map mp'] (by rfl) (by rfl) (there_part (K4.out.belowS HBW.out) (by simp)) Tryz.sizePl (by simp [Value.oneCell']) ?_
        obtain ⟨V19, hV⟩ : ∃ V, World.setCells wc2 (w.heap.size + 1) 2 (#[.map mp'] : Array Value).toList = V := ⟨_, rfl⟩
        rw [hV] at hpt ⊢
        clear hst2
        have HPT := Lib.hid hpt
        clear hV hpt hst3
        replace HBW := Lib.hid (bre V19)
        replace KW := Lib.hid (fun (W' : World) (h : Below V19.heap.size V19 W') => show (fun w' => w'.cell? ⟨g9, 1, none⟩ = some (.int .i64 pX) ∧ w'.cell? ⟨g9, 2, none⟩ = some (.int .i64 pY) ∧ w'.cell? ⟨g9, 5, none⟩ = some (.bool pM) ∧ w'.cell? ⟨g9, 6, none⟩ = some (.bool pS) ∧ w'.cell? ⟨g9, 7, none⟩ = some (.slice A m c1)) W' from (by have k9 := HPT.out.1.r.k9.belowS h; exact ⟨k9.cellV (i := 1) rfl, k9.cellV (i := 2) rfl, k9.cellV (i := 5) rfl, k9.cellV (i := 6) rfl, k9.cellV (i := 7) rfl⟩))
        refine hK.out _ _ (KW.out _ HBW.out) (fun _ => ?_); clear hK K
        refine Tr.take_at 24 12 (.int .i64 0) rfl rfl (by kernel_rfl) (by kernel_rfl) (by kernel_rfl) (fun _ _ _ h => h) (Or.inl ⟨by rfl, ?_⟩) (by assumption) ?_
        ·
         intro W0 hSw
         (try dsimp only at hSw)
         go_simp
        simp only [List.set_cons_zero, List.set_cons_succ]
        refine wpAnyH_done (by kernel_rfl) ?_ _
        refine NoPanic.normal ?_
        go_wp2_with fail
        go_meet
        exact ⟨mk', mu', mp', _, rfl, ⟨rfl, rfl, rfl, rfl, rfl, rfl⟩, HLK2.out, HPT.out.2, HPT.out.1, HRS.out⟩
       ·
        go_simp
        refine (of_anyT A m c1 (if pS then psh else []) _ (by omega) (HRS.out.below (bstep HST.out.r.bel HBW.out)) HSM2.out).mono ?_
        rintro e wc1 ⟨out, Ao, co, rfl, hr, hc, hp, hl', hty, hbA⟩
        have hp2 : ∀ x y, InR out x y ↔ InR (⟨(un : Int), pX, pY, W, H, pM, pS, A, m, c1, Ap, W * H, cp, if pS then psh else [], inkL W (W * H) pI⟩ : R34).dw.sh x y := fun x y => (hp x y).trans (sh_cnt HDW.out x y)
        have HOF := Lib.hid (show BoxOf wc1 (⟨(un : Int), pX, pY, W, H, pM, pS, A, m, c1, Ap, W * H, cp, if pS then psh else [], inkL W (W * H) pI⟩ : R34).dw (⟨pX, pY, (W : Int), (H : Int), pM, 0, 0, pS, Ao, out.length, co⟩ : BX) from box_of (d := (⟨(un : Int), pX, pY, W, H, pM, pS, A, m, c1, Ap, W * H, cp, if pS then psh else [], inkL W (W * H) pI⟩ : R34).dw) (co := co) HDW.out hr hc hp2 hl')
        have HNO := Lib.hid (show pS = false → out.length = 0 from fun hS => by
         rw [no_places hc (fun x y hxy => by
          have h1 := (hp2 x y).1 hxy
          have h0 : (⟨(un : Int), pX, pY, W, H, pM, pS, A, m, c1, Ap, W * H, cp, if pS then psh else [], inkL W (W * H) pI⟩ : R34).dw.sh = [] := HDW.out.s hS
          rw [h0] at h1
          obtain ⟨r, hr, _⟩ := h1
          cases hr)]
         rfl)
        have HFO := Lib.hid (show Far (.slice AL k cL) Ao out.length from fun h0 a ha e => by
         rcases hty with h1 | ⟨g, cs, h1, h2⟩
         ·
          omega
         ·
          rw [h1] at ha
          cases ha
          exact own_other (ownsRow_below HST.out.r.own (bstep HBW.out hbA)) h2 (by decide) e)
        clear hr hc hp hp2 hl' hty
        replace HBW := Lib.hid (bstep HBW.out hbA); clear hbA; go_simp
        refine hK.out _ _ (KW.out _ HBW.out) (fun _ => ?_); clear hK K
        refine Tr.take_at 17 129 (.agg #[.int .i64 pX, .int .i64 pY, .int .i64 W, .int .i64 H, .bool pM, .int .i64 0, .int .i64 0, .bool pS, .slice Ao out.length co]) rfl rfl (by kernel_rfl) (by kernel_rfl) (by kernel_rfl) (fun _ _ _ h => h) (Or.inl ⟨by rfl, ?_⟩) (by assumption) ?_
        ·
         intro W0 hSw
         apply y_build
         as_aux_lemma => kernel_rfl
        simp only [List.set_cons_zero, List.set_cons_succ]
        refine wpAnyH_ready (rs := [1]) (by kernel_rfl) (by simp) ?_
        refine AllReadyH.cons rfl (fun K hK => ?_) AllReadyH.nil
        have c2 := (K4.out.belowS HBW.out).cellV (i := 2) (v := .map mp) rfl; go_simp
        clear c2
        refine hK.out _ _ (KW.out _ HBW.out) (fun _ => ?_); clear hK K
        refine wpAnyH_ready (rs := [18]) (by kernel_rfl) (by simp) ?_
        refine AllReadyH.cons rfl (fun K hK => ?_) AllReadyH.nil; go_simp
        have hset := set_34 (d := ⟨(un : Int), pX, pY, W, H, pM, pS, A, m, c1, Ap, W * H, cp, if pS then psh else [], inkL W (W * H) pI⟩) (b := (⟨pX, pY, (W : Int), (H : Int), pM, 0, 0, pS, Ao, out.length, co⟩ : BX)) (HSC.out.below HBW.out) HL1.out HL7.out HDW.out HOF.out ⟨rfl, rfl⟩ HNO.out
        rw [HLK.out] at hset
        refine (pset_any (.agg #[.map mp]) k bs (idW ((k : Int) - 1)) (⟨pX, pY, (W : Int), (H : Int), pM, 0, 0, pS, Ao, out.length, co⟩ : BX) _ (idW_bd (by omega)) (by omega) (HPL.out.below HBW.out) (fun h => by have := HK1.out; omega)).mono ?_
        rintro e wc2 ⟨pv', rfl, hp', hbA⟩
        rw [hset.1]
        rw [hset.2.1, hset.2.2] at hp'
        have hp2 := hp'
        obtain ⟨mp', rfl, _⟩ := hp'
        have HPN := Lib.hid (show MPf wc2 (.slice AL k cL) (l ++ [⟨(un : Int), pX, pY, W, H, pM, pS, A, m, c1, Ap, W * H, cp, if pS then psh else [], inkL W (W * H) pI⟩]) mp' RW RH from mpf_step (d := ⟨(un : Int), pX, pY, W, H, pM, pS, A, m, c1, Ap, W * H, cp, if pS then psh else [], inkL W (W * H) pI⟩) HL1.out (by rw [HLK.out]; exact hp2) ((HSC.out.below HBW.out).below hbA) (HOF.out.below hbA) HFA.out HFO.out)
        clear hset hp2
        replace HBW := Lib.hid (bstep HBW.out hbA)
        replace HOF := Lib.hid (HOF.out.below hbA); clear hbA; go_simp
        refine hK.out _ _ (KW.out _ HBW.out) (fun _ => ?_); clear hK K
        refine Tr.take_at 19 111 (.tuple #[.agg #[.map mp'], .int .i64 0]) rfl rfl (by kernel_rfl) (by kernel_rfl) (by kernel_rfl) (fun _ _ _ h => h) (Or.inl ⟨by rfl, ?_⟩) (by assumption) ?_
        ·
         intro W0 hSw
         (try dsimp only at hSw)
         go_simp
        simp only [List.set_cons_zero, List.set_cons_succ]
        refine Tr.take_at 20 131 (.agg #[.map mp']) rfl rfl (by kernel_rfl) (by kernel_rfl) (by kernel_rfl) (fun _ _ _ h => h) (Or.inl ⟨by rfl, ?_⟩) (by assumption) ?_
        ·
         intro W0 hSw
         (try dsimp only at hSw)
         go_simp
        simp only [List.set_cons_zero, List.set_cons_succ]
        refine Tr.take_at 21 132 (.int .i64 0) rfl rfl (by kernel_rfl) (by kernel_rfl) (by kernel_rfl) (fun _ _ _ h => h) (Or.inl ⟨by rfl, ?_⟩) (by assumption) ?_
        ·
         intro W0 hSw
         (try dsimp only at hSw)
         go_simp
        simp only [List.set_cons_zero, List.set_cons_succ]
        refine Tr.take_at 22 133 (.pointer (some ⟨w.heap.size + 1, 2, none⟩)) rfl rfl (by kernel_rfl) (by kernel_rfl) (by kernel_rfl) (fun _ _ _ h => h) (Or.inl ⟨by rfl, ?_⟩) (by assumption) ?_
        ·
         intro W0 hSw
         (try dsimp only at hSw)
         go_simp
        simp only [List.set_cons_zero, List.set_cons_succ]
        refine wpAnyH_ready (rs := [23]) (by kernel_rfl) (by simp) ?_
        refine AllReadyH.cons rfl (fun K hK => ?_) AllReadyH.nil
        have hst2 := HST.out.below HBW.out
        have hst3 : St34 w wc2 g9 g10 #[.int .i64 (un : Int), .int .i64 pX, .int .i64 pY, .int .i64 W, .int .i64 H, .bool pM, .bool pS, .slice A m c1, .slice Ap (W * H) cp] #[.int .i64 W, .int .i64 H, .slice Ag (W * H) cg] l (W * H) (inkL W (W * H) pI) Ap Ag AL k cL RW RH (l ++ [⟨(un : Int), pX, pY, W, H, pM, pS, A, m, c1, Ap, W * H, cp, if pS then psh else [], inkL W (W * H) pI⟩]) (l ++ [⟨(un : Int), pX, pY, W, H, pM, pS, A, m, c1, Ap, W * H, cp, if pS then psh else [], inkL W (W * H) pI⟩]) l mk' mu' mp' mc := ⟨hst2.r, hst2.t, HPN.out, hst2.c⟩
        have hpt := hst3.putP HN9.out HN10.out (K4.out.belowS HBW.out) mp'
        refine Tr.wanted_plain rfl ?_
        refine store_mid0 rfl 40 _ _ rfl (w.heap.size + 1) 2 #[.map mp'] (by rfl) (by rfl) (there_part (K4.out.belowS HBW.out) (by simp)) Tryz.sizePl (by simp [Value.oneCell']) ?_
        obtain ⟨V19, hV⟩ : ∃ V, World.setCells wc2 (w.heap.size + 1) 2 (#[.map mp'] : Array Value).toList = V := ⟨_, rfl⟩
        rw [hV] at hpt ⊢
        clear hst2
        have HPT := Lib.hid hpt
        clear hV hpt hst3
        replace HBW := Lib.hid (bre V19)
        replace KW := Lib.hid (fun (W' : World) (h : Below V19.heap.size V19 W') => show (fun w' => w'.cell? ⟨g9, 1, none⟩ = some (.int .i64 pX) ∧ w'.cell? ⟨g9, 2, none⟩ = some (.int .i64 pY) ∧ w'.cell? ⟨g9, 5, none⟩ = some (.bool pM) ∧ w'.cell? ⟨g9, 6, none⟩ = some (.bool pS) ∧ w'.cell? ⟨g9, 7, none⟩ = some (.slice A m c1)) W' from (by have k9 := HPT.out.1.r.k9.belowS h; exact ⟨k9.cellV (i := 1) rfl, k9.cellV (i := 2) rfl, k9.cellV (i := 5) rfl, k9.cellV (i := 6) rfl, k9.cellV (i := 7) rfl⟩))
        refine hK.out _ _ (KW.out _ HBW.out) (fun _ => ?_); clear hK K
        refine Tr.take_at 24 12 (.int .i64 0) rfl rfl (by kernel_rfl) (by kernel_rfl) (by kernel_rfl) (fun _ _ _ h => h) (Or.inl ⟨by rfl, ?_⟩) (by assumption) ?_
        ·
         intro W0 hSw
         (try dsimp only at hSw)
         go_simp
        simp only [List.set_cons_zero, List.set_cons_succ]
        refine wpAnyH_done (by kernel_rfl) ?_ _
        refine NoPanic.normal ?_
        go_wp2_with fail
        go_meet
        exact ⟨mk', mu', mp', _, rfl, ⟨rfl, rfl, rfl, rfl, rfl, rfl⟩, HLK2.out, HPT.out.2, HPT.out.1, HRS.out⟩
    obtain ⟨mk', mu', mp', d, rfl, hdf, hlk2, a1, a2, hrs⟩ := hcut
    have HDF := Lib.hid hdf
    replace K4 := Lib.hid a1
    have HST := Lib.hid a2
    have HLK2 := Lib.hid hlk2
    have HRS := Lib.hid hrs
    clear hdf hlk2 hrs a1 a2 HMT HMP HMC HMX HOW HRI HRG HBR HBG K2 K6 K9 K10 HFP HFG HLO
    obtain ⟨cs, hcn, hc2, hc3, hc4⟩ := HST.out.c
    have hnc := mc_none hc3
    rw [HLK.out] at hcn hnc
    have HCN := Lib.hid hcn
    have HC2 := Lib.hid hc2
    have HC3 := Lib.hid hc3
    have HC4 := Lib.hid hc4
    have HNC := Lib.hid hnc
    clear hcn hc2 hc3 hc4 hnc
    go_upto_region 22 with fail
    go_cut [13] from 26 to 176 (fun s13 wx => ∃ (mc' : Nat) (Ac : Option Addr) (cc : Nat), s13 = .int .i64 0 ∧ Blk wx (w.heap.size + 1) 70 #[.map mk', .map mu', .map mp', .map (some mc'), .slice AL k cL] ∧ CanvasIs wx (.agg #[.map (some mc')]) (k + 1) (cs.put (idW ((k : Int) - 1)) (⟨W, H, Ac, W * H, cc, 0, true, ((k : Int) == 0), List.replicate (W * H) 0⟩ : IT)) ∧ St34 w wx g9 g10 d.cells.toArray #[.int .i64 W, .int .i64 H, .slice Ag (W * H) cg] l (W * H) (inkL W (W * H) pI) Ap Ag AL k cL RW RH (l ++ [d]) (l ++ [d]) l mk' mu' mp' mc)
    case first =>
     as_aux_lemma =>
      have HBW := Lib.hid (show Below wc.heap.size wc wc.drew from (bre wc).drew)
      have KW := Lib.hid (fun (W' : World) (h : Below wc.heap.size wc W') => show (fun w' => True) W' from trivial)
      refine wp_region_noPanic ?_
      refine wp_region_held_drew (S := (fun w' => True)) (by kernel_rfl) ?_ (fun _ => ?_)
      ·
       (try dsimp only)
       all_goals exact trivial
      refine Tr.take_at 0 135 (.pointer (some ⟨w.heap.size + 1, 3, none⟩)) rfl rfl (by kernel_rfl) (by kernel_rfl) (by kernel_rfl) (fun _ _ _ h => h) (Or.inl ⟨by rfl, ?_⟩) (by assumption) ?_
      ·
       intro W0 hSw
       (try dsimp only at hSw)
       go_simp
      simp only [List.set_cons_zero, List.set_cons_succ]
      refine Tr.take_at 2 137 (.int .i64 k) rfl rfl (by kernel_rfl) (by kernel_rfl) (by kernel_rfl) (fun _ _ _ h => h) (Or.inl ⟨by rfl, ?_⟩) (by assumption) ?_
      ·
       intro W0 hSw
       (try dsimp only at hSw)
       go_simp
      simp only [List.set_cons_zero, List.set_cons_succ]
      refine Tr.take_at 4 139 (.int .i64 W) rfl rfl (by kernel_rfl) (by kernel_rfl) (by kernel_rfl) (fun _ _ _ h => h) (Or.inl ⟨by rfl, ?_⟩) (by assumption) ?_
      ·
       intro W0 hSw
       (try dsimp only at hSw)
       go_simp
      simp only [List.set_cons_zero, List.set_cons_succ]
      refine Tr.take_at 5 140 (.int .i64 H) rfl rfl (by kernel_rfl) (by kernel_rfl) (by kernel_rfl) (fun _ _ _ h => h) (Or.inl ⟨by rfl, ?_⟩) (by assumption) ?_
      ·
       intro W0 hSw
       (try dsimp only at hSw)
       go_simp
      simp only [List.set_cons_zero, List.set_cons_succ]
      refine Tr.take_at 6 141 (.int .i64 k) rfl rfl (by kernel_rfl) (by kernel_rfl) (by kernel_rfl) (fun _ _ _ h => h) (Or.inl ⟨by rfl, ?_⟩) (by assumption) ?_
      ·
       intro W0 hSw
       (try dsimp only at hSw)
       go_simp
      simp only [List.set_cons_zero, List.set_cons_succ]
      refine Tr.take_at 7 142 (.bool ((k : Int) == 0)) rfl rfl (by kernel_rfl) (by kernel_rfl) (by kernel_rfl) (fun _ _ _ h => h) (Or.inl ⟨by rfl, ?_⟩) (by assumption) ?_
      ·
       intro W0 hSw
       (try dsimp only at hSw)
       go_simp
      simp only [List.set_cons_zero, List.set_cons_succ]
      refine wpAnyH_ready (rs := [1, 3]) (by kernel_rfl) (by simp) ?_
      refine AllReadyH.cons rfl (fun K hK => ?_) (AllReadyH.cons rfl (fun K hK => ?_) AllReadyH.nil)
      ·
       have c3 := (K4.out.belowS HBW.out).cellV (i := 3) (v := .map mc) rfl; go_simp
       clear c3
       refine hK.out _ _ (KW.out _ HBW.out) (fun _ => ?_); clear hK K
       refine wpAnyH_ready (rs := [3]) (by kernel_rfl) (by simp) ?_
       refine AllReadyH.cons rfl (fun K hK => ?_) AllReadyH.nil; go_simp
       refine (id34_any k _ (by omega)).mono ?_
       rintro e wc0 ⟨rfl, hbA⟩
       replace HBW := Lib.hid (bstep HBW.out hbA); clear hbA; go_simp
       refine hK.out _ _ (KW.out _ HBW.out) (fun _ => ?_); clear hK K
       refine wpAnyH_ready (rs := [8]) (by kernel_rfl) (by simp) ?_
       refine AllReadyH.cons rfl (fun K hK => ?_) AllReadyH.nil; go_simp
       refine (copen_ok (.agg #[.map mc]) k cs (idW ((k : Int) - 1)) W H 0 ((k : Int) == 0) _ (idW_bd (by omega)) (HCN.out.below HBW.out) (idC_34 (by omega)) HWB.out.1 HWB.out.2 (by omega) HNC.out (by omega)).mono ?_
       rintro e wc2 ⟨mc', Ac, cc, rfl, hcv, _, hbA⟩
       have HCV := Lib.hid hcv
       clear hcv
       replace HBW := Lib.hid (bstep HBW.out hbA); clear hbA; go_simp
       refine hK.out _ _ (KW.out _ HBW.out) (fun _ => ?_); clear hK K
       refine Tr.take_at 9 134 (.tuple #[.agg #[.map (some mc')], .int .i64 0]) rfl rfl (by kernel_rfl) (by kernel_rfl) (by kernel_rfl) (fun _ _ _ h => h) (Or.inl ⟨by rfl, ?_⟩) (by assumption) ?_
       ·
        intro W0 hSw
        (try dsimp only at hSw)
        go_simp
       simp only [List.set_cons_zero, List.set_cons_succ]
       refine Tr.take_at 10 144 (.agg #[.map (some mc')]) rfl rfl (by kernel_rfl) (by kernel_rfl) (by kernel_rfl) (fun _ _ _ h => h) (Or.inl ⟨by rfl, ?_⟩) (by assumption) ?_
       ·
        intro W0 hSw
        (try dsimp only at hSw)
        go_simp
       simp only [List.set_cons_zero, List.set_cons_succ]
       refine Tr.take_at 11 145 (.int .i64 0) rfl rfl (by kernel_rfl) (by kernel_rfl) (by kernel_rfl) (fun _ _ _ h => h) (Or.inl ⟨by rfl, ?_⟩) (by assumption) ?_
       ·
        intro W0 hSw
        (try dsimp only at hSw)
        go_simp
       simp only [List.set_cons_zero, List.set_cons_succ]
       refine Tr.take_at 12 146 (.pointer (some ⟨w.heap.size + 1, 3, none⟩)) rfl rfl (by kernel_rfl) (by kernel_rfl) (by kernel_rfl) (fun _ _ _ h => h) (Or.inl ⟨by rfl, ?_⟩) (by assumption) ?_
       ·
        intro W0 hSw
        (try dsimp only at hSw)
        go_simp
       simp only [List.set_cons_zero, List.set_cons_succ]
       refine wpAnyH_ready (rs := [13]) (by kernel_rfl) (by simp) ?_
       refine AllReadyH.cons rfl (fun K hK => ?_) AllReadyH.nil
       have hst3 : St34 w wc2 g9 g10 d.cells.toArray #[.int .i64 W, .int .i64 H, .slice Ag (W * H) cg] l (W * H) (inkL W (W * H) pI) Ap Ag AL k cL RW RH (l ++ [d]) (l ++ [d]) l mk' mu' mp' mc := HST.out.below HBW.out
       have hcv3 : CanvasIs (World.setCells wc2 (w.heap.size + 1) 3 (#[.map (some mc')] : Array Value).toList) (.agg #[.map (some mc')]) (k + 1) (cs.put (idW ((k : Int) - 1)) (⟨W, H, Ac, W * H, cc, 0, true, ((k : Int) == 0), List.replicate (W * H) 0⟩ : IT)) := HCV.out.setX (K4.out.belowS HBW.out) (noI5 _ _ _ _ _ _ _) 3 (.map (some mc'))
       have hpt := hst3.putC HN9.out HN10.out (K4.out.belowS HBW.out) (some mc')
       refine Tr.wanted_plain rfl ?_
       refine store_mid0 rfl 67 _ _ rfl (w.heap.size + 1) 3 #[.map (some mc')] (by rfl) (by rfl) (there_part (K4.out.belowS HBW.out) (by simp)) Tryz.sizeCv (by simp [Value.oneCell']) ?_
       obtain ⟨V19, hV⟩ : ∃ V, World.setCells wc2 (w.heap.size + 1) 3 (#[.map (some mc')] : Array Value).toList = V := ⟨_, rfl⟩
       rw [hV] at hpt hcv3 ⊢
       have HCV3 := Lib.hid hcv3
       clear hcv3
       have HPT := Lib.hid hpt
       clear hV hpt hst3
       replace HBW := Lib.hid (bre V19)
       replace KW := Lib.hid (fun (W' : World) (h : Below V19.heap.size V19 W') => show (fun w' => True) W' from trivial)
       refine hK.out _ _ (KW.out _ HBW.out) (fun _ => ?_); clear hK K
       refine Tr.take_at 14 13 (.int .i64 0) rfl rfl (by kernel_rfl) (by kernel_rfl) (by kernel_rfl) (fun _ _ _ h => h) (Or.inl ⟨by rfl, ?_⟩) (by assumption) ?_
       ·
        intro W0 hSw
        (try dsimp only at hSw)
        go_simp
       simp only [List.set_cons_zero, List.set_cons_succ]
       refine wpAnyH_done (by kernel_rfl) ?_ _
       refine NoPanic.normal ?_
       go_wp2_with fail
       go_meet
       exact ⟨mc', Ac, cc, rfl, HPT.out.2, HCV3.out, HPT.out.1⟩
      ·
       go_simp
       refine (id34_any k _ (by omega)).mono ?_
       rintro e wc0 ⟨rfl, hbA⟩
       replace HBW := Lib.hid (bstep HBW.out hbA); clear hbA; go_simp
       refine hK.out _ _ (KW.out _ HBW.out) (fun _ => ?_); clear hK K
       refine wpAnyH_ready (rs := [1]) (by kernel_rfl) (by simp) ?_
       refine AllReadyH.cons rfl (fun K hK => ?_) AllReadyH.nil
       have c3 := (K4.out.belowS HBW.out).cellV (i := 3) (v := .map mc) rfl; go_simp
       clear c3
       refine hK.out _ _ (KW.out _ HBW.out) (fun _ => ?_); clear hK K
       refine wpAnyH_ready (rs := [8]) (by kernel_rfl) (by simp) ?_
       refine AllReadyH.cons rfl (fun K hK => ?_) AllReadyH.nil; go_simp
       refine (copen_ok (.agg #[.map mc]) k cs (idW ((k : Int) - 1)) W H 0 ((k : Int) == 0) _ (idW_bd (by omega)) (HCN.out.below HBW.out) (idC_34 (by omega)) HWB.out.1 HWB.out.2 (by omega) HNC.out (by omega)).mono ?_
       rintro e wc2 ⟨mc', Ac, cc, rfl, hcv, _, hbA⟩
       have HCV := Lib.hid hcv
       clear hcv
       replace HBW := Lib.hid (bstep HBW.out hbA); clear hbA; go_simp
       refine hK.out _ _ (KW.out _ HBW.out) (fun _ => ?_); clear hK K
       refine Tr.take_at 9 134 (.tuple #[.agg #[.map (some mc')], .int .i64 0]) rfl rfl (by kernel_rfl) (by kernel_rfl) (by kernel_rfl) (fun _ _ _ h => h) (Or.inl ⟨by rfl, ?_⟩) (by assumption) ?_
       ·
        intro W0 hSw
        (try dsimp only at hSw)
        go_simp
       simp only [List.set_cons_zero, List.set_cons_succ]
       refine Tr.take_at 10 144 (.agg #[.map (some mc')]) rfl rfl (by kernel_rfl) (by kernel_rfl) (by kernel_rfl) (fun _ _ _ h => h) (Or.inl ⟨by rfl, ?_⟩) (by assumption) ?_
       ·
        intro W0 hSw
        (try dsimp only at hSw)
        go_simp
       simp only [List.set_cons_zero, List.set_cons_succ]
       refine Tr.take_at 11 145 (.int .i64 0) rfl rfl (by kernel_rfl) (by kernel_rfl) (by kernel_rfl) (fun _ _ _ h => h) (Or.inl ⟨by rfl, ?_⟩) (by assumption) ?_
       ·
        intro W0 hSw
        (try dsimp only at hSw)
        go_simp
       simp only [List.set_cons_zero, List.set_cons_succ]
       refine Tr.take_at 12 146 (.pointer (some ⟨w.heap.size + 1, 3, none⟩)) rfl rfl (by kernel_rfl) (by kernel_rfl) (by kernel_rfl) (fun _ _ _ h => h) (Or.inl ⟨by rfl, ?_⟩) (by assumption) ?_
       ·
        intro W0 hSw
        (try dsimp only at hSw)
        go_simp
       simp only [List.set_cons_zero, List.set_cons_succ]
       refine wpAnyH_ready (rs := [13]) (by kernel_rfl) (by simp) ?_
       refine AllReadyH.cons rfl (fun K hK => ?_) AllReadyH.nil
       have hst3 : St34 w wc2 g9 g10 d.cells.toArray #[.int .i64 W, .int .i64 H, .slice Ag (W * H) cg] l (W * H) (inkL W (W * H) pI) Ap Ag AL k cL RW RH (l ++ [d]) (l ++ [d]) l mk' mu' mp' mc := HST.out.below HBW.out
       have hcv3 : CanvasIs (World.setCells wc2 (w.heap.size + 1) 3 (#[.map (some mc')] : Array Value).toList) (.agg #[.map (some mc')]) (k + 1) (cs.put (idW ((k : Int) - 1)) (⟨W, H, Ac, W * H, cc, 0, true, ((k : Int) == 0), List.replicate (W * H) 0⟩ : IT)) := HCV.out.setX (K4.out.belowS HBW.out) (noI5 _ _ _ _ _ _ _) 3 (.map (some mc'))
       have hpt := hst3.putC HN9.out HN10.out (K4.out.belowS HBW.out) (some mc')
       refine Tr.wanted_plain rfl ?_
       refine store_mid0 rfl 67 _ _ rfl (w.heap.size + 1) 3 #[.map (some mc')] (by rfl) (by rfl) (there_part (K4.out.belowS HBW.out) (by simp)) Tryz.sizeCv (by simp [Value.oneCell']) ?_
       obtain ⟨V19, hV⟩ : ∃ V, World.setCells wc2 (w.heap.size + 1) 3 (#[.map (some mc')] : Array Value).toList = V := ⟨_, rfl⟩
       rw [hV] at hpt hcv3 ⊢
       have HCV3 := Lib.hid hcv3
       clear hcv3
       have HPT := Lib.hid hpt
       clear hV hpt hst3
       replace HBW := Lib.hid (bre V19)
       replace KW := Lib.hid (fun (W' : World) (h : Below V19.heap.size V19 W') => show (fun w' => True) W' from trivial)
       refine hK.out _ _ (KW.out _ HBW.out) (fun _ => ?_); clear hK K
       refine Tr.take_at 14 13 (.int .i64 0) rfl rfl (by kernel_rfl) (by kernel_rfl) (by kernel_rfl) (fun _ _ _ h => h) (Or.inl ⟨by rfl, ?_⟩) (by assumption) ?_
       ·
        intro W0 hSw
        (try dsimp only at hSw)
        go_simp
       simp only [List.set_cons_zero, List.set_cons_succ]
       refine wpAnyH_done (by kernel_rfl) ?_ _
       refine NoPanic.normal ?_
       go_wp2_with fail
       go_meet
       exact ⟨mc', Ac, cc, rfl, HPT.out.2, HCV3.out, HPT.out.1⟩
    obtain ⟨mc', Ac, cc, rfl, a1, a2, a3⟩ := hcut
    replace K4 := Lib.hid a1
    have HCV := Lib.hid a2
    replace HST := Lib.hid a3
    clear a1 a2 a3
    go_upto_if 148 with fail
    go_cut [13] from 26 to 176 (fun s13 wx => ∃ mc2 : Nat, s13 = .int .i64 0 ∧ Blk wx (w.heap.size + 1) 70 #[.map mk', .map mu', .map mp', .map (some mc2), .slice AL k cL] ∧ St34 w wx g9 g10 d.cells.toArray #[.int .i64 W, .int .i64 H, .slice Ag (W * H) cg] l (W * H) (inkL W (W * H) pI) Ap Ag AL k cL RW RH (l ++ [d]) (l ++ [d]) (l ++ [d]) mk' mu' mp' (some mc2))
    case first =>
     as_aux_lemma =>
      go_upto_region 24 with fail
      have HBW := Lib.hid (show Below wc.heap.size wc wc.drew from (bre wc).drew)
      have KW := Lib.hid (fun (W' : World) (h : Below wc.heap.size wc W') => show (fun w' => w'.cell? ⟨g10, 0, none⟩ = some (.int .i64 W) ∧ w'.cell? ⟨g10, 1, none⟩ = some (.int .i64 H) ∧ w'.cell? ⟨g10, 2, none⟩ = some (.slice Ag (W * H) cg)) W' from ⟨(HST.out.r.k10.belowS h).cellV (i := 0) rfl, (HST.out.r.k10.belowS h).cellV (i := 1) rfl, (HST.out.r.k10.belowS h).cellV (i := 2) rfl⟩)
      refine wp_region_noPanic ?_
      refine wp_region_held_drew (S := (fun w' => w'.cell? ⟨g10, 0, none⟩ = some (.int .i64 W) ∧ w'.cell? ⟨g10, 1, none⟩ = some (.int .i64 H) ∧ w'.cell? ⟨g10, 2, none⟩ = some (.slice Ag (W * H) cg))) (by kernel_rfl) ?_ (fun _ => ?_)
      ·
       (try dsimp only)
       exact ⟨(HST.out.r.k10.belowS HBW.out).cellV (i := 0) rfl, (HST.out.r.k10.belowS HBW.out).cellV (i := 1) rfl, (HST.out.r.k10.belowS HBW.out).cellV (i := 2) rfl⟩
      refine Tr.take_at 0 150 (.pointer (some ⟨w.heap.size + 1, 3, none⟩)) rfl rfl (by kernel_rfl) (by kernel_rfl) (by kernel_rfl) (fun _ _ _ h => h) (Or.inl ⟨by rfl, ?_⟩) (by assumption) ?_
      ·
       intro W0 hSw
       (try dsimp only at hSw)
       go_simp
      simp only [List.set_cons_zero, List.set_cons_succ]
      refine Tr.take_at 2 152 (.int .i64 k) rfl rfl (by kernel_rfl) (by kernel_rfl) (by kernel_rfl) (fun _ _ _ h => h) (Or.inl ⟨by rfl, ?_⟩) (by assumption) ?_
      ·
       intro W0 hSw
       (try dsimp only at hSw)
       go_simp
      simp only [List.set_cons_zero, List.set_cons_succ]
      refine Tr.take_at 4 154 (.agg #[.int .i64 W, .int .i64 H, .slice Ag (W * H) cg]) rfl rfl (by kernel_rfl) (by kernel_rfl) (by kernel_rfl) (fun _ _ _ h => h) (Or.inl ⟨by rfl, ?_⟩) (by assumption) ?_
      ·
       intro W0 hSw
       (try dsimp only at hSw)
       go_simp
      simp only [List.set_cons_zero, List.set_cons_succ]
      refine wpAnyH_ready (rs := [1, 3]) (by kernel_rfl) (by simp) ?_
      refine AllReadyH.cons rfl (fun K hK => ?_) (AllReadyH.cons rfl (fun K hK => ?_) AllReadyH.nil)
      ·
       have c3 := (K4.out.belowS HBW.out).cellV (i := 3) (v := .map (some mc')) rfl; go_simp
       clear c3
       refine hK.out _ _ (KW.out _ HBW.out) (fun _ => ?_); clear hK K
       refine wpAnyH_ready (rs := [3]) (by kernel_rfl) (by simp) ?_
       refine AllReadyH.cons rfl (fun K hK => ?_) AllReadyH.nil; go_simp
       refine (id34_any k _ (by omega)).mono ?_
       rintro e wc0 ⟨rfl, hbA⟩
       replace HBW := Lib.hid (bstep HBW.out hbA); clear hbA; go_simp
       refine hK.out _ _ (KW.out _ HBW.out) (fun _ => ?_); clear hK K
       refine wpAnyH_ready (rs := [5]) (by kernel_rfl) (by simp) ?_
       refine AllReadyH.cons rfl (fun K hK => ?_) AllReadyH.nil; go_simp
       refine (clay_ok (.agg #[.map (some mc')]) (k + 1) (cs.put (idW ((k : Int) - 1)) (⟨W, H, Ac, W * H, cc, 0, true, ((k : Int) == 0), List.replicate (W * H) 0⟩ : IT)) (idW ((k : Int) - 1)) (⟨W, H, Ac, W * H, cc, 0, true, ((k : Int) == 0), List.replicate (W * H) 0⟩ : IT) Ag cg (inkL W (W * H) pI) _ (idW_bd (by omega)) (HCV.out.below HBW.out) (by unfold Its.put; rw [if_pos rfl]) (HST.out.r.rg.below HBW.out) HCG.out (inkL_pix _ _ _) (by omega)).mono ?_
       rintro e wc2 ⟨mc2, rfl, hcv, _, hbA⟩
       have HMN := Lib.hid (show MCf wc2 (.slice AL k cL) (l ++ [d]) (some mc2) from mcf_step (d := d) (it := (⟨W, H, Ag, W * H, cg, 0, true, ((k : Int) == 0), inkL W (W * H) pI⟩ : IT)) (by rw [HLK.out]; exact hcv) (fun j => by rw [HLK.out]; by_cases h : j = idW ((k : Int) - 1) <;> simp [Its.put, h]) HC2.out HC3.out HC4.out ⟨HDF.out.1.symm, HDF.out.2.1.symm, HDF.out.2.2.2.2.2.symm⟩ HST.out.r.fg)
       clear hcv
       replace HBW := Lib.hid (bstep HBW.out hbA); clear hbA; go_simp
       refine hK.out _ _ (KW.out _ HBW.out) (fun _ => ?_); clear hK K
       refine Tr.take_at 6 149 (.tuple #[.agg #[.map (some mc2)], .int .i64 0]) rfl rfl (by kernel_rfl) (by kernel_rfl) (by kernel_rfl) (fun _ _ _ h => h) (Or.inl ⟨by rfl, ?_⟩) (by assumption) ?_
       ·
        intro W0 hSw
        (try dsimp only at hSw)
        go_simp
       simp only [List.set_cons_zero, List.set_cons_succ]
       refine Tr.take_at 7 156 (.agg #[.map (some mc2)]) rfl rfl (by kernel_rfl) (by kernel_rfl) (by kernel_rfl) (fun _ _ _ h => h) (Or.inl ⟨by rfl, ?_⟩) (by assumption) ?_
       ·
        intro W0 hSw
        (try dsimp only at hSw)
        go_simp
       simp only [List.set_cons_zero, List.set_cons_succ]
       refine Tr.take_at 8 157 (.int .i64 0) rfl rfl (by kernel_rfl) (by kernel_rfl) (by kernel_rfl) (fun _ _ _ h => h) (Or.inl ⟨by rfl, ?_⟩) (by assumption) ?_
       ·
        intro W0 hSw
        (try dsimp only at hSw)
        go_simp
       simp only [List.set_cons_zero, List.set_cons_succ]
       refine Tr.take_at 9 158 (.pointer (some ⟨w.heap.size + 1, 3, none⟩)) rfl rfl (by kernel_rfl) (by kernel_rfl) (by kernel_rfl) (fun _ _ _ h => h) (Or.inl ⟨by rfl, ?_⟩) (by assumption) ?_
       ·
        intro W0 hSw
        (try dsimp only at hSw)
        go_simp
       simp only [List.set_cons_zero, List.set_cons_succ]
       refine wpAnyH_ready (rs := [10]) (by kernel_rfl) (by simp) ?_
       refine AllReadyH.cons rfl (fun K hK => ?_) AllReadyH.nil
       have hst3 : St34 w wc2 g9 g10 d.cells.toArray #[.int .i64 W, .int .i64 H, .slice Ag (W * H) cg] l (W * H) (inkL W (W * H) pI) Ap Ag AL k cL RW RH (l ++ [d]) (l ++ [d]) (l ++ [d]) mk' mu' mp' (some mc2) := (HST.out.below HBW.out).mono HMN.out
       have hpt := hst3.putC HN9.out HN10.out (K4.out.belowS HBW.out) (some mc2)
       refine Tr.wanted_plain rfl ?_
       refine store_mid0 rfl 67 _ _ rfl (w.heap.size + 1) 3 #[.map (some mc2)] (by rfl) (by rfl) (there_part (K4.out.belowS HBW.out) (by simp)) Tryz.sizeCv (by simp [Value.oneCell']) ?_
       obtain ⟨V19, hV⟩ : ∃ V, World.setCells wc2 (w.heap.size + 1) 3 (#[.map (some mc2)] : Array Value).toList = V := ⟨_, rfl⟩
       rw [hV] at hpt ⊢
       have HPT := Lib.hid hpt
       clear hV hpt hst3
       replace HBW := Lib.hid (bre V19)
       replace KW := Lib.hid (fun (W' : World) (h : Below V19.heap.size V19 W') => show (fun w' => w'.cell? ⟨g10, 0, none⟩ = some (.int .i64 W) ∧ w'.cell? ⟨g10, 1, none⟩ = some (.int .i64 H) ∧ w'.cell? ⟨g10, 2, none⟩ = some (.slice Ag (W * H) cg)) W' from (by have k9 := HPT.out.1.r.k10.belowS h; exact ⟨k9.cellV (i := 0) rfl, k9.cellV (i := 1) rfl, k9.cellV (i := 2) rfl⟩))
       refine hK.out _ _ (KW.out _ HBW.out) (fun _ => ?_); clear hK K
       refine Tr.take_at 11 13 (.int .i64 0) rfl rfl (by kernel_rfl) (by kernel_rfl) (by kernel_rfl) (fun _ _ _ h => h) (Or.inl ⟨by rfl, ?_⟩) (by assumption) ?_
       ·
        intro W0 hSw
        (try dsimp only at hSw)
        go_simp
       simp only [List.set_cons_zero, List.set_cons_succ]
       refine wpAnyH_done (by kernel_rfl) ?_ _
       refine NoPanic.normal ?_
       go_wp2_with fail
       go_meet
       exact ⟨mc2, rfl, HPT.out.2, HPT.out.1⟩
      ·
       go_simp
       refine (id34_any k _ (by omega)).mono ?_
       rintro e wc0 ⟨rfl, hbA⟩
       replace HBW := Lib.hid (bstep HBW.out hbA); clear hbA; go_simp
       refine hK.out _ _ (KW.out _ HBW.out) (fun _ => ?_); clear hK K
       refine wpAnyH_ready (rs := [1]) (by kernel_rfl) (by simp) ?_
       refine AllReadyH.cons rfl (fun K hK => ?_) AllReadyH.nil
       have c3 := (K4.out.belowS HBW.out).cellV (i := 3) (v := .map (some mc')) rfl; go_simp
       clear c3
       refine hK.out _ _ (KW.out _ HBW.out) (fun _ => ?_); clear hK K
       refine wpAnyH_ready (rs := [5]) (by kernel_rfl) (by simp) ?_
       refine AllReadyH.cons rfl (fun K hK => ?_) AllReadyH.nil; go_simp
       refine (clay_ok (.agg #[.map (some mc')]) (k + 1) (cs.put (idW ((k : Int) - 1)) (⟨W, H, Ac, W * H, cc, 0, true, ((k : Int) == 0), List.replicate (W * H) 0⟩ : IT)) (idW ((k : Int) - 1)) (⟨W, H, Ac, W * H, cc, 0, true, ((k : Int) == 0), List.replicate (W * H) 0⟩ : IT) Ag cg (inkL W (W * H) pI) _ (idW_bd (by omega)) (HCV.out.below HBW.out) (by unfold Its.put; rw [if_pos rfl]) (HST.out.r.rg.below HBW.out) HCG.out (inkL_pix _ _ _) (by omega)).mono ?_
       rintro e wc2 ⟨mc2, rfl, hcv, _, hbA⟩
       have HMN := Lib.hid (show MCf wc2 (.slice AL k cL) (l ++ [d]) (some mc2) from mcf_step (d := d) (it := (⟨W, H, Ag, W * H, cg, 0, true, ((k : Int) == 0), inkL W (W * H) pI⟩ : IT)) (by rw [HLK.out]; exact hcv) (fun j => by rw [HLK.out]; by_cases h : j = idW ((k : Int) - 1) <;> simp [Its.put, h]) HC2.out HC3.out HC4.out ⟨HDF.out.1.symm, HDF.out.2.1.symm, HDF.out.2.2.2.2.2.symm⟩ HST.out.r.fg)
       clear hcv
       replace HBW := Lib.hid (bstep HBW.out hbA); clear hbA; go_simp
       refine hK.out _ _ (KW.out _ HBW.out) (fun _ => ?_); clear hK K
       refine Tr.take_at 6 149 (.tuple #[.agg #[.map (some mc2)], .int .i64 0]) rfl rfl (by kernel_rfl) (by kernel_rfl) (by kernel_rfl) (fun _ _ _ h => h) (Or.inl ⟨by rfl, ?_⟩) (by assumption) ?_
       ·
        intro W0 hSw
        (try dsimp only at hSw)
        go_simp
       simp only [List.set_cons_zero, List.set_cons_succ]
       refine Tr.take_at 7 156 (.agg #[.map (some mc2)]) rfl rfl (by kernel_rfl) (by kernel_rfl) (by kernel_rfl) (fun _ _ _ h => h) (Or.inl ⟨by rfl, ?_⟩) (by assumption) ?_
       ·
        intro W0 hSw
        (try dsimp only at hSw)
        go_simp
       simp only [List.set_cons_zero, List.set_cons_succ]
       refine Tr.take_at 8 157 (.int .i64 0) rfl rfl (by kernel_rfl) (by kernel_rfl) (by kernel_rfl) (fun _ _ _ h => h) (Or.inl ⟨by rfl, ?_⟩) (by assumption) ?_
       ·
        intro W0 hSw
        (try dsimp only at hSw)
        go_simp
       simp only [List.set_cons_zero, List.set_cons_succ]
       refine Tr.take_at 9 158 (.pointer (some ⟨w.heap.size + 1, 3, none⟩)) rfl rfl (by kernel_rfl) (by kernel_rfl) (by kernel_rfl) (fun _ _ _ h => h) (Or.inl ⟨by rfl, ?_⟩) (by assumption) ?_
       ·
        intro W0 hSw
        (try dsimp only at hSw)
        go_simp
       simp only [List.set_cons_zero, List.set_cons_succ]
       refine wpAnyH_ready (rs := [10]) (by kernel_rfl) (by simp) ?_
       refine AllReadyH.cons rfl (fun K hK => ?_) AllReadyH.nil
       have hst3 : St34 w wc2 g9 g10 d.cells.toArray #[.int .i64 W, .int .i64 H, .slice Ag (W * H) cg] l (W * H) (inkL W (W * H) pI) Ap Ag AL k cL RW RH (l ++ [d]) (l ++ [d]) (l ++ [d]) mk' mu' mp' (some mc2) := (HST.out.below HBW.out).mono HMN.out
       have hpt := hst3.putC HN9.out HN10.out (K4.out.belowS HBW.out) (some mc2)
       refine Tr.wanted_plain rfl ?_
       refine store_mid0 rfl 67 _ _ rfl (w.heap.size + 1) 3 #[.map (some mc2)] (by rfl) (by rfl) (there_part (K4.out.belowS HBW.out) (by simp)) Tryz.sizeCv (by simp [Value.oneCell']) ?_
       obtain ⟨V19, hV⟩ : ∃ V, World.setCells wc2 (w.heap.size + 1) 3 (#[.map (some mc2)] : Array Value).toList = V := ⟨_, rfl⟩
       rw [hV] at hpt ⊢
       have HPT := Lib.hid hpt
       clear hV hpt hst3
       replace HBW := Lib.hid (bre V19)
       replace KW := Lib.hid (fun (W' : World) (h : Below V19.heap.size V19 W') => show (fun w' => w'.cell? ⟨g10, 0, none⟩ = some (.int .i64 W) ∧ w'.cell? ⟨g10, 1, none⟩ = some (.int .i64 H) ∧ w'.cell? ⟨g10, 2, none⟩ = some (.slice Ag (W * H) cg)) W' from (by have k9 := HPT.out.1.r.k10.belowS h; exact ⟨k9.cellV (i := 0) rfl, k9.cellV (i := 1) rfl, k9.cellV (i := 2) rfl⟩))
       refine hK.out _ _ (KW.out _ HBW.out) (fun _ => ?_); clear hK K
       refine Tr.take_at 11 13 (.int .i64 0) rfl rfl (by kernel_rfl) (by kernel_rfl) (by kernel_rfl) (fun _ _ _ h => h) (Or.inl ⟨by rfl, ?_⟩) (by assumption) ?_
       ·
        intro W0 hSw
        (try dsimp only at hSw)
        go_simp
       simp only [List.set_cons_zero, List.set_cons_succ]
       refine wpAnyH_done (by kernel_rfl) ?_ _
       refine NoPanic.normal ?_
       go_wp2_with fail
       go_meet
       exact ⟨mc2, rfl, HPT.out.2, HPT.out.1⟩
    obtain ⟨mc2, rfl, a1, a2⟩ := hcut
    replace K4 := Lib.hid a1
    replace HST := Lib.hid a2
    clear a1 a2 HCV HC2 HC3 HC4 HCN HNC
    obtain ⟨i0, hi0, hz0, hz1, hz2⟩ := info_parts Tryz.infoR34
    have y0 := HST.out.r.k9.cellV (i := 0) (v := .int .i64 d.U) rfl
    have y1 := HST.out.r.k9.cellV (i := 1) (v := .int .i64 d.X) rfl
    have y2 := HST.out.r.k9.cellV (i := 2) (v := .int .i64 d.Y) rfl
    have y3 := HST.out.r.k9.cellV (i := 3) (v := .int .i64 d.W) rfl
    have y4 := HST.out.r.k9.cellV (i := 4) (v := .int .i64 d.H) rfl
    have y5 := HST.out.r.k9.cellV (i := 5) (v := .bool d.M) rfl
    have y6 := HST.out.r.k9.cellV (i := 6) (v := .bool d.S) rfl
    have y7 := HST.out.r.k9.cellV (i := 7) (v := .slice d.A d.n d.c) rfl
    have y8 := HST.out.r.k9.cellV (i := 8) (v := .slice d.Ap d.np d.cp) rfl
    have c4 := K4.out.cellV (i := 4) (v := .slice AL k cL) rfl
    have HK4L := Lib.hid K4.out.lt
    go_upto_region 27 with fail
    go_wp2_with (first | (refine wpList_recs rfl 68 88 1 _ rfl 9 _ i0 Tryz.underlying68 hi0 hz0 hz1 rfl (by decide) (by decide) (by decide) [.agg #[.int .i64 d.U, .int .i64 d.X, .int .i64 d.Y, .int .i64 d.W, .int .i64 d.H, .bool d.M, .bool d.S, .slice d.A d.n d.c, .slice d.Ap d.np d.cp]] (by simp [Value.cells]) rfl (by as_aux_lemma => kernel_rfl) #[.int .i64 d.U, .int .i64 d.X, .int .i64 d.Y, .int .i64 d.W, .int .i64 d.H, .bool d.M, .bool d.S, .slice d.A d.n d.c, .slice d.Ap d.np d.cp] rfl ?_) | (at_builtin; refine wpList_append_own_at _ rfl _ _ 68 rfl (w.heap.size + 1 + 1) 88 i0 _ 9 96 Tryz.underlying68 hi0 hz0 hz1 hz2 rfl (by decide) (.slice AL k cL) k (l.flatMap R34.cells) rfl (HST.out.r.own.alloc _) ⟨wc.heap.size, 0, none⟩ 1 1 [.int .i64 d.U, .int .i64 d.X, .int .i64 d.Y, .int .i64 d.W, .int .i64 d.H, .bool d.M, .bool d.S, .slice d.A d.n d.c, .slice d.Ap d.np d.cp] rfl rfl (news_new _ [.int .i64 d.U, .int .i64 d.X, .int .i64 d.Y, .int .i64 d.W, .int .i64 d.H, .bool d.M, .bool d.S, .slice d.A d.n d.c, .slice d.Ap d.np d.cp] _) (by simp [Value.oneCell']) (by simp only [maxLen]; omega) (by omega) (by have := HK4L.out; simp; omega) ?_; intro v' w4 hown' hgrow _ hat; obtain ⟨AL', cL', rfl, _⟩ := own_form hown'; have HOW9 := Lib.hid hown'; have HGR9 := Lib.hid hgrow; have HAT9 := Lib.hid hat; have K49 := Lib.hid ((K4.out.alloc (.cells #[.int .i64 d.U, .int .i64 d.X, .int .i64 d.Y, .int .i64 d.W, .int .i64 d.H, .bool d.M, .bool d.S, .slice d.A d.n d.c, .slice d.Ap d.np d.cp] 88)).grown hgrow (fun e => own_other (HST.out.r.own.alloc (.cells #[.int .i64 d.U, .int .i64 d.X, .int .i64 d.Y, .int .i64 d.W, .int .i64 d.H, .bool d.M, .bool d.S, .slice d.A d.n d.c, .slice d.Ap d.np d.cp] 88)) (K4.out.alloc _) (by decide) e.symm)); clear hown' hgrow hat y0 y1 y2 y3 y4 y5 y6 y7 y8 c4; have c4 := K49.out.cellV (i := 4) (v := .slice AL k cL) rfl; have f4 := K49.out.frozen 4; have l4 := K49.out.lt))
    go_wp2_with fail
    have hap := (HST.out.below (bal (bre wc) (.cells #[.int .i64 d.U, .int .i64 d.X, .int .i64 d.Y, .int .i64 d.W, .int .i64 d.H, .bool d.M, .bool d.S, .slice d.A d.n d.c, .slice d.Ap d.np d.cp] 88))).app (d := d) ⟨HDF.out.2.2.1, HDF.out.2.2.2.1, HDF.out.2.2.2.2.2⟩ (v' := .slice AL' (k + 1) cL') HGR9.out HAT9.out
    obtain ⟨⟨b1, b2, b3, b4⟩, b5, b6⟩ := hap
    have z4 := K49.out.set_ 4 (.slice AL' (k + 1) cL')
    have z1 := b1.set K49.out (noI5 _ _ _ _ _ _ _) 4 (.slice AL' (k + 1) cL')
    have z2 := b2.set K49.out (noI5 _ _ _ _ _ _ _) 4 (.slice AL' (k + 1) cL')
    have z3 := b3.set K49.out (noI5 _ _ _ _ _ _ _) 4 (.slice AL' (k + 1) cL')
    have zx := b4.set K49.out (noI5 _ _ _ _ _ _ _) 4 (.slice AL' (k + 1) cL')
    have z5 := b5.far (p := ⟨w.heap.size + 1, 4, none⟩) (by show _ ≠ _; simp) (.slice AL' (k + 1) cL')
    have z6 := bset (p := ⟨w.heap.size + 1, 4, none⟩) b6 (by show w.heap.size ≤ w.heap.size + 1; omega) (.slice AL' (k + 1) cL')
    have z7 := HOW9.out.kept (grown_setCell w4 ⟨w.heap.size + 1, 4, none⟩ (.slice AL' (k + 1) cL')) (.inr (own_other HOW9.out K49.out (by decide)))
    have zl : (l ++ [d]).flatMap R34.cells = l.flatMap R34.cells ++ [.int .i64 d.U, .int .i64 d.X, .int .i64 d.Y, .int .i64 d.W, .int .i64 d.H, .bool d.M, .bool d.S, .slice d.A d.n d.c, .slice d.Ap d.np d.cp] := by rw [List.flatMap_append]; simp [R34.cells]
    rw [← zl] at z7
    clear b1 b2 b3 b4 b5 b6 zl c4 f4 l4
    go_roundw
    case rel =>
     refine ⟨k + 1, l ++ [d], mk', mu', mp', some mc2, AL', cL', by go_num, ⟨by omega, by rw [List.length_append, HLK.out]; rfl⟩, z4, z5, ⟨z1, z2, z3, zx⟩, z7, fun j p d' hp hd' => ?_, fun d' hd' => ?_, z6⟩
     ·
      rcases get_snoc hd' with ⟨_, h⟩ | ⟨rfl, rfl⟩
      ·
       exact HLI.out j p d' hp h
      ·
       rw [HLK.out] at hp ⊢
       have h9 := HPK.out
       rw [hp] at h9
       cases h9
       exact HLK2.out
     ·
      rcases List.mem_append.1 hd' with h | h
      ·
       exact HSH.out d' h
      ·
       rw [List.mem_singleton] at h
       subst h
       exact HRS.out
    case measure => simp [intOf]; omega
  ·
   obtain rfl : k = n := by omega
   have k1 : ¬ (k : Int) < (k : Int) := by omega
   have c0 := K4.out.cellV (i := 0) (v := .map mk) rfl
   have c1 := K4.out.cellV (i := 1) (v := .map mu) rfl
   have c2 := K4.out.cellV (i := 2) (v := .map mp) rfl
   have c3 := K4.out.cellV (i := 3) (v := .map mc) rfl
   have c4 := K4.out.cellV (i := 4) (v := .slice AL k cL) rfl
   have d0 := K2.out.cellV (i := 0) (v := .map none) rfl
   have d1 := K2.out.cellV (i := 1) (v := .map none) rfl
   have d2 := K2.out.cellV (i := 2) (v := .map none) rfl
   have d3 := K2.out.cellV (i := 3) (v := .map none) rfl
   have d4 := K2.out.cellV (i := 4) (v := .slice none 0 0) rfl
   have f0 := K2.out.frozen 0
   have f1 := K2.out.frozen 1
   have f2 := K2.out.frozen 2
   have f3 := K2.out.frozen 3
   have f4 := K2.out.frozen 4
   have l2 := K2.out.lt
   go_upto_region 29 with fail
   repeat (first | go_values | go_skip | go_guarded | go_step | go_upon)
   have h9 := (blk_puts5 (.map mk) (.map mu) (.map mp) (.map mc) (.slice AL k cL) K2.out)
   have r0 := h9.cellV (i := 0) (v := .map mk) rfl
   have r1 := h9.cellV (i := 1) (v := .map mu) rfl
   have r2 := h9.cellV (i := 2) (v := .map mp) rfl
   have r3 := h9.cellV (i := 3) (v := .map mc) rfl
   have r4 := h9.cellV (i := 4) (v := .slice AL k cL) rfl
   have hbx := below_sets5 HBR.out (Nat.le_refl _) (.map mk) (.map mu) (.map mp) (.map mc) (.slice AL k cL)
   refine bodyPost_ret (v := .tuple #[.agg #[.map mk, .map mu, .map mp, .map mc, .slice AL k cL], .bool true]) (by simp [results, Tryz.results33, go_sem, r0, r1, r2, r3, r4]) rfl ⟨true, _, _, _, _, _, _, _, rfl, fun _ => ⟨l, mk, mu, mp, mc, AL, cL, RW, RH, ?_⟩, hbx⟩
   exact made_end HLK.out hn1 hn7 HLN.out K2.out (noI5 _ _ _ _ _ _ _) (noI5 _ _ _ _ _ _ _) HMT.out HMP.out.forget HMC.out.forget HMX.out.forget HOW.out HLI.out HSH.out hbx HP0.out
end Go.Proofs.YtdaedkolpfkdjaaGreat
end
