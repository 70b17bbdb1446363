/-
  The walk of the law FocusShows.
-/
import Derived.Test.YtbkkecijcijhdaaGreatZFTFLosesH
import Derived.Test.YtbkkecijcijhdaaGreatZF35
section
namespace Go.Proofs.YtbkkecijcijhdaaGreat
open Go.RowKit Go.Maps Go.Shelf

def B8 (l : List Int) : List Value := l.map (Value.int .u8)
theorem B8_at {l : List Int} {k : Nat} {v : Int} (h : l[k]? = some v) : (B8 l)[k]? = some (.int .u8 v) := by simp [B8, h]
theorem J64_at {l : List Int} {k : Nat} {v : Int} (h : l[k]? = some v) : (I64 l)[k]? = some (.int .i64 v) := by simp [I64, h]
theorem run_neq_fc (w : World) (a b c a' b' c' : Int) : (binOp .neq 122 (.agg #[.int .u32 a, .int .i64 b, .int .u32 c]) (.agg #[.int .u32 a', .int .i64 b', .int .u32 c'])).run Tryz.prog w = .ok (.bool (!(a == a' && (b == b' && c == c')))) w := by
  cases h1 : (a == a') <;> cases h2 : (b == b') <;> cases h3 : (c == c') <;> simp [go_sem, h1, h2, h3]
attribute [local go_sem ↓] run_neq_fc
/-- a list of windows that came in. -/
structure WL where
  A : Option Addr
  n : Nat
  c : Nat
  fs : List FW
def WL.cells (q : WL) : List Value := [.slice q.A q.n q.c]
/-- it reads so. -/
structure WL.at_ (w : World) (q : WL) : Prop where
  le : q.n ≤ maxLen
  rd : RdF FW.cells 3 w q.A q.n q.fs
  ok : ∀ f ∈ q.fs, f.ok
theorem WL.at_.below {w w' : World} {q : WL} (h : WL.at_ w q) (hb : Below w.heap.size w w') : WL.at_ w' q := ⟨h.le, h.rd.below hb, h.ok⟩
theorem set_code {S : Int → Bool} (f : FC) (id rv tm now : Int) {g : FC} {b : Bool} {c : Int} (h : setF f S id rv tm now = (g, b, c)) (hc : c ≠ 0) : b = false ∧ g = f := by
  unfold setF at h
  split at h
  · injection h with h1 h2; injection h2 with h2 _; exact ⟨h2.symm, h1.symm⟩
  · split at h
    · injection h with h1 h2; injection h2 with h2 _; exact ⟨h2.symm, h1.symm⟩
    · exfalso
      split at h
      · injection h with _ h2; injection h2 with _ h3; exact hc h3.symm
      · split at h
        · injection h with _ h2; injection h2 with _ h3; exact hc h3.symm
        · injection h with _ h2; injection h2 with _ h3; exact hc h3.symm
theorem set_time {S : Int → Bool} (f : FC) (id rv tm now : Int) {g : FC} {b : Bool} {c : Int} (h : setF f S id rv tm now = (g, b, c)) (hf : f.T ≤ now) : f.T ≤ g.T ∧ g.T ≤ now := by
  unfold setF at h
  split at h
  · injection h with h1 _; subst h1; exact ⟨Int.le_refl _, hf⟩
  · split at h
    · injection h with h1 _; subst h1; exact ⟨Int.le_refl _, hf⟩
    · split at h
      · injection h with h1 _; subst h1; exact ⟨hf, Int.le_refl _⟩
      · split at h
        · injection h with h1 _; subst h1; exact ⟨Int.le_refl _, hf⟩
        · injection h with h1 _; subst h1; dsimp only; omega
theorem set_shows {S : Int → Bool} (f : FC) (id rv tm now : Int) {g : FC} {b : Bool} {c : Int} (h : setF f S id rv tm now = (g, b, c)) (hf : f.W = 0 ∨ S f.W = true) : g.W = 0 ∨ S g.W = true := by
  unfold setF at h
  split at h
  · injection h with h1 _; subst h1; exact hf
  · split at h
    · injection h with h1 _; subst h1; exact hf
    · rename_i h0
      have hid : id = 0 ∨ S id = true := by
        by_cases e : id = 0
        · exact .inl e
        · right
          cases hs : S id with
          | true => rfl
          | false => exact absurd ⟨e, hs⟩ h0
      split at h
      · injection h with h1 _; subst h1; exact hid
      · split at h
        · injection h with h1 _; subst h1; exact hf
        · injection h with h1 _; subst h1; exact hid
theorem set_ok {S : Int → Bool} (f : FC) (id rv tm now : Int) {g : FC} {b : Bool} {c : Int} (h : setF f S id rv tm now = (g, b, c)) (hf : f.ok) (hi : 0 ≤ id ∧ id ≤ 4294967295) (ht : 0 ≤ tm ∧ tm ≤ 4294967295) (hn : 0 ≤ now ∧ now ≤ 4294967295) : g.ok := by
  unfold setF at h
  unfold FC.ok at hf ⊢
  split at h
  · injection h with h1 _; subst h1; exact hf
  · split at h
    · injection h with h1 _; subst h1; exact hf
    · split at h
      · injection h with h1 _; subst h1; exact ⟨hi, hn⟩
      · split at h
        · injection h with h1 _; subst h1; exact hf
        · injection h with h1 _; subst h1; exact ⟨hi, ht⟩
theorem lost_shows {S : Int → Bool} (h1 : S 1 = true) (f : FC) (path : List Int) {g : FC} {b : Bool} (h : lostF f S path = (g, b)) : (g.W = 0 ∨ S g.W = true) ∧ g.T = f.T := by
  have h2 := lost_twice h1 f path [] h
  constructor
  · by_cases c0 : g.W = 0 ∨ S g.W = true
    · exact c0
    · exfalso
      unfold lostF at h2
      rw [if_neg c0] at h2
      split at h2
      · injection h2 with _ h3; cases h3
      · split at h2
        · injection h2 with _ h3; cases h3
        · injection h2 with _ h3; cases h3
  · unfold lostF at h
    split at h
    · injection h with h3 _; rw [← h3]
    · split at h
      · injection h with h3 _; rw [← h3]
      · split at h
        · injection h with h3 _; rw [← h3]
        · injection h with h3 _; rw [← h3]
set_option maxRecDepth 100000 in
set_option maxHeartbeats 8000000 in
theorem focusShows_any (A I R T : Option Addr) (n c ni ci nr cr nt ct : Nat) (L : List WL) (IL RL TL : List Int) (w : World) (hn : n ≤ maxLen) (hr : RdF WL.cells 1 w A n L) (hL : ∀ q ∈ L, q.at_ w)
    (hI : Rd w I ni (B8 IL)) (hni : ni ≤ maxLen) (hIo : ∀ x ∈ IL, 0 ≤ x ∧ x ≤ 255) (hR : Rd w R nr (I64 RL)) (hnr : nr ≤ maxLen) (hT : Rd w T nt (U32 TL)) (hnt : nt ≤ maxLen) (hTo : ∀ x ∈ TL, 0 ≤ x ∧ x ≤ 4294967295) :
    Calls Tryz.prog 18 #[.slice A n c, .slice I ni ci, .slice R nr cr, .slice T nt ct] w fun e w' => e = .returned (.bool true) ∧ Below w.heap.size w w' := by
  have HN := Lib.hid hn
  have HR := Lib.hid hr
  have HL := Lib.hid hL
  have HI := Lib.hid hI
  have HIO := Lib.hid hIo
  have HRR := Lib.hid hR
  have HTT := Lib.hid hT
  have HTO := Lib.hid hTo
  have HLN := Lib.hid hr.1
  have hni2 : ni ≤ 9223372036854775807 := hni
  have hnr2 : nr ≤ 9223372036854775807 := hnr
  have hnt2 : nt ≤ 9223372036854775807 := hnt
  have HIL := Lib.hid (show IL.length = ni by have := hI.1; simpa [B8] using this)
  have HRL := Lib.hid (show RL.length = nr by have := hR.1; simpa [I64] using this)
  have HTL := Lib.hid (show TL.length = nt by have := hT.1; rwa [U32_len] at this)
  clear hr hL hI hIo hR hT hTo hni hnr hnt
  simp only [maxLen] at hn
  by_cases h10 : 10 < n
  · have k1 : (10 : Int) < (n : Int) := by omega
    go_enter Tryz.func18, Tryz.ntmps18
    go_wp2_with fail
    refine (awake37_any _).mono ?_
    rintro e w2 ⟨rfl, hb2⟩
    have HB2 := Lib.hid hb2
    clear hb2
    go_wp2_with fail
    go_ret
    exact ⟨rfl, HB2.out⟩
  have k1 : ¬ (10 : Int) < (n : Int) := by omega
  go_enter Tryz.func18, Tryz.ntmps18
  go_upto_region 4 with fail
  have xB := bal (bre w) (.cells #[.int .u32 0, .int .i64 0, .int .u32 0] 122)
  have xK := Blk.new w 122 #[.int .u32 0, .int .i64 0, .int .u32 0]
  obtain ⟨X0, hX0⟩ : ∃ X0, w.alloc (.cells #[.int .u32 0, .int .i64 0, .int .u32 0] 122) = X0 := ⟨_, rfl⟩
  rw [hX0] at xB xK ⊢
  have HB := Lib.hid xB
  have K9 := Lib.hid xK
  clear xB xK hX0
  go_wp2_with fail
  go_loopw [25] (fun i wr => ∃ (k : Nat) (f : FC), i = .int .i64 k ∧ k ≤ n ∧ f.ok ∧ f.T ≤ 2147483648 ∧ Blk wr w.heap.size 122 #[.int .u32 f.W, .int .i64 f.R, .int .u32 f.T] ∧ Below w.heap.size w wr) (fun i _ => n - (intOf i).toNat)
  case atStart => exact ⟨0, ⟨0, 0, 0⟩, rfl, by omega, ⟨by decide, by decide⟩, by decide, K9.out, HB.out⟩
  case round =>
    obtain ⟨k, f, rfl, hk, hfo, hfT, hk9, hbw⟩ := hrel
    replace K9 := Lib.hid hk9
    replace HB := Lib.hid hbw
    have HF := Lib.hid hfo
    have HFT := Lib.hid hfT
    clear hk9 hbw hfo hfT
    by_cases hlt : k < n
    · have k2 : (k : Int) < (n : Int) := by omega
      have k0 : (0 : Int) ≤ (k : Int) := by omega
      obtain ⟨q, hq⟩ : ∃ q, L[k]? = some q := ⟨_, List.getElem?_eq_getElem (by rw [HLN.out]; exact hlt)⟩
      obtain ⟨b, off, rfl, hb, hc⟩ := HR.out.2 (by omega)
      have hcell := (HB.out.cell (p := ⟨b, off + k, none⟩) hb).trans (by have := hc k q hq 0 _ rfl; simpa using this)
      have HQ := Lib.hid ((HL.out q (List.mem_of_getElem? hq)).below HB.out)
      clear hc hb hq
      obtain ⟨qA, qn, qc, fs⟩ := q
      dsimp only at hcell
      go_wp2_with fail
      by_cases h11 : qn ≤ 10
      case neg =>
        refine (made37_many qA qn qc _ (by omega) HQ.out.le).mono ?_
        rintro e w1 ⟨rfl, hb1⟩
        have HB1 := Lib.hid (bstep HB.out hb1)
        clear hb1 hcell
        go_wp2_with fail
        refine (awake37_any _).mono ?_
        rintro e w2 ⟨rfl, hb2⟩
        have HB2 := Lib.hid (bstep (bal (bal HB1.out (.cells #[.map none, .map none] 34)) (.cells #[.slice none 0 0, .map none] 43)) hb2)
        clear hb2
        go_wp2_with fail
        go_ret
        exact ⟨rfl, HB2.out⟩
      refine (made37_any qA qn qc fs _ h11 HQ.out.rd HQ.out.ok).mono ?_
      rintro e w1 ⟨mk, mu, nk, fk, v, og, v9, rfl, ht, hv, ho9, hb⟩
      obtain ⟨Av, nv, cv, mv, rfl⟩ := hv.form
      obtain ⟨A9, c9, rfl, _⟩ := own_form ho9
      obtain ⟨n9, h9⟩ : ∃ q, (shL (dwsF fs) qn).length = q := ⟨_, rfl⟩
      rw [h9]
      have HUP := Lib.hid (dwsF_up HQ.out.ok)
      have hba := bal (bal (bre w1) (.cells #[.map mk, .map mu] 34)) (.cells #[.slice Av nv cv, .map mv] 43)
      have xT := ht.below hba
      have xV := hv.below hba
      have xK12 := (Blk.new w1 34 #[.map mk, .map mu]).alloc (.cells #[.slice Av nv cv, .map mv] 43)
      have xK13 := blk_new2 w1 (.cells #[.map mk, .map mu] 34) 43 #[.slice Av nv cv, .map mv]
      have xB := bstep (bstep HB.out hb) hba
      have xK9 := (K9.out.belowS hb).belowS hba
      obtain ⟨l, hl⟩ : ∃ l, dwsF fs = l := ⟨_, rfl⟩
      rw [hl] at xT xV HUP
      have HTK := Lib.hid (nodesW_ok HUP.out)
      have xsz := Nat.lt_of_lt_of_le K9.out.lt hb.size
      clear ht hv ho9 hb hba hcell h9 hl
      go_upto_region 8 with fail
      obtain ⟨X1, hX1⟩ : ∃ X1, (w1.alloc (.cells #[.map mk, .map mu] 34)).alloc (.cells #[.slice Av nv cv, .map mv] 43) = X1 := ⟨_, rfl⟩
      rw [hX1] at xT xV xK12 xK13 xB xK9 ⊢
      have HT := Lib.hid xT
      have HV := Lib.hid xV
      have K12 := Lib.hid xK12
      have K13 := Lib.hid xK13
      replace HB := Lib.hid xB
      replace K9 := Lib.hid xK9
      have HSZ := Lib.hid xsz
      clear xT xV xK12 xK13 xB xK9 hX1 xsz
      have a0 := K9.out.cellV (i := 0) (v := .int .u32 f.W) rfl
      have a1 := K9.out.cellV (i := 1) (v := .int .i64 f.R) rfl
      have a2 := K9.out.cellV (i := 2) (v := .int .u32 f.T) rfl
      have b0 := K12.out.cellV (i := 0) (v := .map mk) rfl
      have b1 := K12.out.cellV (i := 1) (v := .map mu) rfl
      have c0 := K13.out.cellV (i := 0) (v := .slice Av nv cv) rfl
      have c1 := K13.out.cellV (i := 1) (v := .map mv) rfl
      obtain ⟨r, hr⟩ : ∃ r, lostF f (shV37 (nodesW l) (bxS 8 8 l)) (pathN (nodesW l) f.W) = r := ⟨_, rfl⟩
      obtain ⟨g, gb⟩ := r
      have HG := Lib.hid hr
      have HGK := Lib.hid (lost_ok f HF.out _ (fun i hi => path_ok HT.out.ok HTK.out HF.out.1 hi) hr)
      have HGS := Lib.hid (lost_shows (root_shows HUP.out) f _ hr)
      clear hr
      go_wp2_with fail
      have hlo := lost_any f HF.out HT.out HTK.out HV.out
      rw [HG.out] at hlo
      refine hlo.mono ?_
      clear hlo
      rintro e w2 ⟨rfl, hb2⟩
      have HM := Lib.hid ((HV.out.map HTK.out).below hb2)
      replace K9 := Lib.hid (K9.out.belowS hb2)
      replace K13 := Lib.hid (K13.out.belowS hb2)
      replace HB := Lib.hid (bstep HB.out hb2)
      clear hb2 a0 a1 a2 b0 b1 c0 c1 HT HV K12
      have a0 := K9.out.cellV (i := 0) (v := .int .u32 f.W) rfl
      have a1 := K9.out.cellV (i := 1) (v := .int .i64 f.R) rfl
      have a2 := K9.out.cellV (i := 2) (v := .int .u32 f.T) rfl
      have f0 := K9.out.frozen 0
      have f1 := K9.out.frozen 1
      have f2 := K9.out.frozen 2
      have l9 := K9.out.lt
      go_upto_region 11 with fail
      have xK9 := ((K9.out.set_ 0 (.int .u32 g.W)).set_ 1 (.int .i64 g.R)).set_ 2 (.int .u32 g.T)
      have xK13 := ((K13.out.far (p := ⟨w.heap.size, 0, none⟩) (by have := HSZ.out; show _ ≠ _; simp only; omega) (.int .u32 g.W)).far (p := ⟨w.heap.size, 1, none⟩) (by have := HSZ.out; show _ ≠ _; simp only; omega) (.int .i64 g.R)).far (p := ⟨w.heap.size, 2, none⟩) (by have := HSZ.out; show _ ≠ _; simp only; omega) (.int .u32 g.T)
      have xM := ((HM.out.setBlk K9.out 0 (.int .u32 g.W)).setBlk (K9.out.set_ 0 (.int .u32 g.W)) 1 (.int .i64 g.R)).setBlk ((K9.out.set_ 0 (.int .u32 g.W)).set_ 1 (.int .i64 g.R)) 2 (.int .u32 g.T)
      have xB := bset (p := ⟨w.heap.size, 2, none⟩) (bset (p := ⟨w.heap.size, 1, none⟩) (bset (p := ⟨w.heap.size, 0, none⟩) HB.out (Nat.le_refl _) (.int .u32 g.W)) (Nat.le_refl _) (.int .i64 g.R)) (Nat.le_refl _) (.int .u32 g.T)
      obtain ⟨Y, hY⟩ : ∃ Y, ((w2.setCell ⟨w.heap.size, 0, none⟩ (.int .u32 g.W)).setCell ⟨w.heap.size, 1, none⟩ (.int .i64 g.R)).setCell ⟨w.heap.size, 2, none⟩ (.int .u32 g.T) = Y := ⟨_, rfl⟩
      rw [hY] at xK9 xK13 xM xB ⊢
      replace K9 := Lib.hid (show Blk Y w.heap.size 122 #[.int .u32 g.W, .int .i64 g.R, .int .u32 g.T] from xK9)
      replace K13 := Lib.hid xK13
      replace HM := Lib.hid xM
      replace HB := Lib.hid xB
      clear xK9 xK13 xM xB hY a0 a1 a2 f0 f1 f2 l9
      obtain ⟨bq, hbq⟩ : ∃ bq, decide (k < ni ∧ k < nr ∧ k < nt) = bq := ⟨_, rfl⟩
      have HBQ := Lib.hid hbq
      clear hbq
      go_cut [62] from 115 (fun s62 wx => s62 = .bool bq ∧ wx = Y)
      case first =>
        as_aux_lemma =>
          by_cases q1 : k < ni
          · by_cases q2 : k < nr
            · by_cases q3 : k < nt
              · have hd := decide_eq_true (show k < ni ∧ k < nr ∧ k < nt from ⟨q1, q2, q3⟩)
                rw [HBQ.out] at hd
                have HD := Lib.hid hd
                clear hd
                have r1 : (k : Int) < (ni : Int) := by omega
                have r2 : (k : Int) < (nr : Int) := by omega
                have r3 : (k : Int) < (nt : Int) := by omega
                go_wp2_with fail
                go_meet
                exact ⟨by rw [HD.out], rfl⟩
              · have hd := decide_eq_false (show ¬ (k < ni ∧ k < nr ∧ k < nt) from fun h => q3 h.2.2)
                rw [HBQ.out] at hd
                have HD := Lib.hid hd
                clear hd
                have r1 : (k : Int) < (ni : Int) := by omega
                have r2 : (k : Int) < (nr : Int) := by omega
                have r3 : ¬ (k : Int) < (nt : Int) := by omega
                go_wp2_with fail
                go_meet
                exact ⟨by rw [HD.out], rfl⟩
            · have hd := decide_eq_false (show ¬ (k < ni ∧ k < nr ∧ k < nt) from fun h => q2 h.2.1)
              rw [HBQ.out] at hd
              have HD := Lib.hid hd
              clear hd
              have r1 : (k : Int) < (ni : Int) := by omega
              have r2 : ¬ (k : Int) < (nr : Int) := by omega
              go_wp2_with fail
              go_meet
              exact ⟨by rw [HD.out], rfl⟩
          · have hd := decide_eq_false (show ¬ (k < ni ∧ k < nr ∧ k < nt) from fun h => q1 h.1)
            rw [HBQ.out] at hd
            have HD := Lib.hid hd
            clear hd
            have r1 : ¬ (k : Int) < (ni : Int) := by omega
            go_wp2_with fail
            go_meet
            exact ⟨by rw [HD.out], rfl⟩
      obtain ⟨rfl, rfl⟩ := hcut
      have HP1 := Lib.hid (show g.T ≤ 2147483648 by rw [HGS.out.2]; exact HFT.out)
      go_upto_if 62 with fail
      go_cut [16, 17, 18] from 115 (fun _ _ _ wx => ∃ h : FC, h.ok ∧ h.T ≤ 2147483648 ∧ (h.W = 0 ∨ shV37 (nodesW l) (bxS 8 8 l) h.W = true) ∧ Blk wx w.heap.size 122 #[.int .u32 h.W, .int .i64 h.R, .int .u32 h.T] ∧ Blk wx (w1.heap.size + 1) 43 #[.slice Av nv cv, .map mv] ∧ SeenM wx (.agg #[.slice Av nv cv, .map mv]) (nodesW l) (bxS 8 8 l) ∧ Below w.heap.size w wx)
      case first =>
        as_aux_lemma =>
          cases bq with
          | false =>
            go_wp2_with fail
            go_meet
            exact ⟨g, HGK.out, HP1.out, HGS.out.1, K9.out, K13.out, HM.out, HB.out⟩
          | true =>
            have hall := of_decide_eq_true HBQ.out
            obtain ⟨i8, hi8⟩ : ∃ x, IL[k]? = some x := ⟨_, List.getElem?_eq_getElem (by rw [HIL.out]; exact hall.1)⟩
            obtain ⟨rv, hrv⟩ : ∃ x, RL[k]? = some x := ⟨_, List.getElem?_eq_getElem (by rw [HRL.out]; exact hall.2.1)⟩
            obtain ⟨tm, htm⟩ : ∃ x, TL[k]? = some x := ⟨_, List.getElem?_eq_getElem (by rw [HTL.out]; exact hall.2.2)⟩
            obtain ⟨bi, oi, rfl, hbi, hci⟩ := (HI.out.below HB.out).2 (by omega)
            obtain ⟨br, oR, rfl, hbr, hcr⟩ := (HRR.out.below HB.out).2 (by omega)
            obtain ⟨bt, oT, rfl, hbt, hct⟩ := (HTT.out.below HB.out).2 (by omega)
            have CI := Lib.hid (And.intro hbi (hci k _ (B8_at hi8)))
            have CR := Lib.hid (And.intro hbr (hcr k _ (J64_at hrv)))
            have CT := Lib.hid (And.intro hbt (hct k _ (U32_at htm)))
            have h8 := HIO.out i8 (List.mem_of_getElem? hi8)
            have HTMB := Lib.hid (HTO.out tm (List.mem_of_getElem? htm))
            obtain ⟨nid, hnid⟩ : ∃ nid : Nat, i8 % 12 = (nid : Int) := ⟨(i8 % 12).toNat, by omega⟩
            have hnb : nid ≤ 11 := by omega
            have wf1 : i8.tmod 12 = (nid : Int) := by rw [Int.tmod_eq_emod_of_nonneg (by omega)]; exact hnid
            have wf2 : IntKind.i64.wrap (nid : Int) = (nid : Int) := IntWalk.i64_in _ (by omega)
            obtain ⟨idv, hidv⟩ : ∃ idv, idW ((nid : Int) - 1) = idv := ⟨_, rfl⟩
            have HIDV := Lib.hid hidv
            have HIDB := Lib.hid (show 0 ≤ idv ∧ idv ≤ 4294967295 by rw [← hidv]; exact idW_bd (by omega))
            obtain ⟨r, hr⟩ : ∃ r, setF g (shV37 (nodesW l) (bxS 8 8 l)) idv rv tm 2147483648 = r := ⟨_, rfl⟩
            obtain ⟨h, hbb, hcc⟩ := r
            have HSET := Lib.hid hr
            have r1 : (k : Int) < (ni : Int) := by omega
            have r2 : (k : Int) < (nr : Int) := by omega
            have r3 : (k : Int) < (nt : Int) := by omega
            clear hi8 hrv htm hbi hci hbr hcr hbt hct hidv hr hnid hall
            go_upto_region 12 with fail
            have HBW := Lib.hid (show Below wc.heap.size wc wc.drew from (bre wc).drew)
            refine wp_region_noPanic ?_
            refine wp_region_held_drew (S := (fun w' => w'.cell? ⟨w.heap.size, 0, none⟩ = some (.int .u32 g.W) ∧ w'.cell? ⟨w.heap.size, 1, none⟩ = some (.int .i64 g.R) ∧ w'.cell? ⟨w.heap.size, 2, none⟩ = some (.int .u32 g.T) ∧ w'.cell? ⟨w1.heap.size + 1, 0, none⟩ = some (.slice Av nv cv) ∧ w'.cell? ⟨w1.heap.size + 1, 1, none⟩ = some (.map mv) ∧ w'.cell? ⟨bi, oi + k, none⟩ = some (.int .u8 i8) ∧ w'.cell? ⟨br, oR + k, none⟩ = some (.int .i64 rv) ∧ w'.cell? ⟨bt, oT + k, none⟩ = some (.int .u32 tm))) (by kernel_rfl) ?_ (fun hHeld => ?_)
            · (try dsimp only)
              exact ⟨(K9.out.belowS HBW.out).cellV (i := 0) rfl, (K9.out.belowS HBW.out).cellV (i := 1) rfl, (K9.out.belowS HBW.out).cellV (i := 2) rfl, (K13.out.belowS HBW.out).cellV (i := 0) rfl, (K13.out.belowS HBW.out).cellV (i := 1) rfl, ((HBW.out.cell (p := ⟨bi, oi + k, none⟩) CI.out.1).trans CI.out.2), ((HBW.out.cell (p := ⟨br, oR + k, none⟩) CR.out.1).trans CR.out.2), ((HBW.out.cell (p := ⟨bt, oT + k, none⟩) CT.out.1).trans CT.out.2)⟩
            refine Tr.take_at 0 64 (.agg #[.int .u32 g.W, .int .i64 g.R, .int .u32 g.T]) rfl rfl (by kernel_rfl) (by kernel_rfl) (by kernel_rfl) (fun _ _ _ h => h) (Or.inl ⟨by rfl, ?_⟩) (by assumption) ?_
            · intro W0 hSw
              (try dsimp only at hSw)
              go_simp
            simp only [List.set_cons_zero, List.set_cons_succ]
            refine Tr.take_at 1 65 (.agg #[.slice Av nv cv, .map mv]) rfl rfl (by kernel_rfl) (by kernel_rfl) (by kernel_rfl) (fun _ _ _ h => h) (Or.inl ⟨by rfl, ?_⟩) (by assumption) ?_
            · intro W0 hSw
              (try dsimp only at hSw)
              go_simp
            simp only [List.set_cons_zero, List.set_cons_succ]
            refine Tr.take_at 2 66 (.slice (some ⟨bi, oi, none⟩) ni ci) rfl rfl (by kernel_rfl) (by kernel_rfl) (by kernel_rfl) (fun _ _ _ h => h) (Or.inl ⟨by rfl, ?_⟩) (by assumption) ?_
            · intro W0 hSw
              (try dsimp only at hSw)
              go_simp
            simp only [List.set_cons_zero, List.set_cons_succ]
            refine Tr.take_at 3 67 (.int .i64 k) rfl rfl (by kernel_rfl) (by kernel_rfl) (by kernel_rfl) (fun _ _ _ h => h) (Or.inl ⟨by rfl, ?_⟩) (by assumption) ?_
            · intro W0 hSw
              (try dsimp only at hSw)
              go_simp
            simp only [List.set_cons_zero, List.set_cons_succ]
            refine Tr.take_at 4 68 (.pointer (some ⟨bi, oi + k, none⟩)) rfl rfl (by kernel_rfl) (by kernel_rfl) (by kernel_rfl) (fun _ _ _ h => h) (Or.inl ⟨by rfl, ?_⟩) (by assumption) ?_
            · intro W0 hSw
              (try dsimp only at hSw)
              go_simp
            simp only [List.set_cons_zero, List.set_cons_succ]
            refine Tr.take_at 5 69 (.int .u8 i8) rfl rfl (by kernel_rfl) (by kernel_rfl) (by kernel_rfl) (fun _ _ _ h => h) (Or.inl ⟨by rfl, ?_⟩) (by assumption) ?_
            · intro W0 hSw
              (try dsimp only at hSw)
              go_simp
            simp only [List.set_cons_zero, List.set_cons_succ]
            refine Tr.take_at 6 70 (.int .u8 nid) rfl rfl (by kernel_rfl) (by kernel_rfl) (by kernel_rfl) (fun _ _ _ h => h) (Or.inl ⟨by rfl, ?_⟩) (by assumption) ?_
            · intro W0 hSw
              (try dsimp only at hSw)
              go_simp
            simp only [List.set_cons_zero, List.set_cons_succ]
            refine Tr.take_at 7 71 (.int .i64 nid) rfl rfl (by kernel_rfl) (by kernel_rfl) (by kernel_rfl) (fun _ _ _ h => h) (Or.inl ⟨by rfl, ?_⟩) (by assumption) ?_
            · intro W0 hSw
              (try dsimp only at hSw)
              go_simp
            simp only [List.set_cons_zero, List.set_cons_succ]
            refine Tr.take_at 9 73 (.slice (some ⟨br, oR, none⟩) nr cr) rfl rfl (by kernel_rfl) (by kernel_rfl) (by kernel_rfl) (fun _ _ _ h => h) (Or.inl ⟨by rfl, ?_⟩) (by assumption) ?_
            · intro W0 hSw
              (try dsimp only at hSw)
              go_simp
            simp only [List.set_cons_zero, List.set_cons_succ]
            refine Tr.take_at 10 74 (.int .i64 k) rfl rfl (by kernel_rfl) (by kernel_rfl) (by kernel_rfl) (fun _ _ _ h => h) (Or.inl ⟨by rfl, ?_⟩) (by assumption) ?_
            · intro W0 hSw
              (try dsimp only at hSw)
              go_simp
            simp only [List.set_cons_zero, List.set_cons_succ]
            refine Tr.take_at 11 75 (.pointer (some ⟨br, oR + k, none⟩)) rfl rfl (by kernel_rfl) (by kernel_rfl) (by kernel_rfl) (fun _ _ _ h => h) (Or.inl ⟨by rfl, ?_⟩) (by assumption) ?_
            · intro W0 hSw
              (try dsimp only at hSw)
              go_simp
            simp only [List.set_cons_zero, List.set_cons_succ]
            refine Tr.take_at 12 76 (.int .i64 rv) rfl rfl (by kernel_rfl) (by kernel_rfl) (by kernel_rfl) (fun _ _ _ h => h) (Or.inl ⟨by rfl, ?_⟩) (by assumption) ?_
            · intro W0 hSw
              (try dsimp only at hSw)
              go_simp
            simp only [List.set_cons_zero, List.set_cons_succ]
            refine Tr.take_at 13 77 (.slice (some ⟨bt, oT, none⟩) nt ct) rfl rfl (by kernel_rfl) (by kernel_rfl) (by kernel_rfl) (fun _ _ _ h => h) (Or.inl ⟨by rfl, ?_⟩) (by assumption) ?_
            · intro W0 hSw
              (try dsimp only at hSw)
              go_simp
            simp only [List.set_cons_zero, List.set_cons_succ]
            refine Tr.take_at 14 78 (.int .i64 k) rfl rfl (by kernel_rfl) (by kernel_rfl) (by kernel_rfl) (fun _ _ _ h => h) (Or.inl ⟨by rfl, ?_⟩) (by assumption) ?_
            · intro W0 hSw
              (try dsimp only at hSw)
              go_simp
            simp only [List.set_cons_zero, List.set_cons_succ]
            refine Tr.take_at 15 79 (.pointer (some ⟨bt, oT + k, none⟩)) rfl rfl (by kernel_rfl) (by kernel_rfl) (by kernel_rfl) (fun _ _ _ h => h) (Or.inl ⟨by rfl, ?_⟩) (by assumption) ?_
            · intro W0 hSw
              (try dsimp only at hSw)
              go_simp
            simp only [List.set_cons_zero, List.set_cons_succ]
            refine Tr.take_at 16 80 (.int .u32 tm) rfl rfl (by kernel_rfl) (by kernel_rfl) (by kernel_rfl) (fun _ _ _ h => h) (Or.inl ⟨by rfl, ?_⟩) (by assumption) ?_
            · intro W0 hSw
              (try dsimp only at hSw)
              go_simp
            simp only [List.set_cons_zero, List.set_cons_succ]
            refine wpAnyH_ready (rs := [8, 22]) (by kernel_rfl) (by simp) ?_
            refine AllReadyH.cons rfl (fun K hK => ?_) (AllReadyH.cons rfl (fun K hK => ?_) AllReadyH.nil)
            ·
              go_simp
              refine (id37_any nid _ (by omega)).mono ?_
              rintro e wc8 ⟨rfl, hbA⟩
              rw [HIDV.out]
              replace HBW := Lib.hid (bstep HBW.out hbA)
              clear hbA
              go_simp
              refine hK.out _ _ ?_ (fun hHeld => ?_)
              · (try dsimp only)
                exact ⟨(K9.out.belowS HBW.out).cellV (i := 0) rfl, (K9.out.belowS HBW.out).cellV (i := 1) rfl, (K9.out.belowS HBW.out).cellV (i := 2) rfl, (K13.out.belowS HBW.out).cellV (i := 0) rfl, (K13.out.belowS HBW.out).cellV (i := 1) rfl, ((HBW.out.cell (p := ⟨bi, oi + k, none⟩) CI.out.1).trans CI.out.2), ((HBW.out.cell (p := ⟨br, oR + k, none⟩) CR.out.1).trans CR.out.2), ((HBW.out.cell (p := ⟨bt, oT + k, none⟩) CT.out.1).trans CT.out.2)⟩
              clear hK K
              refine wpAnyH_ready (rs := [17, 22]) (by kernel_rfl) (by simp) ?_
              refine AllReadyH.cons rfl (fun K hK => ?_) (AllReadyH.cons rfl (fun K hK => ?_) AllReadyH.nil)
              ·
                go_simp
                have hset := set37m_any g HGK.out idv rv tm 2147483648 HIDB.out (HM.out.below HBW.out)
                rw [HSET.out] at hset
                refine hset.mono ?_
                clear hset
                rintro e wc17 ⟨rfl, hbA⟩
                replace HBW := Lib.hid (bstep HBW.out hbA)
                clear hbA
                go_simp
                refine hK.out _ _ ?_ (fun hHeld => ?_)
                · (try dsimp only)
                  exact ⟨(K9.out.belowS HBW.out).cellV (i := 0) rfl, (K9.out.belowS HBW.out).cellV (i := 1) rfl, (K9.out.belowS HBW.out).cellV (i := 2) rfl, (K13.out.belowS HBW.out).cellV (i := 0) rfl, (K13.out.belowS HBW.out).cellV (i := 1) rfl, ((HBW.out.cell (p := ⟨bi, oi + k, none⟩) CI.out.1).trans CI.out.2), ((HBW.out.cell (p := ⟨br, oR + k, none⟩) CR.out.1).trans CR.out.2), ((HBW.out.cell (p := ⟨bt, oT + k, none⟩) CT.out.1).trans CT.out.2)⟩
                clear hK K
                refine Tr.take_at 18 63 (.tuple #[.agg #[.int .u32 h.W, .int .i64 h.R, .int .u32 h.T], .bool hbb, .int .i64 hcc]) rfl rfl (by kernel_rfl) (by kernel_rfl) (by kernel_rfl) (fun _ _ _ h => h) (Or.inl ⟨by rfl, ?_⟩) (by assumption) ?_
                · intro W0 hSw
                  (try dsimp only at hSw)
                  go_simp
                simp only [List.set_cons_zero, List.set_cons_succ]
                refine Tr.take_at 19 82 (.agg #[.int .u32 h.W, .int .i64 h.R, .int .u32 h.T]) rfl rfl (by kernel_rfl) (by kernel_rfl) (by kernel_rfl) (fun _ _ _ h => h) (Or.inl ⟨by rfl, ?_⟩) (by assumption) ?_
                · intro W0 hSw
                  (try dsimp only at hSw)
                  go_simp
                simp only [List.set_cons_zero, List.set_cons_succ]
                refine Tr.take_at 20 83 (.bool hbb) rfl rfl (by kernel_rfl) (by kernel_rfl) (by kernel_rfl) (fun _ _ _ h => h) (Or.inl ⟨by rfl, ?_⟩) (by assumption) ?_
                · intro W0 hSw
                  (try dsimp only at hSw)
                  go_simp
                simp only [List.set_cons_zero, List.set_cons_succ]
                refine Tr.take_at 21 84 (.int .i64 hcc) rfl rfl (by kernel_rfl) (by kernel_rfl) (by kernel_rfl) (fun _ _ _ h => h) (Or.inl ⟨by rfl, ?_⟩) (by assumption) ?_
                · intro W0 hSw
                  (try dsimp only at hSw)
                  go_simp
                simp only [List.set_cons_zero, List.set_cons_succ]
                refine wpAnyH_ready (rs := [22]) (by kernel_rfl) (by simp) ?_
                refine AllReadyH.cons rfl (fun K hK => ?_) AllReadyH.nil
                go_simp
                have KA22 := Lib.hid (show Blk (wc17.alloc (.cells #[.int .u32 0, .int .i64 0, .int .u32 0] 122)) (wc17.heap.size) 122 #[.int .u32 0, .int .i64 0, .int .u32 0] from Blk.new wc17 122 #[.int .u32 0, .int .i64 0, .int .u32 0])
                have HL22 := Lib.hid (show wc.heap.size ≤ wc17.heap.size from HBW.out.size)
                have hbA : Below wc17.heap.size wc17 ((wc17.alloc (.cells #[.int .u32 0, .int .i64 0, .int .u32 0] 122))) := bal (bre wc17) (.cells #[.int .u32 0, .int .i64 0, .int .u32 0] 122)
                replace HBW := Lib.hid (bstep HBW.out hbA)
                clear hbA
                refine hK.out _ _ ?_ (fun hHeld => ?_)
                · (try dsimp only)
                  exact ⟨(K9.out.belowS HBW.out).cellV (i := 0) rfl, (K9.out.belowS HBW.out).cellV (i := 1) rfl, (K9.out.belowS HBW.out).cellV (i := 2) rfl, (K13.out.belowS HBW.out).cellV (i := 0) rfl, (K13.out.belowS HBW.out).cellV (i := 1) rfl, ((HBW.out.cell (p := ⟨bi, oi + k, none⟩) CI.out.1).trans CI.out.2), ((HBW.out.cell (p := ⟨br, oR + k, none⟩) CR.out.1).trans CR.out.2), ((HBW.out.cell (p := ⟨bt, oT + k, none⟩) CT.out.1).trans CT.out.2)⟩
                clear hK K
                refine wpAnyH_ready (rs := [23]) (by kernel_rfl) (by simp) ?_
                refine AllReadyH.cons rfl (fun K hK => ?_) AllReadyH.nil
                refine Tr.wanted_plain rfl ?_
                refine store_mid0 rfl 122 _ _ rfl (wc17.heap.size) 0 #[.int .u32 h.W, .int .i64 h.R, .int .u32 h.T] (by rfl) (by rfl) (by have h := there_blk KA22.out; exact h) Tryz.sizeFo (by simp [Value.oneCell']) ?_
                have xK := blk_puts3 (.int .u32 h.W) (.int .i64 h.R) (.int .u32 h.T) KA22.out
                have xB := bsets HBW.out HL22.out (#[.int .u32 h.W, .int .i64 h.R, .int .u32 h.T] : Array Value).toList 0
                obtain ⟨wS23, hwS⟩ : ∃ wS, World.setCells (wc17.alloc (.cells #[.int .u32 0, .int .i64 0, .int .u32 0] 122)) (wc17.heap.size) 0 (#[.int .u32 h.W, .int .i64 h.R, .int .u32 h.T] : Array Value).toList = wS := ⟨_, rfl⟩
                rw [hwS] at xK xB ⊢
                replace HBW := Lib.hid xB
                replace KA22 := Lib.hid xK
                clear hwS xK xB
                refine hK.out _ _ ?_ (fun hHeld => ?_)
                · (try dsimp only)
                  exact ⟨(K9.out.belowS HBW.out).cellV (i := 0) rfl, (K9.out.belowS HBW.out).cellV (i := 1) rfl, (K9.out.belowS HBW.out).cellV (i := 2) rfl, (K13.out.belowS HBW.out).cellV (i := 0) rfl, (K13.out.belowS HBW.out).cellV (i := 1) rfl, ((HBW.out.cell (p := ⟨bi, oi + k, none⟩) CI.out.1).trans CI.out.2), ((HBW.out.cell (p := ⟨br, oR + k, none⟩) CR.out.1).trans CR.out.2), ((HBW.out.cell (p := ⟨bt, oT + k, none⟩) CT.out.1).trans CT.out.2)⟩
                clear hK K
                refine Tr.take_at 24 17 (.bool hbb) rfl rfl (by kernel_rfl) (by kernel_rfl) (by kernel_rfl) (fun _ _ _ h => h) (Or.inl ⟨by rfl, ?_⟩) (by assumption) ?_
                · intro W0 hSw
                  (try dsimp only at hSw)
                  go_simp
                simp only [List.set_cons_zero, List.set_cons_succ]
                refine Tr.take_at 25 18 (.int .i64 hcc) rfl rfl (by kernel_rfl) (by kernel_rfl) (by kernel_rfl) (fun _ _ _ h => h) (Or.inl ⟨by rfl, ?_⟩) (by assumption) ?_
                · intro W0 hSw
                  (try dsimp only at hSw)
                  go_simp
                simp only [List.set_cons_zero, List.set_cons_succ]
                refine wpAnyH_done (by kernel_rfl) ?_ _
                refine NoPanic.normal ?_
                have xK9 := K9.out.belowS HBW.out
                have xK13 := K13.out.belowS HBW.out
                have xM := HM.out.below HBW.out
                have xB := bstep HB.out HBW.out
                have K16 := Lib.hid KA22.out
                replace K9 := Lib.hid xK9
                replace K13 := Lib.hid xK13
                replace HM := Lib.hid xM
                replace HB := Lib.hid xB
                have HTI := Lib.hid (set_time g idv rv tm 2147483648 HSET.out HP1.out)
                have HSH := Lib.hid (set_shows g idv rv tm 2147483648 HSET.out HGS.out.1)
                have HOKS := Lib.hid (set_ok g idv rv tm 2147483648 HSET.out HGK.out HIDB.out HTMB.out (by decide))
                clear xK9 xK13 xM xB
                have d0 := K9.out.cellV (i := 0) (v := .int .u32 g.W) rfl
                have d1 := K9.out.cellV (i := 1) (v := .int .i64 g.R) rfl
                have d2 := K9.out.cellV (i := 2) (v := .int .u32 g.T) rfl
                have df0 := K9.out.frozen 0
                have df1 := K9.out.frozen 1
                have df2 := K9.out.frozen 2
                have dl := K9.out.lt
                have e0 := K16.out.cellV (i := 0) (v := .int .u32 h.W) rfl
                have e1 := K16.out.cellV (i := 1) (v := .int .i64 h.R) rfl
                have e2 := K16.out.cellV (i := 2) (v := .int .u32 h.T) rfl
                have tlt : ¬ h.T < g.T := by have := HTI.out; omega
                by_cases c0 : hcc = 0
                · have c0' : (hcc != 0) = false := by simpa using c0
                  clear c0
                  go_wp2_with fail
                  go_meet
                  exact ⟨h, HOKS.out, HTI.out.2, HSH.out, ((K9.out.set_ 0 (.int .u32 h.W)).set_ 1 (.int .i64 h.R)).set_ 2 (.int .u32 h.T), ((K13.out.far (p := ⟨w.heap.size, 0, none⟩) (by have := HSZ.out; show _ ≠ _; simp only; omega) (.int .u32 h.W)).far (p := ⟨w.heap.size, 1, none⟩) (by have := HSZ.out; show _ ≠ _; simp only; omega) (.int .i64 h.R)).far (p := ⟨w.heap.size, 2, none⟩) (by have := HSZ.out; show _ ≠ _; simp only; omega) (.int .u32 h.T), ((HM.out.setBlk K9.out 0 (.int .u32 h.W)).setBlk (K9.out.set_ 0 (.int .u32 h.W)) 1 (.int .i64 h.R)).setBlk ((K9.out.set_ 0 (.int .u32 h.W)).set_ 1 (.int .i64 h.R)) 2 (.int .u32 h.T), bset (p := ⟨w.heap.size, 2, none⟩) (bset (p := ⟨w.heap.size, 1, none⟩) (bset (p := ⟨w.heap.size, 0, none⟩) HB.out (Nat.le_refl _) (.int .u32 h.W)) (Nat.le_refl _) (.int .i64 h.R)) (Nat.le_refl _) (.int .u32 h.T)⟩
                · have c0' : (hcc != 0) = true := by simpa using c0
                  obtain ⟨hf, hgq⟩ := set_code g idv rv tm 2147483648 HSET.out c0
                  have HGQ := Lib.hid hgq
                  subst hf
                  rw [hgq] at e0 e1 e2 tlt
                  clear c0 hgq
                  go_wp2_with fail
                  go_meet
                  exact ⟨g, HGK.out, HP1.out, HGS.out.1, ((K9.out.set_ 0 (.int .u32 g.W)).set_ 1 (.int .i64 g.R)).set_ 2 (.int .u32 g.T), ((K13.out.far (p := ⟨w.heap.size, 0, none⟩) (by have := HSZ.out; show _ ≠ _; simp only; omega) (.int .u32 g.W)).far (p := ⟨w.heap.size, 1, none⟩) (by have := HSZ.out; show _ ≠ _; simp only; omega) (.int .i64 g.R)).far (p := ⟨w.heap.size, 2, none⟩) (by have := HSZ.out; show _ ≠ _; simp only; omega) (.int .u32 g.T), ((HM.out.setBlk K9.out 0 (.int .u32 g.W)).setBlk (K9.out.set_ 0 (.int .u32 g.W)) 1 (.int .i64 g.R)).setBlk ((K9.out.set_ 0 (.int .u32 g.W)).set_ 1 (.int .i64 g.R)) 2 (.int .u32 g.T), bset (p := ⟨w.heap.size, 2, none⟩) (bset (p := ⟨w.heap.size, 1, none⟩) (bset (p := ⟨w.heap.size, 0, none⟩) HB.out (Nat.le_refl _) (.int .u32 g.W)) (Nat.le_refl _) (.int .i64 g.R)) (Nat.le_refl _) (.int .u32 g.T)⟩
              ·
                go_simp
                have KA22 := Lib.hid (show Blk (wc8.alloc (.cells #[.int .u32 0, .int .i64 0, .int .u32 0] 122)) (wc8.heap.size) 122 #[.int .u32 0, .int .i64 0, .int .u32 0] from Blk.new wc8 122 #[.int .u32 0, .int .i64 0, .int .u32 0])
                have HL22 := Lib.hid (show wc.heap.size ≤ wc8.heap.size from HBW.out.size)
                have hbA : Below wc8.heap.size wc8 ((wc8.alloc (.cells #[.int .u32 0, .int .i64 0, .int .u32 0] 122))) := bal (bre wc8) (.cells #[.int .u32 0, .int .i64 0, .int .u32 0] 122)
                replace HBW := Lib.hid (bstep HBW.out hbA)
                clear hbA
                refine hK.out _ _ ?_ (fun hHeld => ?_)
                · (try dsimp only)
                  exact ⟨(K9.out.belowS HBW.out).cellV (i := 0) rfl, (K9.out.belowS HBW.out).cellV (i := 1) rfl, (K9.out.belowS HBW.out).cellV (i := 2) rfl, (K13.out.belowS HBW.out).cellV (i := 0) rfl, (K13.out.belowS HBW.out).cellV (i := 1) rfl, ((HBW.out.cell (p := ⟨bi, oi + k, none⟩) CI.out.1).trans CI.out.2), ((HBW.out.cell (p := ⟨br, oR + k, none⟩) CR.out.1).trans CR.out.2), ((HBW.out.cell (p := ⟨bt, oT + k, none⟩) CT.out.1).trans CT.out.2)⟩
                clear hK K
                refine wpAnyH_ready (rs := [17]) (by kernel_rfl) (by simp) ?_
                refine AllReadyH.cons rfl (fun K hK => ?_) AllReadyH.nil
                go_simp
                have hset := set37m_any g HGK.out idv rv tm 2147483648 HIDB.out (HM.out.below HBW.out)
                rw [HSET.out] at hset
                refine hset.mono ?_
                clear hset
                rintro e wc17 ⟨rfl, hbA⟩
                replace HBW := Lib.hid (bstep HBW.out hbA)
                replace KA22 := Lib.hid (KA22.out.belowS hbA)
                clear hbA
                go_simp
                refine hK.out _ _ ?_ (fun hHeld => ?_)
                · (try dsimp only)
                  exact ⟨(K9.out.belowS HBW.out).cellV (i := 0) rfl, (K9.out.belowS HBW.out).cellV (i := 1) rfl, (K9.out.belowS HBW.out).cellV (i := 2) rfl, (K13.out.belowS HBW.out).cellV (i := 0) rfl, (K13.out.belowS HBW.out).cellV (i := 1) rfl, ((HBW.out.cell (p := ⟨bi, oi + k, none⟩) CI.out.1).trans CI.out.2), ((HBW.out.cell (p := ⟨br, oR + k, none⟩) CR.out.1).trans CR.out.2), ((HBW.out.cell (p := ⟨bt, oT + k, none⟩) CT.out.1).trans CT.out.2)⟩
                clear hK K
                refine Tr.take_at 18 63 (.tuple #[.agg #[.int .u32 h.W, .int .i64 h.R, .int .u32 h.T], .bool hbb, .int .i64 hcc]) rfl rfl (by kernel_rfl) (by kernel_rfl) (by kernel_rfl) (fun _ _ _ h => h) (Or.inl ⟨by rfl, ?_⟩) (by assumption) ?_
                · intro W0 hSw
                  (try dsimp only at hSw)
                  go_simp
                simp only [List.set_cons_zero, List.set_cons_succ]
                refine Tr.take_at 19 82 (.agg #[.int .u32 h.W, .int .i64 h.R, .int .u32 h.T]) rfl rfl (by kernel_rfl) (by kernel_rfl) (by kernel_rfl) (fun _ _ _ h => h) (Or.inl ⟨by rfl, ?_⟩) (by assumption) ?_
                · intro W0 hSw
                  (try dsimp only at hSw)
                  go_simp
                simp only [List.set_cons_zero, List.set_cons_succ]
                refine Tr.take_at 20 83 (.bool hbb) rfl rfl (by kernel_rfl) (by kernel_rfl) (by kernel_rfl) (fun _ _ _ h => h) (Or.inl ⟨by rfl, ?_⟩) (by assumption) ?_
                · intro W0 hSw
                  (try dsimp only at hSw)
                  go_simp
                simp only [List.set_cons_zero, List.set_cons_succ]
                refine Tr.take_at 21 84 (.int .i64 hcc) rfl rfl (by kernel_rfl) (by kernel_rfl) (by kernel_rfl) (fun _ _ _ h => h) (Or.inl ⟨by rfl, ?_⟩) (by assumption) ?_
                · intro W0 hSw
                  (try dsimp only at hSw)
                  go_simp
                simp only [List.set_cons_zero, List.set_cons_succ]
                refine wpAnyH_ready (rs := [23]) (by kernel_rfl) (by simp) ?_
                refine AllReadyH.cons rfl (fun K hK => ?_) AllReadyH.nil
                refine Tr.wanted_plain rfl ?_
                refine store_mid0 rfl 122 _ _ rfl (wc8.heap.size) 0 #[.int .u32 h.W, .int .i64 h.R, .int .u32 h.T] (by rfl) (by rfl) (by have h := there_blk KA22.out; exact h) Tryz.sizeFo (by simp [Value.oneCell']) ?_
                have xK := blk_puts3 (.int .u32 h.W) (.int .i64 h.R) (.int .u32 h.T) KA22.out
                have xB := bsets HBW.out HL22.out (#[.int .u32 h.W, .int .i64 h.R, .int .u32 h.T] : Array Value).toList 0
                obtain ⟨wS23, hwS⟩ : ∃ wS, World.setCells wc17 (wc8.heap.size) 0 (#[.int .u32 h.W, .int .i64 h.R, .int .u32 h.T] : Array Value).toList = wS := ⟨_, rfl⟩
                rw [hwS] at xK xB ⊢
                replace HBW := Lib.hid xB
                replace KA22 := Lib.hid xK
                clear hwS xK xB
                refine hK.out _ _ ?_ (fun hHeld => ?_)
                · (try dsimp only)
                  exact ⟨(K9.out.belowS HBW.out).cellV (i := 0) rfl, (K9.out.belowS HBW.out).cellV (i := 1) rfl, (K9.out.belowS HBW.out).cellV (i := 2) rfl, (K13.out.belowS HBW.out).cellV (i := 0) rfl, (K13.out.belowS HBW.out).cellV (i := 1) rfl, ((HBW.out.cell (p := ⟨bi, oi + k, none⟩) CI.out.1).trans CI.out.2), ((HBW.out.cell (p := ⟨br, oR + k, none⟩) CR.out.1).trans CR.out.2), ((HBW.out.cell (p := ⟨bt, oT + k, none⟩) CT.out.1).trans CT.out.2)⟩
                clear hK K
                refine Tr.take_at 24 17 (.bool hbb) rfl rfl (by kernel_rfl) (by kernel_rfl) (by kernel_rfl) (fun _ _ _ h => h) (Or.inl ⟨by rfl, ?_⟩) (by assumption) ?_
                · intro W0 hSw
                  (try dsimp only at hSw)
                  go_simp
                simp only [List.set_cons_zero, List.set_cons_succ]
                refine Tr.take_at 25 18 (.int .i64 hcc) rfl rfl (by kernel_rfl) (by kernel_rfl) (by kernel_rfl) (fun _ _ _ h => h) (Or.inl ⟨by rfl, ?_⟩) (by assumption) ?_
                · intro W0 hSw
                  (try dsimp only at hSw)
                  go_simp
                simp only [List.set_cons_zero, List.set_cons_succ]
                refine wpAnyH_done (by kernel_rfl) ?_ _
                refine NoPanic.normal ?_
                have xK9 := K9.out.belowS HBW.out
                have xK13 := K13.out.belowS HBW.out
                have xM := HM.out.below HBW.out
                have xB := bstep HB.out HBW.out
                have K16 := Lib.hid KA22.out
                replace K9 := Lib.hid xK9
                replace K13 := Lib.hid xK13
                replace HM := Lib.hid xM
                replace HB := Lib.hid xB
                have HTI := Lib.hid (set_time g idv rv tm 2147483648 HSET.out HP1.out)
                have HSH := Lib.hid (set_shows g idv rv tm 2147483648 HSET.out HGS.out.1)
                have HOKS := Lib.hid (set_ok g idv rv tm 2147483648 HSET.out HGK.out HIDB.out HTMB.out (by decide))
                clear xK9 xK13 xM xB
                have d0 := K9.out.cellV (i := 0) (v := .int .u32 g.W) rfl
                have d1 := K9.out.cellV (i := 1) (v := .int .i64 g.R) rfl
                have d2 := K9.out.cellV (i := 2) (v := .int .u32 g.T) rfl
                have df0 := K9.out.frozen 0
                have df1 := K9.out.frozen 1
                have df2 := K9.out.frozen 2
                have dl := K9.out.lt
                have e0 := K16.out.cellV (i := 0) (v := .int .u32 h.W) rfl
                have e1 := K16.out.cellV (i := 1) (v := .int .i64 h.R) rfl
                have e2 := K16.out.cellV (i := 2) (v := .int .u32 h.T) rfl
                have tlt : ¬ h.T < g.T := by have := HTI.out; omega
                by_cases c0 : hcc = 0
                · have c0' : (hcc != 0) = false := by simpa using c0
                  clear c0
                  go_wp2_with fail
                  go_meet
                  exact ⟨h, HOKS.out, HTI.out.2, HSH.out, ((K9.out.set_ 0 (.int .u32 h.W)).set_ 1 (.int .i64 h.R)).set_ 2 (.int .u32 h.T), ((K13.out.far (p := ⟨w.heap.size, 0, none⟩) (by have := HSZ.out; show _ ≠ _; simp only; omega) (.int .u32 h.W)).far (p := ⟨w.heap.size, 1, none⟩) (by have := HSZ.out; show _ ≠ _; simp only; omega) (.int .i64 h.R)).far (p := ⟨w.heap.size, 2, none⟩) (by have := HSZ.out; show _ ≠ _; simp only; omega) (.int .u32 h.T), ((HM.out.setBlk K9.out 0 (.int .u32 h.W)).setBlk (K9.out.set_ 0 (.int .u32 h.W)) 1 (.int .i64 h.R)).setBlk ((K9.out.set_ 0 (.int .u32 h.W)).set_ 1 (.int .i64 h.R)) 2 (.int .u32 h.T), bset (p := ⟨w.heap.size, 2, none⟩) (bset (p := ⟨w.heap.size, 1, none⟩) (bset (p := ⟨w.heap.size, 0, none⟩) HB.out (Nat.le_refl _) (.int .u32 h.W)) (Nat.le_refl _) (.int .i64 h.R)) (Nat.le_refl _) (.int .u32 h.T)⟩
                · have c0' : (hcc != 0) = true := by simpa using c0
                  obtain ⟨hf, hgq⟩ := set_code g idv rv tm 2147483648 HSET.out c0
                  have HGQ := Lib.hid hgq
                  subst hf
                  rw [hgq] at e0 e1 e2 tlt
                  clear c0 hgq
                  go_wp2_with fail
                  go_meet
                  exact ⟨g, HGK.out, HP1.out, HGS.out.1, ((K9.out.set_ 0 (.int .u32 g.W)).set_ 1 (.int .i64 g.R)).set_ 2 (.int .u32 g.T), ((K13.out.far (p := ⟨w.heap.size, 0, none⟩) (by have := HSZ.out; show _ ≠ _; simp only; omega) (.int .u32 g.W)).far (p := ⟨w.heap.size, 1, none⟩) (by have := HSZ.out; show _ ≠ _; simp only; omega) (.int .i64 g.R)).far (p := ⟨w.heap.size, 2, none⟩) (by have := HSZ.out; show _ ≠ _; simp only; omega) (.int .u32 g.T), ((HM.out.setBlk K9.out 0 (.int .u32 g.W)).setBlk (K9.out.set_ 0 (.int .u32 g.W)) 1 (.int .i64 g.R)).setBlk ((K9.out.set_ 0 (.int .u32 g.W)).set_ 1 (.int .i64 g.R)) 2 (.int .u32 g.T), bset (p := ⟨w.heap.size, 2, none⟩) (bset (p := ⟨w.heap.size, 1, none⟩) (bset (p := ⟨w.heap.size, 0, none⟩) HB.out (Nat.le_refl _) (.int .u32 g.W)) (Nat.le_refl _) (.int .i64 g.R)) (Nat.le_refl _) (.int .u32 g.T)⟩
            ·
              go_simp
              have KA22 := Lib.hid (show Blk (wc.alloc (.cells #[.int .u32 0, .int .i64 0, .int .u32 0] 122)).drew (wc.heap.size) 122 #[.int .u32 0, .int .i64 0, .int .u32 0] from Blk.new wc.drew 122 #[.int .u32 0, .int .i64 0, .int .u32 0])
              have HL22 := Lib.hid (show wc.heap.size ≤ wc.heap.size from HBW.out.size)
              have hbA : Below wc.drew.heap.size wc.drew ((wc.alloc (.cells #[.int .u32 0, .int .i64 0, .int .u32 0] 122)).drew) := bal (bre wc.drew) (.cells #[.int .u32 0, .int .i64 0, .int .u32 0] 122)
              replace HBW := Lib.hid (bstep HBW.out hbA)
              clear hbA
              refine hK.out _ _ ?_ (fun hHeld => ?_)
              · (try dsimp only)
                exact ⟨(K9.out.belowS HBW.out).cellV (i := 0) rfl, (K9.out.belowS HBW.out).cellV (i := 1) rfl, (K9.out.belowS HBW.out).cellV (i := 2) rfl, (K13.out.belowS HBW.out).cellV (i := 0) rfl, (K13.out.belowS HBW.out).cellV (i := 1) rfl, ((HBW.out.cell (p := ⟨bi, oi + k, none⟩) CI.out.1).trans CI.out.2), ((HBW.out.cell (p := ⟨br, oR + k, none⟩) CR.out.1).trans CR.out.2), ((HBW.out.cell (p := ⟨bt, oT + k, none⟩) CT.out.1).trans CT.out.2)⟩
              clear hK K
              refine wpAnyH_ready (rs := [8]) (by kernel_rfl) (by simp) ?_
              refine AllReadyH.cons rfl (fun K hK => ?_) AllReadyH.nil
              go_simp
              refine (id37_any nid _ (by omega)).mono ?_
              rintro e wc8 ⟨rfl, hbA⟩
              rw [HIDV.out]
              replace HBW := Lib.hid (bstep HBW.out hbA)
              replace KA22 := Lib.hid (KA22.out.belowS hbA)
              clear hbA
              go_simp
              refine hK.out _ _ ?_ (fun hHeld => ?_)
              · (try dsimp only)
                exact ⟨(K9.out.belowS HBW.out).cellV (i := 0) rfl, (K9.out.belowS HBW.out).cellV (i := 1) rfl, (K9.out.belowS HBW.out).cellV (i := 2) rfl, (K13.out.belowS HBW.out).cellV (i := 0) rfl, (K13.out.belowS HBW.out).cellV (i := 1) rfl, ((HBW.out.cell (p := ⟨bi, oi + k, none⟩) CI.out.1).trans CI.out.2), ((HBW.out.cell (p := ⟨br, oR + k, none⟩) CR.out.1).trans CR.out.2), ((HBW.out.cell (p := ⟨bt, oT + k, none⟩) CT.out.1).trans CT.out.2)⟩
              clear hK K
              refine wpAnyH_ready (rs := [17]) (by kernel_rfl) (by simp) ?_
              refine AllReadyH.cons rfl (fun K hK => ?_) AllReadyH.nil
              go_simp
              have hset := set37m_any g HGK.out idv rv tm 2147483648 HIDB.out (HM.out.below HBW.out)
              rw [HSET.out] at hset
              refine hset.mono ?_
              clear hset
              rintro e wc17 ⟨rfl, hbA⟩
              replace HBW := Lib.hid (bstep HBW.out hbA)
              replace KA22 := Lib.hid (KA22.out.belowS hbA)
              clear hbA
              go_simp
              refine hK.out _ _ ?_ (fun hHeld => ?_)
              · (try dsimp only)
                exact ⟨(K9.out.belowS HBW.out).cellV (i := 0) rfl, (K9.out.belowS HBW.out).cellV (i := 1) rfl, (K9.out.belowS HBW.out).cellV (i := 2) rfl, (K13.out.belowS HBW.out).cellV (i := 0) rfl, (K13.out.belowS HBW.out).cellV (i := 1) rfl, ((HBW.out.cell (p := ⟨bi, oi + k, none⟩) CI.out.1).trans CI.out.2), ((HBW.out.cell (p := ⟨br, oR + k, none⟩) CR.out.1).trans CR.out.2), ((HBW.out.cell (p := ⟨bt, oT + k, none⟩) CT.out.1).trans CT.out.2)⟩
              clear hK K
              refine Tr.take_at 18 63 (.tuple #[.agg #[.int .u32 h.W, .int .i64 h.R, .int .u32 h.T], .bool hbb, .int .i64 hcc]) rfl rfl (by kernel_rfl) (by kernel_rfl) (by kernel_rfl) (fun _ _ _ h => h) (Or.inl ⟨by rfl, ?_⟩) (by assumption) ?_
              · intro W0 hSw
                (try dsimp only at hSw)
                go_simp
              simp only [List.set_cons_zero, List.set_cons_succ]
              refine Tr.take_at 19 82 (.agg #[.int .u32 h.W, .int .i64 h.R, .int .u32 h.T]) rfl rfl (by kernel_rfl) (by kernel_rfl) (by kernel_rfl) (fun _ _ _ h => h) (Or.inl ⟨by rfl, ?_⟩) (by assumption) ?_
              · intro W0 hSw
                (try dsimp only at hSw)
                go_simp
              simp only [List.set_cons_zero, List.set_cons_succ]
              refine Tr.take_at 20 83 (.bool hbb) rfl rfl (by kernel_rfl) (by kernel_rfl) (by kernel_rfl) (fun _ _ _ h => h) (Or.inl ⟨by rfl, ?_⟩) (by assumption) ?_
              · intro W0 hSw
                (try dsimp only at hSw)
                go_simp
              simp only [List.set_cons_zero, List.set_cons_succ]
              refine Tr.take_at 21 84 (.int .i64 hcc) rfl rfl (by kernel_rfl) (by kernel_rfl) (by kernel_rfl) (fun _ _ _ h => h) (Or.inl ⟨by rfl, ?_⟩) (by assumption) ?_
              · intro W0 hSw
                (try dsimp only at hSw)
                go_simp
              simp only [List.set_cons_zero, List.set_cons_succ]
              refine wpAnyH_ready (rs := [23]) (by kernel_rfl) (by simp) ?_
              refine AllReadyH.cons rfl (fun K hK => ?_) AllReadyH.nil
              refine Tr.wanted_plain rfl ?_
              refine store_mid0 rfl 122 _ _ rfl (wc.heap.size) 0 #[.int .u32 h.W, .int .i64 h.R, .int .u32 h.T] (by rfl) (by rfl) (by have h := there_blk KA22.out; exact h) Tryz.sizeFo (by simp [Value.oneCell']) ?_
              have xK := blk_puts3 (.int .u32 h.W) (.int .i64 h.R) (.int .u32 h.T) KA22.out
              have xB := bsets HBW.out HL22.out (#[.int .u32 h.W, .int .i64 h.R, .int .u32 h.T] : Array Value).toList 0
              obtain ⟨wS23, hwS⟩ : ∃ wS, World.setCells wc17 (wc.heap.size) 0 (#[.int .u32 h.W, .int .i64 h.R, .int .u32 h.T] : Array Value).toList = wS := ⟨_, rfl⟩
              rw [hwS] at xK xB ⊢
              replace HBW := Lib.hid xB
              replace KA22 := Lib.hid xK
              clear hwS xK xB
              refine hK.out _ _ ?_ (fun hHeld => ?_)
              · (try dsimp only)
                exact ⟨(K9.out.belowS HBW.out).cellV (i := 0) rfl, (K9.out.belowS HBW.out).cellV (i := 1) rfl, (K9.out.belowS HBW.out).cellV (i := 2) rfl, (K13.out.belowS HBW.out).cellV (i := 0) rfl, (K13.out.belowS HBW.out).cellV (i := 1) rfl, ((HBW.out.cell (p := ⟨bi, oi + k, none⟩) CI.out.1).trans CI.out.2), ((HBW.out.cell (p := ⟨br, oR + k, none⟩) CR.out.1).trans CR.out.2), ((HBW.out.cell (p := ⟨bt, oT + k, none⟩) CT.out.1).trans CT.out.2)⟩
              clear hK K
              refine Tr.take_at 24 17 (.bool hbb) rfl rfl (by kernel_rfl) (by kernel_rfl) (by kernel_rfl) (fun _ _ _ h => h) (Or.inl ⟨by rfl, ?_⟩) (by assumption) ?_
              · intro W0 hSw
                (try dsimp only at hSw)
                go_simp
              simp only [List.set_cons_zero, List.set_cons_succ]
              refine Tr.take_at 25 18 (.int .i64 hcc) rfl rfl (by kernel_rfl) (by kernel_rfl) (by kernel_rfl) (fun _ _ _ h => h) (Or.inl ⟨by rfl, ?_⟩) (by assumption) ?_
              · intro W0 hSw
                (try dsimp only at hSw)
                go_simp
              simp only [List.set_cons_zero, List.set_cons_succ]
              refine wpAnyH_done (by kernel_rfl) ?_ _
              refine NoPanic.normal ?_
              have xK9 := K9.out.belowS HBW.out
              have xK13 := K13.out.belowS HBW.out
              have xM := HM.out.below HBW.out
              have xB := bstep HB.out HBW.out
              have K16 := Lib.hid KA22.out
              replace K9 := Lib.hid xK9
              replace K13 := Lib.hid xK13
              replace HM := Lib.hid xM
              replace HB := Lib.hid xB
              have HTI := Lib.hid (set_time g idv rv tm 2147483648 HSET.out HP1.out)
              have HSH := Lib.hid (set_shows g idv rv tm 2147483648 HSET.out HGS.out.1)
              have HOKS := Lib.hid (set_ok g idv rv tm 2147483648 HSET.out HGK.out HIDB.out HTMB.out (by decide))
              clear xK9 xK13 xM xB
              have d0 := K9.out.cellV (i := 0) (v := .int .u32 g.W) rfl
              have d1 := K9.out.cellV (i := 1) (v := .int .i64 g.R) rfl
              have d2 := K9.out.cellV (i := 2) (v := .int .u32 g.T) rfl
              have df0 := K9.out.frozen 0
              have df1 := K9.out.frozen 1
              have df2 := K9.out.frozen 2
              have dl := K9.out.lt
              have e0 := K16.out.cellV (i := 0) (v := .int .u32 h.W) rfl
              have e1 := K16.out.cellV (i := 1) (v := .int .i64 h.R) rfl
              have e2 := K16.out.cellV (i := 2) (v := .int .u32 h.T) rfl
              have tlt : ¬ h.T < g.T := by have := HTI.out; omega
              by_cases c0 : hcc = 0
              · have c0' : (hcc != 0) = false := by simpa using c0
                clear c0
                go_wp2_with fail
                go_meet
                exact ⟨h, HOKS.out, HTI.out.2, HSH.out, ((K9.out.set_ 0 (.int .u32 h.W)).set_ 1 (.int .i64 h.R)).set_ 2 (.int .u32 h.T), ((K13.out.far (p := ⟨w.heap.size, 0, none⟩) (by have := HSZ.out; show _ ≠ _; simp only; omega) (.int .u32 h.W)).far (p := ⟨w.heap.size, 1, none⟩) (by have := HSZ.out; show _ ≠ _; simp only; omega) (.int .i64 h.R)).far (p := ⟨w.heap.size, 2, none⟩) (by have := HSZ.out; show _ ≠ _; simp only; omega) (.int .u32 h.T), ((HM.out.setBlk K9.out 0 (.int .u32 h.W)).setBlk (K9.out.set_ 0 (.int .u32 h.W)) 1 (.int .i64 h.R)).setBlk ((K9.out.set_ 0 (.int .u32 h.W)).set_ 1 (.int .i64 h.R)) 2 (.int .u32 h.T), bset (p := ⟨w.heap.size, 2, none⟩) (bset (p := ⟨w.heap.size, 1, none⟩) (bset (p := ⟨w.heap.size, 0, none⟩) HB.out (Nat.le_refl _) (.int .u32 h.W)) (Nat.le_refl _) (.int .i64 h.R)) (Nat.le_refl _) (.int .u32 h.T)⟩
              · have c0' : (hcc != 0) = true := by simpa using c0
                obtain ⟨hf, hgq⟩ := set_code g idv rv tm 2147483648 HSET.out c0
                have HGQ := Lib.hid hgq
                subst hf
                rw [hgq] at e0 e1 e2 tlt
                clear c0 hgq
                go_wp2_with fail
                go_meet
                exact ⟨g, HGK.out, HP1.out, HGS.out.1, ((K9.out.set_ 0 (.int .u32 g.W)).set_ 1 (.int .i64 g.R)).set_ 2 (.int .u32 g.T), ((K13.out.far (p := ⟨w.heap.size, 0, none⟩) (by have := HSZ.out; show _ ≠ _; simp only; omega) (.int .u32 g.W)).far (p := ⟨w.heap.size, 1, none⟩) (by have := HSZ.out; show _ ≠ _; simp only; omega) (.int .i64 g.R)).far (p := ⟨w.heap.size, 2, none⟩) (by have := HSZ.out; show _ ≠ _; simp only; omega) (.int .u32 g.T), ((HM.out.setBlk K9.out 0 (.int .u32 g.W)).setBlk (K9.out.set_ 0 (.int .u32 g.W)) 1 (.int .i64 g.R)).setBlk ((K9.out.set_ 0 (.int .u32 g.W)).set_ 1 (.int .i64 g.R)) 2 (.int .u32 g.T), bset (p := ⟨w.heap.size, 2, none⟩) (bset (p := ⟨w.heap.size, 1, none⟩) (bset (p := ⟨w.heap.size, 0, none⟩) HB.out (Nat.le_refl _) (.int .u32 g.W)) (Nat.le_refl _) (.int .i64 g.R)) (Nat.le_refl _) (.int .u32 g.T)⟩
      obtain ⟨h, ho, hT, hs, hk9, hk13, hm, hbw⟩ := hcut
      replace K9 := Lib.hid hk9
      replace K13 := Lib.hid hk13
      replace HM := Lib.hid hm
      replace HB := Lib.hid hbw
      have HOH := Lib.hid ho
      have HTH := Lib.hid hT
      have HSH := Lib.hid hs
      clear hk9 hk13 hm hbw ho hT hs
      have a0 := K9.out.cellV (i := 0) (v := .int .u32 h.W) rfl
      have c0 := K13.out.cellV (i := 0) (v := .slice Av nv cv) rfl
      have c1 := K13.out.cellV (i := 1) (v := .map mv) rfl
      by_cases h0 : h.W = 0
      · have h0' : (h.W != 0) = false := by simpa using h0
        clear h0
        go_wp2_with fail
        go_roundw
        case rel => exact ⟨k + 1, h, by go_num, by omega, HOH.out, HTH.out, K9.out, HB.out⟩
        case measure => simp [intOf]; omega
      · have h0' : (h.W != 0) = true := by simpa using h0
        have HS1 := Lib.hid (show (hasN (nodesW l) h.W && vw (nodesW l) (bxS 8 8 l) h.W) = true from HSH.out.resolve_left h0)
        clear h0
        go_wp2_with fail
        refine (HM.out.viewable h.W HOH.out.1).mono ?_
        rintro e w5 ⟨rfl, hb5⟩
        rw [HS1.out]
        replace K9 := Lib.hid (K9.out.belowS hb5)
        replace HB := Lib.hid (bstep HB.out hb5)
        clear hb5 a0 c0 c1
        go_wp2_with fail
        go_roundw
        case rel => exact ⟨k + 1, h, by go_num, by omega, HOH.out, HTH.out, K9.out, HB.out⟩
        case measure => simp [intOf]; omega
    · obtain rfl : k = n := by omega
      have k2 : ¬ (k : Int) < (k : Int) := by omega
      go_wp2_with fail
      refine (awake37_any _).mono ?_
      rintro e w2 ⟨rfl, hb2⟩
      have HB2 := Lib.hid (bstep HB.out hb2)
      clear hb2
      go_wp2_with fail
      go_ret
      exact ⟨rfl, HB2.out⟩
end Go.Proofs.YtbkkecijcijhdaaGreat
end
