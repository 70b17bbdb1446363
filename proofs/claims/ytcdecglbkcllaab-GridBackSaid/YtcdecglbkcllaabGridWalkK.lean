/-
  The walk of the document's Crop.
-/
import Derived.Test.YtcdecglbkcllaabGridWalkJ
namespace Go.Proofs.Ytcdecglbkcllaab
open Go.RowKit

/-- what is cropped, as far as its first k pixels; out else. -/
def crK (W H : Nat) (px : List Int) (X Y : Int) (cw N : Nat) (out : Int) (k : Nat) : List Int := (List.range N).map fun i => if i < k then cpx W H px X Y cw out i else out
theorem crK_zero (W H : Nat) (px : List Int) (X Y : Int) (cw N : Nat) (out : Int) : crK W H px X Y cw N out 0 = List.replicate N out := by
  apply List.ext_getElem <;> simp [crK]
theorem crK_all (W H : Nat) (px : List Int) (X Y : Int) (cw ch : Nat) (out : Int) : crK W H px X Y cw (cw * ch) out (cw * ch) = cropL W H px X Y cw ch out := by
  unfold crK cropL
  apply List.map_congr_left
  intro i hi
  simp at hi
  rw [if_pos hi]
theorem crK_set {W H : Nat} {px : List Int} {X Y : Int} {cw N : Nat} {out : Int} {k : Nat} {p : Int} (hp : cpx W H px X Y cw out k = p) : crK W H px X Y cw N out (k + 1) = (crK W H px X Y cw N out k).set k p := by
  apply List.ext_getElem
  · simp [crK]
  · intro i h1 h2
    simp only [crK, List.getElem_map, List.getElem_range, List.getElem_set]
    by_cases hik : k = i
    · subst hik
      rw [if_pos (by omega), if_pos rfl, hp]
    · rw [if_neg hik]
      by_cases h : i < k
      · rw [if_pos (by omega), if_pos h]
      · rw [if_neg (by omega), if_neg h]
theorem crK_out {W H : Nat} {px : List Int} {X Y : Int} {cw N : Nat} {out : Int} {k : Nat} (hp : cpx W H px X Y cw out k = out) : crK W H px X Y cw N out (k + 1) = crK W H px X Y cw N out k := by
  unfold crK
  apply List.map_congr_left
  intro i hi
  by_cases hik : i = k
  · subst hik
    rw [if_pos (by omega), if_neg (by omega), hp]
  · by_cases h : i < k
    · rw [if_pos (by omega), if_pos h]
    · rw [if_neg (by omega), if_neg h]

structure CInv (W H : Nat) (px : List Int) (X Y : Int) (cw ch N : Nat) (out : Int) (A : Option Addr) (n c g gp c1 : Nat) (w : World) (j : Nat) (wr : World) : Prop where
  bg : Blk wr w.heap.size 36 #[.int .i64 W, .int .i64 H, .slice A n c]
  br : Blk wr (w.heap.size + 1) 43 #[.int .i64 X, .int .i64 Y, .int .i64 cw, .int .i64 ch]
  bz : Blk wr (w.heap.size + 1 + 1) 36 #[.int .i64 0, .int .i64 0, .slice none 0 0]
  bc : Blk wr g 36 #[.int .i64 cw, .int .i64 ch, .slice (some ⟨gp, 0, none⟩) N c1]
  own : wr.ownsRow (w.heap.size + 1 + 1 + 1) 22 1 (.slice (some ⟨gp, 0, none⟩) N c1) N (U8 (crK W H px X Y cw N out j))
  bb : Below w.heap.size w wr
section
variable {W H : Nat} {px : List Int} {X Y : Int} {cw ch N : Nat} {out : Int} {A : Option Addr} {n c g gp c1 : Nat} {w wr w' : World} {j : Nat}
theorem CInv.below (h : CInv W H px X Y cw ch N out A n c g gp c1 w j wr) (hb : Below wr.heap.size wr w') : CInv W H px X Y cw ch N out A n c g gp c1 w j w' :=
  ⟨h.bg.belowS hb, h.br.belowS hb, h.bz.belowS hb, h.bc.belowS hb, ownsRow_below h.own hb, bstep h.bb hb⟩
theorem CInv.cells (h : CInv W H px X Y cw ch N out A n c g gp c1 w j wr) : wr.cell? ⟨w.heap.size, 0, none⟩ = some (.int .i64 W) ∧ wr.cell? ⟨w.heap.size, 1, none⟩ = some (.int .i64 H) ∧ wr.cell? ⟨w.heap.size, 2, none⟩ = some (.slice A n c) ∧ wr.cell? ⟨w.heap.size + 1, 0, none⟩ = some (.int .i64 X) ∧ wr.cell? ⟨w.heap.size + 1, 1, none⟩ = some (.int .i64 Y) ∧ wr.cell? ⟨w.heap.size + 1, 2, none⟩ = some (.int .i64 cw) ∧ wr.cell? ⟨g, 2, none⟩ = some (.slice (some ⟨gp, 0, none⟩) N c1) :=
  ⟨h.bg.cellV rfl, h.bg.cellV rfl, h.bg.cellV rfl, h.br.cellV rfl, h.br.cellV rfl, h.br.cellV rfl, h.bc.cellV rfl⟩
theorem CInv.out_ (h : CInv W H px X Y cw ch N out A n c g gp c1 w j wr) (hp : cpx W H px X Y cw out j = out) : CInv W H px X Y cw ch N out A n c g gp c1 w (j + 1) wr :=
  ⟨h.bg, h.br, h.bz, h.bc, by rw [crK_out hp]; exact h.own, h.bb⟩
theorem CInv.set_ (h : CInv W H px X Y cw ch N out A n c g gp c1 w j wr) {p : Int} (hp : cpx W H px X Y cw out j = p) (h1 : w.heap.size + 1 + 1 + 1 ≤ gp) (h2 : gp < g) : CInv W H px X Y cw ch N out A n c g gp c1 w (j + 1) (wr.setCell ⟨gp, j, none⟩ (.int .u8 p)) :=
  ⟨h.bg.far (by dsimp only; omega) _, h.br.far (by dsimp only; omega) _, h.bz.far (by dsimp only; omega) _, h.bc.far (by dsimp only; omega) _, by
    have e : (U8 (crK W H px X Y cw N out j)).set j (.int .u8 p) = U8 (crK W H px X Y cw N out (j + 1)) := by rw [crK_set hp]; simp [U8, List.map_set]
    rw [← e]
    exact (h.own.stored j _).1, bset h.bb (by dsimp only; omega) _⟩
end

set_option maxRecDepth 100000 in
set_option maxHeartbeats 4000000 in
theorem rcrop_any (W H : Nat) (px : List Int) (X Y : Int) (cw ch : Nat) (out : Int) (A : Option Addr) (n c : Nat) (w : World) (hn : n = W * H) (hW : W ≤ 128) (hH : H ≤ 128) (hr : Rd w A n (U8 px))
    (hX : -1048576 ≤ X ∧ X ≤ 1048576) (hY : -1048576 ≤ Y ∧ Y ≤ 1048576) (hcw : 1 ≤ cw ∧ cw ≤ 128) (hch : 1 ≤ ch ∧ ch ≤ 128) :
    Calls Try.prog 19 #[.agg #[.int .i64 W, .int .i64 H, .slice A n c], .agg #[.int .i64 X, .int .i64 Y, .int .i64 cw, .int .i64 ch], .int .u8 out] w fun e w' => ∃ A' c', e = .returned (.agg #[.int .i64 cw, .int .i64 ch, .slice A' (cw * ch) c']) ∧ Rd w' A' (cw * ch) (U8 (cropL W H px X Y cw ch out)) ∧ Below w.heap.size w w' := by
  have hnm := mul_le_128 hcw.2 hch.2
  have HR := Lib.hid hr
  have HN := Lib.hid hn
  clear hr hn
  go_enter Try.func19, Try.ntmps19
  go_wp2_with (go_at_call 16; refine (rnew_any _ _ _ _ (by omega) (by omega)).mono ?_; rintro e w1 ⟨A1, c1, rfl, r1, b1⟩; have R1 := Lib.hid r1; have B1 := Lib.hid b1; clear r1 b1)
  obtain ⟨gp, rfl⟩ : ∃ gp, A1 = some ⟨gp, 0, none⟩ := by
    rcases R1.out.2 with ⟨e, e2⟩ | ⟨g, _, _, e, _⟩
    · have := Nat.mul_pos hcw.1 hch.1
      omega
    · injection e with e _ _
      exact ⟨g, e⟩
  have gpl : gp < w1.heap.size := (R1.out.lt gp rfl).2
  have gpg : w.heap.size + 1 + 1 + 1 ≤ gp := by have := (R1.out.lt gp rfl).1; simpa using this
  have hI : CInv W H px X Y cw ch (cw * ch) out A n c w1.heap.size gp c1 w 0 (w1.alloc (.cells #[.int .i64 cw, .int .i64 ch, .slice (some ⟨gp, 0, none⟩) (cw * ch) c1] 36)) := by
    have b1 := B1.out
    have e1 := Blk.new (w.alloc (.cells #[.int .i64 W, .int .i64 H, .slice A n c] 36)) 43 #[.int .i64 X, .int .i64 Y, .int .i64 cw, .int .i64 ch]
    have e2 := Blk.new ((w.alloc (.cells #[.int .i64 W, .int .i64 H, .slice A n c] 36)).alloc (.cells #[.int .i64 X, .int .i64 Y, .int .i64 cw, .int .i64 ch] 43)) 36 #[.int .i64 0, .int .i64 0, .slice none 0 0]
    simp only [World.size_alloc] at e1 e2
    have r1 := R1.out
    rw [← crK_zero W H px X Y cw (cw * ch) out] at r1
    simp only [World.size_alloc] at r1
    exact ⟨((((Blk.new w _ _).alloc _).alloc _).belowS b1).alloc _, ((e1.alloc _).belowS b1).alloc _, (e2.belowS b1).alloc _, Blk.new w1 _ _, r1.alloc _, bal (bstep (bal (bal (bal (bre w) _) _) _) b1) _⟩
  obtain ⟨X0, hX0⟩ : ∃ X0, w1.alloc (.cells #[.int .i64 cw, .int .i64 ch, .slice (some ⟨gp, 0, none⟩) (cw * ch) c1] 36) = X0 := ⟨_, rfl⟩
  obtain ⟨g, hg⟩ : ∃ g, w1.heap.size = g := ⟨_, rfl⟩
  rw [hX0] at hI ⊢
  rw [hg] at hI gpl ⊢
  have HI := Lib.hid hI
  clear hI R1 B1 hX0 hg
  obtain ⟨N, hNN⟩ : ∃ N, cw * ch = N := ⟨_, rfl⟩
  have HNN := Lib.hid hNN
  rw [hNN] at HI hnm
  clear hNN
  go_loopw [8] (fun i wr => ∃ k : Nat, i = .int .i64 k ∧ k ≤ ch ∧ CInv W H px X Y cw ch N out A n c g gp c1 w (k * cw) wr) (fun i _ => ch - (intOf i).toNat)
  case atStart => exact ⟨0, rfl, by omega, by rw [Nat.zero_mul]; exact HI.out⟩
  case round =>
    obtain ⟨k, rfl, hk, hi⟩ := hrel
    clear HI
    have I := Lib.hid hi
    have r3 := hi.br.cellV (i := 3) (v := .int .i64 ch) rfl
    clear hi
    by_cases hlt : k < ch
    · have k1 : (k : Int) < (ch : Int) := by omega
      have hkc : k * cw + cw ≤ N := by
        have h1 : (k + 1) * cw ≤ ch * cw := Nat.mul_le_mul_right cw (by omega)
        rw [Nat.add_mul, Nat.one_mul, Nat.mul_comm ch cw, HNN.out] at h1
        exact h1
      have kk : (k : Int) * (cw : Int) = ((k * cw : Nat) : Int) := (Int.natCast_mul k cw).symm
      obtain ⟨kc, hkcE⟩ : ∃ kc, k * cw = kc := ⟨_, rfl⟩
      have HKC := Lib.hid hkcE
      rw [hkcE] at I kk hkc
      clear hkcE
      go_wp2_with fail
      clear r3
      go_loopw [9] (fun i wi => ∃ m : Nat, i = .int .i64 m ∧ m ≤ cw ∧ CInv W H px X Y cw ch N out A n c g gp c1 w (kc + m) wi) (fun i _ => cw - (intOf i).toNat)
      case atStart => exact ⟨0, rfl, by omega, I.out⟩
      case round =>
        obtain ⟨m, rfl, hm, hi⟩ := hrel
        have I' := Lib.hid hi
        have r2 := hi.br.cellV (i := 2) (v := .int .i64 cw) rfl
        have r0 := hi.br.cellV (i := 0) (v := .int .i64 X) rfl
        have r1 := hi.br.cellV (i := 1) (v := .int .i64 Y) rfl
        have g0 := hi.bg.cellV (i := 0) (v := .int .i64 W) rfl
        have g1 := hi.bg.cellV (i := 1) (v := .int .i64 H) rfl
        have g2 := hi.bg.cellV (i := 2) (v := .slice A n c) rfl
        have z0 := hi.bg.lt
        have z1 := hi.br.lt
        have z3 := hi.bc.lt
        clear hi
        by_cases hltm : m < cw
        · have m1 : (m : Int) < (cw : Int) := by omega
          have hmod : (kc + m) % cw = m := by rw [← HKC.out, Nat.mul_comm, Nat.mul_add_mod, Nat.mod_eq_of_lt hltm]
          have hdiv : (kc + m) / cw = k := by rw [← HKC.out, Nat.mul_comm, Nat.mul_add_div (by omega), Nat.div_eq_of_lt hltm, Nat.add_zero]
          have s1 : IntKind.i64.wrap (X + m) = X + m := IntWalk.i64_in _ (by omega)
          have s2 : IntKind.i64.wrap (Y + k) = Y + k := IntWalk.i64_in _ (by omega)
          cases hh : hasB W H (X + m) (Y + k)
          · have hval : cpx W H px X Y cw out (kc + m) = out := by unfold cpx; rw [hdiv, hmod, hh]; rfl
            have HV := Lib.hid hval
            clear hval hmod hdiv
            go_wp2_with (go_at_call 32; refine (rin_any _ _ _ _ _ _ _ _).mono ?_; rintro e w' ⟨rfl, rfl⟩)
            go_roundw
            case rel => exact ⟨m + 1, by go_num, by omega, (I'.out.out_ HV.out).below (bal (bre _) _)⟩
            case measure => simp [intOf]; omega
          · have hval : cpx W H px X Y cw out (kc + m) = gat W H px (X + m) (Y + k) := by unfold cpx; rw [hdiv, hmod, if_pos hh]
            have HV := Lib.hid hval
            clear hval hmod hdiv
            go_wp2_with (go_at_call 32; refine (rin_any _ _ _ _ _ _ _ _).mono ?_; rintro e w' ⟨rfl, rfl⟩)
            have hi2 := I'.out.below (bal (bre wr) (.cells #[.int .i64 W, .int .i64 H, .slice A n c] 36))
            have rr2 : Rd (wr.alloc (.cells #[.int .i64 W, .int .i64 H, .slice A n c] 36)) A n (U8 px) := HR.out.below hi2.bb
            obtain ⟨Z, hZ⟩ : ∃ Z, wr.alloc (.cells #[.int .i64 W, .int .i64 H, .slice A n c] 36) = Z := ⟨_, rfl⟩
            rw [hZ] at hi2 rr2 ⊢
            clear hZ r0 r1 r2 g0 g1 g2 z0 z1 z3
            obtain ⟨j, hj⟩ : ∃ j, kc + m = j := ⟨_, rfl⟩
            have hjN : j < N := by omega
            have HJ := Lib.hid hj
            rw [hj] at hi2 HV
            have jj : (kc : Int) + (m : Int) = (j : Int) := by omega
            have s3 : IntKind.i64.wrap ((k : Int) * (cw : Int)) = (kc : Int) := by rw [kk]; exact IntWalk.i64_in _ (by omega)
            have s4 : IntKind.i64.wrap ((kc : Int) + (m : Int)) = (j : Int) := by rw [jj]; exact IntWalk.i64_in _ (by omega)
            have j0 : (0 : Int) ≤ (j : Int) := by omega
            have j1 : (j : Int) < (N : Int) := by omega
            have I2 := Lib.hid hi2
            have RR := Lib.hid rr2
            obtain ⟨q0, q1, q2, q3, q4, q5, q6⟩ := hi2.cells
            obtain ⟨v0, hv0⟩ : ∃ v, (U8 (crK W H px X Y cw N out j))[j]? = some v := ⟨_, List.getElem?_eq_getElem (by have := hi2.own.1; omega)⟩
            have HV0 := Lib.hid hv0
            have y0 : w.heap.size ≠ gp := by omega
            have y1 : w.heap.size + 1 ≠ gp := by omega
            have y2 : g ≠ gp := by omega
            clear hi2 rr2 hj jj kk hv0 hltm hm
            go_region_held3 (fun w' => w'.cell? ⟨w.heap.size, 0, none⟩ = some (.int .i64 W) ∧ w'.cell? ⟨w.heap.size, 1, none⟩ = some (.int .i64 H) ∧ w'.cell? ⟨w.heap.size, 2, none⟩ = some (.slice A n c) ∧ w'.cell? ⟨w.heap.size + 1, 0, none⟩ = some (.int .i64 X) ∧ w'.cell? ⟨w.heap.size + 1, 1, none⟩ = some (.int .i64 Y) ∧ w'.cell? ⟨w.heap.size + 1, 2, none⟩ = some (.int .i64 cw) ∧ w'.cell? ⟨g, 2, none⟩ = some (.slice (some ⟨gp, 0, none⟩) N c1))
              (first | exact J3.out.cells | exact (J3.out.set_ HV.out gpg gpl).cells | go_keep)
              (first | (go_at_call 23; refine (rat_any W H px _ _ _ _ _ _ HN.out hW hH (by exact RR.out.alike rfl)).mono ?_; rintro e w3 ⟨rfl, hb3⟩; have J3 := Lib.hid (CInv.below I2.out (undrewX hb3 rfl rfl rfl rfl)); have cp := (J3.out.own.cellAt j (by omega)).trans HV0.out; have fp := J3.out.own.frozenAt j; clear hb3))
            all_goals
              go_wp2_with fail
              go_roundw
              case rel => exact ⟨m + 1, by go_num, by omega, by rw [← Nat.add_assoc, HJ.out]; exact J3.out.set_ HV.out gpg gpl⟩
              case measure => simp [intOf]; omega
        · obtain rfl : m = cw := by omega
          have e : kc + m = (k + 1) * m := by rw [Nat.add_mul, Nat.one_mul, HKC.out]
          have HE := Lib.hid e
          clear e
          go_wp2_with fail
          go_roundw
          case rel => exact ⟨k + 1, by go_num, by omega, by rw [← HE.out]; exact I'.out⟩
          case measure => simp [intOf]; omega
    · obtain rfl : k = ch := by omega
      have e : k * cw = N := by rw [Nat.mul_comm]; exact HNN.out
      rw [e] at I
      have hi := I.out
      have c0 := hi.bc.cellV (i := 0) (v := .int .i64 cw) rfl
      have cc1 := hi.bc.cellV (i := 1) (v := .int .i64 k) rfl
      have cc2 := hi.bc.cellV (i := 2) (v := .slice (some ⟨gp, 0, none⟩) N c1) rfl
      have d0 := hi.bz.cellV (i := 0) (v := .int .i64 0) rfl
      have d1 := hi.bz.cellV (i := 1) (v := .int .i64 0) rfl
      have d2 := hi.bz.cellV (i := 2) (v := .slice none 0 0) rfl
      have f0 := hi.bz.frozen 0
      have f1 := hi.bz.frozen 1
      have f2 := hi.bz.frozen 2
      clear hi e
      have hne : ∀ a : Addr, some (⟨gp, 0, none⟩ : Addr) = some a → a.block ≠ w.heap.size + 1 + 1 := fun a ea => by cases ea; dsimp only; omega
      go_wp2_with fail
      have hfin := Rd.of_own I.out.own
      rw [← HNN.out, crK_all] at hfin
      rw [HNN.out] at hfin ⊢
      refine bodyPost_ret (v := .agg #[.int .i64 cw, .int .i64 k, .slice (some ⟨gp, 0, none⟩) N c1]) (by simp [results, Try.results19, go_sem, d0, d1, d2]) rfl ⟨some ⟨gp, 0, none⟩, c1, rfl, ?_, ?_⟩
      · exact ((hfin.far (p := ⟨w.heap.size + 1 + 1, 0, none⟩) hne _).far (p := ⟨w.heap.size + 1 + 1, 1, none⟩) hne _).far (p := ⟨w.heap.size + 1 + 1, 2, none⟩) hne _
      · exact bset (p := ⟨_, _, _⟩) (bset (p := ⟨_, _, _⟩) (bset (p := ⟨_, _, _⟩) I.out.bb (by dsimp only; omega) _) (by dsimp only; omega) _) (by dsimp only; omega) _

end Go.Proofs.Ytcdecglbkcllaab
