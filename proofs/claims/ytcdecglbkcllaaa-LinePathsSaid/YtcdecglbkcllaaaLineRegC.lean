/-
  The walk of line.Region: its loop over the points, each with a range over the places of a line.
-/
import Derived.Test.YtcdecglbkcllaaaLineRegM
import Derived.Test.YtcdecglbkcllaaaBandAny
namespace Go.Proofs.Ytcdecglbkcllaaa
open Go.RowKit Go.Shelf Go.Lib Go.Sort
attribute [local go_sem] Oper.semAt_some
attribute [local go_sem] Ln.wide_fn

/-- the body of the loop; behind the line's steps. -/
noncomputable def rgBody : Code := inC (inC (sndC (fstC (sndC (sndC (sndC (sndC (sndC (Try.f24.body.getD .skip)))))))))
noncomputable def rgTail : Code := sndC (sndC (sndC (sndC (inC (fstC (sndC (sndC rgBody)))))))

/-- what Region's loop has in memory. -/
structure RegMem (V : World) (g5 : Nat) (P : List Ln.PtR) (vo : Value) (wr : World) : Prop where
  grown : V.grownBy wr (some g5)
  box : Blk wr g5 52 #[vo]
  own : wr.ownsRow V.heap.size 45 4 vo (joinAll P).length (rcs (joinAll P))
theorem RegMem.below {V wr wx : World} {g5 : Nat} {P : List Ln.PtR} {vo : Value} (h : RegMem V g5 P vo wr) (hb : Below wr.heap.size wr wx) : RegMem V g5 P vo wx :=
  ⟨grown_bel h.grown hb, h.box.belowS hb, ownsRow_below h.own hb⟩
theorem Marks.lts {B : Nat} {ds : List Deferred} {w : World} (h : Marks B ds w) : ∀ Ds : List Nat, ds = Ds.map markD → ∀ D ∈ Ds, D < w.heap.size := by
  obtain ⟨Es, h1, h2, h3⟩ := h
  intro Ds hd D hD
  have e : Ds = Es := by
    have := hd.symm.trans h1
    refine List.map_inj_right (f := markD) (fun a b hab => ?_) |>.1 this
    simpa [markD] using hab
  subst e
  exact (Array.getElem?_eq_some_iff.1 (h3 D hD).2).1
theorem Marks.ownFrom {B hi : Nat} {ds : List Deferred} {X Y : World} {row : Option Nat} (hlt : ∀ Ds : List Nat, ds = Ds.map markD → ∀ D ∈ Ds, D < hi) (h : Marks B ds X) (hg : X.grownBy Y row) (hr : ∀ g, row = some g → hi ≤ g) : Marks B ds Y := by
  obtain ⟨Ds, h1, h2, h3⟩ := h
  refine ⟨Ds, h1, h2, fun D hD => ⟨(h3 D hD).1, (hg.block D (Array.getElem?_eq_some_iff.1 (h3 D hD).2).1 (fun e => ?_)).trans (h3 D hD).2⟩⟩
  have a := hr D e.symm
  have b := hlt Ds h1 D hD
  omega
theorem ko_row {base e size n : Nat} {w w' : World} {v : Value} {xs : List Value} (ho : w.ownsRow base e size v n xs) (hg : w.grownBy w' v.ownBlock) : KeepsOthers w w' := by
  refine KeepsOthers.of_grownBy hg fun j o ej hj => ?_
  rcases ho.2 with ⟨e1, _⟩ | ⟨g, cap, cur, e1, _, hk, _⟩
  · rw [e1] at ej
    cases ej
  · rw [e1] at ej
    cases ej
    rw [hk] at hj
    cases hj
    rfl

set_option maxRecDepth 1000000 in
set_option maxHeartbeats 4000000 in
theorem reg_range (V : World) (g5 gp ga : Nat) (ax ay bx by' first : Int) (P : List Ln.PtR) (vo : Value) (ds : List Deferred) (w : World) (u0 u1 u2 u3 u4 u6 u11 u12 u13 u14 u15 u16 u17 u18 u19 u20 u21 u22 u23 u24 u25 u26 u27 u28 u29 u30 u31 u32 u33 u34 u35 u36 u37 u38 u39 u40 u41 u42 u43 u44 u45 u46 u47 u48 u49 u50 u51 u52 u53 u54 u55 u56 u57 u58 u59 u60 u61 u62 u63 u64 u65 u66 u67 u68 u69 u70 u71 u72 : Value) (Q : Exit → Act → World → Prop)
    (M : RegMem V g5 P vo w) (h5V : g5 < V.heap.size) (Ba : Blk w ga 23 #[.int .i64 ax, .int .i64 ay]) (Bp : Blk w gp 23 #[.int .i64 bx, .int .i64 by'])
    (h1 : Ln.rightB ax ay = true) (h2 : Ln.rightB bx by' = true) (hf : 0 ≤ first ∧ first ≤ 1) (hmk : Marks V.heap.size ds w) (hPl : P.length ≤ 70000) (hst : Ln.stpI ax ay bx by' ≤ 70000)
    (hQ : ∀ (vo' : Value) (ds' : List Deferred) (w' : World) (x12 x53 x54 x55 x56 x57 x58 x59 x60 x61 x62 x63 x64 x65 x66 x67 x68 x69 : Value), RegMem V g5 (P ++ Ln.ptsR ax ay bx by' first (Ln.stpI ax ay bx by' - first + 1).toNat) vo' w' → Marks V.heap.size ds' w' → Q .normal ⟨#[u0, u1, u2, u3, u4, .pointer (some ⟨g5, 0, none⟩), u6, .pointer (some ⟨gp, 0, none⟩), .pointer (some ⟨ga, 0, none⟩), .int .i64 first, .int .i64 (Ln.stpI ax ay bx by'), u11, x12, u13, u14, u15, u16, u17, u18, u19, u20, u21, u22, u23, u24, u25, u26, u27, u28, u29, u30, u31, u32, u33, u34, u35, u36, u37, u38, u39, u40, u41, u42, u43, u44, u45, u46, u47, u48, u49, u50, u51, u52, x53, x54, x55, x56, x57, x58, x59, x60, x61, x62, x63, x64, x65, x66, x67, x68, x69, u70, u71, u72], ds'⟩ w') :
    Code.wp Try.prog (fstC rgTail) (Exit.then (Code.wp Try.prog (sndC rgTail) Q) Q) ⟨#[u0, u1, u2, u3, u4, .pointer (some ⟨g5, 0, none⟩), u6, .pointer (some ⟨gp, 0, none⟩), .pointer (some ⟨ga, 0, none⟩), .int .i64 first, .int .i64 (Ln.stpI ax ay bx by'), u11, u12, u13, u14, u15, u16, u17, u18, u19, u20, u21, u22, u23, u24, u25, u26, u27, u28, u29, u30, u31, u32, u33, u34, u35, u36, u37, u38, u39, u40, u41, u42, u43, u44, u45, u46, u47, u48, u49, u50, u51, u52, u53, u54, u55, u56, u57, u58, u59, u60, u61, u62, u63, u64, u65, u66, u67, u68, u69, u70, u71, u72], ds⟩ w := by
  have hs := Ln.stpI_bd h1 h2
  have hVw := M.grown.size
  have a0 := Ba.cellV (i := 0) (v := .int .i64 ax) rfl
  have a1 := Ba.cellV (i := 1) (v := .int .i64 ay) rfl
  have p0 := Bp.cellV (i := 0) (v := .int .i64 bx) rfl
  have p1 := Bp.cellV (i := 1) (v := .int .i64 by') rfl
  have HM := Lib.hid M
  have HMK := Lib.hid hmk
  have HQ := Lib.hid hQ
  have H1 := Lib.hid h1
  have H2 := Lib.hid h2
  clear M Ba Bp hmk hQ h1 h2
  conv => arg 2; whnf
  conv => arg 3; arg 1; arg 2; whnf
  go_wp2_with (go_at_call 35; refine (Ln.walk_any _ _ _ _ _ _ _ H1.out H2.out).mono ?_; rintro e w3 ⟨gf, rfl, hG, hb3⟩; obtain ⟨bf, bt, ba, f, rfl, hrg, cf, ct, ca, hA⟩ := hG)
  have M1 := HM.out.below hb3
  have hmk1 := HMK.out.below hb3
  have hlt := hmk1.lts
  have hs3 := hb3.size
  have hown0 := HM.out.own
  have hat0 : ∀ g, vo.ownBlock = some g → g < w.heap.size ∨ w3.heap.size ≤ g := fun g e => .inl (hown0.lt g e).2
  have hVw3 : V.heap.size ≤ w3.heap.size := by omega
  have hwk := Ln.walk1_stops 4 (by omega) w.heap.size w3.heap.size ax ay bx by' first (Ln.stpI ax ay bx by') H1.out H2.out (by omega) (by omega) (by unfold Ln.stpI; omega) (by omega) bf bt ba f w3 (Nat.le_refl _) hrg cf ct ca hA
  obtain ⟨N, hN⟩ : ∃ N, (Ln.stpI ax ay bx by' - first + 1).toNat = N := ⟨_, rfl⟩
  have hNl : N ≤ 70001 := by omega
  rw [hN] at hwk
  have HQ2 := HQ
  rw [hN] at HQ2
  have HWK := Lib.hid hwk
  have HM1 := Lib.hid M1
  have HMK1 := Lib.hid hmk1
  have HLT := Lib.hid hlt
  have HAT0 := Lib.hid hat0
  clear hwk hN M1 hmk1 hlt hA cf ct ca hown0 hat0 HM HMK HQ a0 a1 p0 p1 hb3
  refine wpIn_wide (n := 5) |>.1 ?_
  refine wpIn_rangeFunc_ownH rfl (by omega) (gf := 55) (lb := #[.pointer (some ⟨bf, 0, none⟩), .pointer (some ⟨bt, 0, none⟩), .pointer (some ⟨ba, 0, none⟩)]) rfl trivial (enters_of Try.func55 (by kernel_rfl) rfl)
    HWK.out Ln.Keep.trans (Ln.Keep.putObj (Nat.le_refl _)) (Below.refl _ _) (fun _ => rfl)
    (fun pre W' => (∃ v', Boxed W' g5 52 v' ∧ W'.ownsRow V.heap.size 45 4 v' (joinAll (P ++ pre)).length (rcs (joinAll (P ++ pre))) ∧ (∀ g, v'.ownBlock = some g → g < w.heap.size ∨ w3.heap.size ≤ g)) ∧ V.grownBy W' (some g5) ∧ w3.heap.size ≤ W'.heap.size ∧ Marks V.heap.size ds W')
    (fun _ _ _ => False)
    (OwnFrom.and (Own.from (holdsRow_own V.heap.size g5 52 45 4 (fun pre : List Ln.PtR => (joinAll (P ++ pre)).length) (fun pre => rcs (joinAll (P ++ pre))) (fun _ v' => ∀ g, v'.ownBlock = some g → g < w.heap.size ∨ w3.heap.size ≤ g)) _) (OwnFrom.and (fun _ X' Y' row hs hg hr => hs.andThen hg (fun j hj => .inl (Nat.le_trans hVw3 (hr j hj).1))) (OwnFrom.and (fun _ _ _ _ hs hg _ => Nat.le_trans hs hg.size) (fun _ X' Y' row hs hg hr => hs.ownFrom HLT.out hg (fun g e => (hr g e).1)))))
    (fun _ _ _ _ _ hs _ _ => hs)
    ⟨⟨_, HM1.out.box, by simpa using HM1.out.own, HAT0.out⟩, HM1.out.grown, Nat.le_refl _, HMK1.out⟩
    (fun x a' W' => ∃ Bx, w3.heap.size ≤ Bx ∧ Blk W' Bx 23 #[.int .i64 x.1.1, .int .i64 x.1.2] ∧ a' = { tmps := #[u0, u1, u2, u3, u4, .pointer (some ⟨g5, 0, none⟩), u6, .pointer (some ⟨gp, 0, none⟩), .pointer (some ⟨ga, 0, none⟩), .int .i64 first, .int .i64 (Ln.stpI ax ay bx by'), u11, .pointer (some ⟨Bx, 0, none⟩), u13, u14, u15, u16, u17, u18, u19, u20, u21, u22, u23, u24, u25, u26, u27, u28, u29, u30, u31, u32, u33, u34, u35, u36, u37, u38, u39, u40, u41, u42, u43, u44, u45, u46, u47, u48, u49, u50, u51, u52, .agg #[.int .i64 ax, .int .i64 ay], .agg #[.int .i64 bx, .int .i64 by'], .int .i64 first, .int .i64 (Ln.stpI ax ay bx by'), .func (.func 55) #[] #[.pointer (some ⟨bf, 0, none⟩), .pointer (some ⟨bt, 0, none⟩), .pointer (some ⟨ba, 0, none⟩)], .agg #[.int .i64 x.1.1, .int .i64 x.1.2], u59, u60, u61, u62, u63, u64, u65, u66, u67, u68, u69, u70, u71, u72], defers := [] })
    (fun x a' _ X' Y' row hs hg hr => by obtain ⟨Bx, h1, h2, h3⟩ := hs; exact ⟨Bx, h1, blk_from w3.heap.size Bx 23 (fun (_ : Unit) => #[Value.int .i64 x.1.1, .int .i64 x.1.2]) () X' Y' row h2 hg hr, h3⟩)
    ?assign ?body ?done ?stop
  case assign =>
    rintro l pre x W' K ⟨⟨v', bv, hown, hat⟩, hg, hsW, hmk⟩ hK
    gi_wp2_with fail
    exact hK _ _ ((KeepsOthers.alloc _ _).from _) ((Ln.Keep.refl _ _ W').alloc hsW _) ⟨⟨v', bv.alloc _, hown.alloc _, hat⟩, grown_bel hg (bal (bre W') _), by simp; omega, hmk.below (bal (bre W') _)⟩ ⟨W'.heap.size, hsW, Blk.new W' _ _, rfl⟩
  case body =>
    rintro l pre x a' W' hl' _ ⟨⟨v', bv, hown, hat⟩, hg, hsW, hmk⟩ ⟨Bx, hBx, hX, rfl⟩ hlt
    obtain ⟨Av, cv0, hv0, _⟩ := own_form hown
    subst hv0
    have hnv : (Value.slice Av (joinAll (P ++ pre)).length cv0).ownBlock ≠ some g5 := fun e => by have := (hown.lt g5 e).1; omega
    have cv := bv.cell
    have cx0 := hX.cellV (i := 0) (v := .int .i64 x.1.1) rfl
    have cx1 := hX.cellV (i := 1) (v := .int .i64 x.1.2) rfl
    have hlen : (joinAll (P ++ pre)).length ≤ 1000000 := by
      have := joinAll_len (P ++ pre)
      rw [List.length_append] at this
      omega
    have hcnt := (joinAll_ok (P ++ pre)).1
    have hsn := joinAll_snoc (P ++ pre) x
    rw [List.append_assoc] at hsn
    have hbx := x.2
    have HCNT := Lib.hid hcnt
    have HLEN := Lib.hid hlen
    have HSN := Lib.hid hsn
    have Hown := Lib.hid hown
    have Hat := Lib.hid hat
    have HG := Lib.hid hg
    have HMK2 := Lib.hid hmk
    have HBV := Lib.hid bv
    clear hcnt hlen hsn hown hat hg hmk bv
    obtain ⟨jl, hjl⟩ : ∃ jl, joinAll (P ++ pre) = jl := ⟨_, rfl⟩
    rw [hjl] at HCNT HLEN HSN Hown Hat hnv cv HBV
    have t : decide (x.1.1 < 1048576) = false ∨ (decide (x.1.1 < 1048576) = true ∧ (decide (x.1.2 < 1048576) = false ∨ decide (x.1.2 < 1048576) = true)) := by
      simp only [decide_eq_true_eq, decide_eq_false_iff_not]; omega
    rcases t with t1 | ⟨t1, t2 | t2⟩
    case inr.inr =>
      have hq : joinQ jl x = joinL jl x.1.1 x.1.2 := joinQ_yes (by simpa using t1) (by simpa using t2)
      rw [hq] at HSN
      clear hq
      have HJL := Lib.hid hjl
      clear hjl
      gi_wp2_with (gi_at_call 42; refine (callsIn_wide.2 (join_any V.heap.size _ jl x.1.1 x.1.2 _ Hown.out HCNT.out HLEN.out (by omega))).mono ?_; rintro e w5 ⟨v5, rfl, ho5, hg5, hat5⟩; obtain ⟨A5, c5, hv5, _⟩ := own_form ho5; subst hv5; have hb5 := (show Blk W' g5 _ _ from HBV.out).grown hg5 (fun e => hnv e.symm); have d5 := hb5.cellV (i := 0) rfl; have f5 := hb5.frozen 0; have HB5 := Lib.hid hb5; have HO5 := Lib.hid ho5; have HG5 := Lib.hid hg5; have HAT5 := Lib.hid hat5; clear hb5 ho5 hg5 hat5)
      have hkp : Ln.Keep w.heap.size w3.heap.size W' (w5.setCell ⟨g5, 0, none⟩ (.slice A5 (joinL jl x.1.1 x.1.2).length c5)) := ((Ln.Keep.refl _ _ W').grown HG5.out hsW Hat.out).setCell (p := ⟨g5, 0, none⟩) (.inl (by dsimp only; omega)) _
      refine ⟨((ko_row Hown.out HG5.out).trans (KeepsOthers.setCell _ _ _)).from _, hkp, ⟨_, HB5.out.set_ 0 _, by rw [HSN.out]; exact own_far HO5.out (p := ⟨g5, 0, none⟩) h5V _, fun g' hg' => ?_⟩, (HG.out.andThen HG5.out (fun j hj => .inl (own_ge Hown.out j hj))).andThen (grown_setCell _ _ _) (fun j hj => .inr hj), Nat.le_trans hsW hkp.size, (HMK2.out.grownRow Hown.out HG5.out).setCell _ _⟩
      rcases HAT5.out with e | e
      · exact Hat.out g' (e ▸ hg')
      · exact .inr (Nat.le_trans hsW (e g' hg'))
    all_goals
      have hq : joinQ jl x = jl := joinQ_no (fun h => by simp only [decide_eq_false_iff_not] at *; omega)
      rw [hq] at HSN
      clear hq
      have HJL := Lib.hid hjl
      clear hjl
      gi_wp2_with fail
      exact ⟨(KeepsOthers.refl _).from _, Ln.Keep.refl _ _ _, ⟨_, HBV.out, by rw [HSN.out]; exact Hown.out, Hat.out⟩, HG.out, hsW, HMK2.out⟩
  case done =>
    rintro D ys W' hD hS ⟨⟨v', bv, hown, hat⟩, hg, hsW, hmk⟩ hK
    subst hS
    have mk2 := Marks.cons HMK1.out hmk hD hVw3 hK
    have M2 : RegMem V g5 (P ++ Ln.ptsR ax ay bx by' first N) v' W' := ⟨hg, bv, hown⟩
    go_wp2_with fail
    exact HQ2.out _ _ _ _ _ _ _ _ _ _ _ _ _ _ _ _ _ _ _ _ _ M2 mk2
  case stop =>
    rintro D c' pre W' _ _ h _
    exact h.elim

/-- what stays as it is. -/
structure RegCtx (V : World) (g g5 n : Nat) (l : List Ln.PtR) : Prop where
  h5 : g5 < V.heap.size
  hg : g < g5
  len : l.length = n
  pos : 1 ≤ n ∧ n ≤ 4096
  cells : ∀ k p, (Ln.unR l)[k]? = some p → V.cell? ⟨g, k * 2, none⟩ = some (.int .i64 p.1) ∧ V.cell? ⟨g, k * 2 + 1, none⟩ = some (.int .i64 p.2)
  long : Ln.lenK l (n - 1) ≤ 65535
def RegRel (V : World) (g5 n : Nat) (l : List Ln.PtR) (ds : List Deferred) (s34 : Value) (w : World) : Prop :=
  ∃ (k : Nat) (vo : Value), s34 = .int .i64 (k : Int) ∧ k ≤ n ∧ RegMem V g5 (pathA l k) vo w ∧ Marks V.heap.size ds w
def RegEnd (V : World) (g5 n : Nat) (l : List Ln.PtR) (ds : List Deferred) (w : World) : Prop :=
  ∃ vo : Value, RegMem V g5 (pathA l n) vo w ∧ Marks V.heap.size ds w
set_option maxRecDepth 1000000 in
def RWI (V : World) (g g5 n c : Nat) (l : List Ln.PtR) (c1 c2 c3 c4 c13 c14 c15 c16 c17 c18 c19 c20 c21 c22 c23 c24 c25 c26 c27 c28 c29 c30 c31 c71 c72 : Value) (a : Act) (w : World) : Prop :=
  ∃ u6 u7 u8 u9 u10 u11 u12 u34 u35 u36 u37 u38 u39 u40 u41 u42 u43 u44 u45 u46 u47 u48 u49 u50 u51 u52 u53 u54 u55 u56 u57 u58 u59 u60 u61 u62 u63 u64 u65 u66 u67 u68 u69 u70 : Value, ∃ ds : List Deferred, RegRel V g5 n l ds u34 w ∧ a = ⟨#[.slice (some ⟨g, 0, none⟩) n c, c1, c2, c3, c4, .pointer (some ⟨g5, 0, none⟩), u6, u7, u8, u9, u10, u11, u12, c13, c14, c15, c16, c17, c18, c19, c20, c21, c22, c23, c24, c25, c26, c27, c28, c29, c30, c31, .slice (some ⟨g, 0, none⟩) n c, .int .i64 (n : Int), u34, u35, u36, u37, u38, u39, u40, u41, u42, u43, u44, u45, u46, u47, u48, u49, u50, u51, u52, u53, u54, u55, u56, u57, u58, u59, u60, u61, u62, u63, u64, u65, u66, u67, u68, u69, u70, c71, c72], ds⟩
set_option maxRecDepth 1000000 in
def RWX (V : World) (g g5 n c : Nat) (l : List Ln.PtR) (c1 c2 c3 c4 c13 c14 c15 c16 c17 c18 c19 c20 c21 c22 c23 c24 c25 c26 c27 c28 c29 c30 c31 c71 c72 : Value) (a : Act) (w : World) : Prop :=
  ∃ u6 u7 u8 u9 u10 u11 u12 u34 u35 u36 u37 u38 u39 u40 u41 u42 u43 u44 u45 u46 u47 u48 u49 u50 u51 u52 u53 u54 u55 u56 u57 u58 u59 u60 u61 u62 u63 u64 u65 u66 u67 u68 u69 u70 : Value, ∃ ds : List Deferred, RegEnd V g5 n l ds w ∧ a = ⟨#[.slice (some ⟨g, 0, none⟩) n c, c1, c2, c3, c4, .pointer (some ⟨g5, 0, none⟩), u6, u7, u8, u9, u10, u11, u12, c13, c14, c15, c16, c17, c18, c19, c20, c21, c22, c23, c24, c25, c26, c27, c28, c29, c30, c31, .slice (some ⟨g, 0, none⟩) n c, .int .i64 (n : Int), u34, u35, u36, u37, u38, u39, u40, u41, u42, u43, u44, u45, u46, u47, u48, u49, u50, u51, u52, u53, u54, u55, u56, u57, u58, u59, u60, u61, u62, u63, u64, u65, u66, u67, u68, u69, u70, c71, c72], ds⟩
def Rmu (n : Nat) (a : Act) (_ : World) : Nat := n - (intOf (a.tmps.getD 34 undef)).toNat

set_option maxRecDepth 1000000 in
set_option maxHeartbeats 4000000 in
theorem reg_first (V : World) (g g5 n c : Nat) (l : List Ln.PtR) (C : RegCtx V g g5 n l) (vo : Value) (ds : List Deferred) (wr : World) (c1 c2 c3 c4 c13 c14 c15 c16 c17 c18 c19 c20 c21 c22 c23 c24 c25 c26 c27 c28 c29 c30 c31 c71 c72 u6 u7 u8 u9 u10 u11 u12 u35 u36 u37 u38 u39 u40 u41 u42 u43 u44 u45 u46 u47 u48 u49 u50 u51 u52 u53 u54 u55 u56 u57 u58 u59 u60 u61 u62 u63 u64 u65 u66 u67 u68 u69 u70 : Value) (Q0 : Exit → Act → World → Prop)
    (M : RegMem V g5 (pathA l 0) vo wr) (hm : Marks V.heap.size ds wr) :
    Code.wp Try.prog rgBody (Exit.then (fun a' w'' => RWI V g g5 n c l c1 c2 c3 c4 c13 c14 c15 c16 c17 c18 c19 c20 c21 c22 c23 c24 c25 c26 c27 c28 c29 c30 c31 c71 c72 a' w'' ∧ Rmu n a' w'' < Rmu n ⟨#[.slice (some ⟨g, 0, none⟩) n c, c1, c2, c3, c4, .pointer (some ⟨g5, 0, none⟩), u6, u7, u8, u9, u10, u11, u12, c13, c14, c15, c16, c17, c18, c19, c20, c21, c22, c23, c24, c25, c26, c27, c28, c29, c30, c31, .slice (some ⟨g, 0, none⟩) n c, .int .i64 (n : Int), .int .i64 ((0 : Nat) : Int), u35, u36, u37, u38, u39, u40, u41, u42, u43, u44, u45, u46, u47, u48, u49, u50, u51, u52, u53, u54, u55, u56, u57, u58, u59, u60, u61, u62, u63, u64, u65, u66, u67, u68, u69, u70, c71, c72], ds⟩ wr) Q0) ⟨#[.slice (some ⟨g, 0, none⟩) n c, c1, c2, c3, c4, .pointer (some ⟨g5, 0, none⟩), u6, u7, u8, u9, u10, u11, u12, c13, c14, c15, c16, c17, c18, c19, c20, c21, c22, c23, c24, c25, c26, c27, c28, c29, c30, c31, .slice (some ⟨g, 0, none⟩) n c, .int .i64 (n : Int), .int .i64 ((0 : Nat) : Int), u35, u36, u37, u38, u39, u40, u41, u42, u43, u44, u45, u46, u47, u48, u49, u50, u51, u52, u53, u54, u55, u56, u57, u58, u59, u60, u61, u62, u63, u64, u65, u66, u67, u68, u69, u70, c71, c72], ds⟩ wr := by
  have hpos := C.pos
  obtain ⟨q, hq⟩ : ∃ q, l[0]? = some q := ⟨_, List.getElem?_eq_getElem (by have := C.len; omega)⟩
  have hq1 := C.cells 0 q.1 (by simp [Ln.unR, hq])
  have hg5 := C.hg
  have hV5 := C.h5
  have hne : some g ≠ some g5 := fun e => by injection e; omega
  have a0 := M.grown.cell hq1.1 hne
  have a1 := M.grown.cell hq1.2 hne
  have hVs := M.grown.size
  have k1 : ((0 : Nat) : Int) < (n : Int) := by omega
  have HPO := Lib.hid (pathA_one hq)
  have HST := Lib.hid (show Ln.stpI q.1.1 q.1.2 q.1.1 q.1.2 = 0 from by rw [Ln.stpI_max]; omega)
  have HM := Lib.hid M
  have HMK := Lib.hid hm
  have HC := Lib.hid C
  clear hq hq1 hne M hm C
  conv => arg 2; whnf
  go_upto_region 19 with (go_at_call 34; refine (Ln.track_any _ _ _ _ _ q.2 q.2).mono ?_; rintro e w2 ⟨f, rfl, hA, hb⟩; obtain ⟨fk, caps, rfl⟩ := hA.form; have HB2 := Lib.hid hb; clear hA hb)
  rename_i hKK
  have hbb : Below wr.heap.size wr w2 := bstep (bal (bal (bre wr) _) _) HB2.out
  have Bp : Blk w2 wr.heap.size 23 #[.int .i64 q.1.1, .int .i64 q.1.2] := ((Blk.new wr 23 #[.int .i64 q.1.1, .int .i64 q.1.2]).alloc _).belowS HB2.out
  have Ba : Blk w2 (wr.heap.size + 1) 23 #[.int .i64 q.1.1, .int .i64 q.1.2] := (Blk.new2 wr (.cells #[.int .i64 q.1.1, .int .i64 q.1.2] 23) 23 #[.int .i64 q.1.1, .int .i64 q.1.2]).belowS HB2.out
  have M2 := HM.out.below hbb
  have mk2 := HMK.out.below hbb
  refine wp_mono (reg_range V g5 wr.heap.size (wr.heap.size + 1) q.1.1 q.1.2 q.1.1 q.1.2 0 (pathA l 0) vo ds _ _ _ _ _ _ _ _ _ _ _ _ _ _ _ _ _ _ _ _ _ _ _ _ _ _ _ _ _ _ _ _ _ _ _ _ _ _ _ _ _ _ _ _ _ _ _ _ _ _ _ _ _ _ _ _ _ _ _ _ _ _ _ _ _ _ _ _ _ _ M2 hV5 Ba Bp q.2 q.2 (by omega) mk2 (by simp [pathA]) (by rw [HST.out]; omega) ?_) (then_mono hKK)
  intro vo' ds' w' x12 x53 x54 x55 x56 x57 x58 x59 x60 x61 x62 x63 x64 x65 x66 x67 x68 x69 M' mk'
  have e1 : pathA l 0 ++ Ln.ptsR q.1.1 q.1.2 q.1.1 q.1.2 0 (Ln.stpI q.1.1 q.1.2 q.1.1 q.1.2 - 0 + 1).toNat = pathA l 1 := by rw [HPO.out, HST.out]; rfl
  rw [e1] at M'
  have HM2 := Lib.hid M'
  have HMK2 := Lib.hid mk'
  clear M' mk' e1 hKK M2 mk2 Ba Bp hbb
  go_wp2_with fail
  refine ⟨?_, by simp [Rmu, intOf]; omega⟩
  unfold RWI
  refine ⟨_, _, _, _, _, _, _, _, _, _, _, _, _, _, _, _, _, _, _, _, _, _, _, _, _, _, _, _, _, _, _, _, _, _, _, _, _, _, _, _, _, _, _, _, _, ?_, rfl⟩
  exact ⟨1, vo', by go_num, by omega, HM2.out, HMK2.out⟩

set_option maxRecDepth 1000000 in
set_option maxHeartbeats 4000000 in
theorem reg_more (V : World) (g g5 n c m : Nat) (l : List Ln.PtR) (C : RegCtx V g g5 n l) (hmn : m + 1 < n) (vo : Value) (ds : List Deferred) (wr : World) (c1 c2 c3 c4 c13 c14 c15 c16 c17 c18 c19 c20 c21 c22 c23 c24 c25 c26 c27 c28 c29 c30 c31 c71 c72 u6 u7 u8 u9 u10 u11 u12 u35 u36 u37 u38 u39 u40 u41 u42 u43 u44 u45 u46 u47 u48 u49 u50 u51 u52 u53 u54 u55 u56 u57 u58 u59 u60 u61 u62 u63 u64 u65 u66 u67 u68 u69 u70 : Value) (Q0 : Exit → Act → World → Prop)
    (M : RegMem V g5 (pathA l (m + 1)) vo wr) (hm : Marks V.heap.size ds wr) :
    Code.wp Try.prog rgBody (Exit.then (fun a' w'' => RWI V g g5 n c l c1 c2 c3 c4 c13 c14 c15 c16 c17 c18 c19 c20 c21 c22 c23 c24 c25 c26 c27 c28 c29 c30 c31 c71 c72 a' w'' ∧ Rmu n a' w'' < Rmu n ⟨#[.slice (some ⟨g, 0, none⟩) n c, c1, c2, c3, c4, .pointer (some ⟨g5, 0, none⟩), u6, u7, u8, u9, u10, u11, u12, c13, c14, c15, c16, c17, c18, c19, c20, c21, c22, c23, c24, c25, c26, c27, c28, c29, c30, c31, .slice (some ⟨g, 0, none⟩) n c, .int .i64 (n : Int), .int .i64 ((m + 1 : Nat) : Int), u35, u36, u37, u38, u39, u40, u41, u42, u43, u44, u45, u46, u47, u48, u49, u50, u51, u52, u53, u54, u55, u56, u57, u58, u59, u60, u61, u62, u63, u64, u65, u66, u67, u68, u69, u70, c71, c72], ds⟩ wr) Q0) ⟨#[.slice (some ⟨g, 0, none⟩) n c, c1, c2, c3, c4, .pointer (some ⟨g5, 0, none⟩), u6, u7, u8, u9, u10, u11, u12, c13, c14, c15, c16, c17, c18, c19, c20, c21, c22, c23, c24, c25, c26, c27, c28, c29, c30, c31, .slice (some ⟨g, 0, none⟩) n c, .int .i64 (n : Int), .int .i64 ((m + 1 : Nat) : Int), u35, u36, u37, u38, u39, u40, u41, u42, u43, u44, u45, u46, u47, u48, u49, u50, u51, u52, u53, u54, u55, u56, u57, u58, u59, u60, u61, u62, u63, u64, u65, u66, u67, u68, u69, u70, c71, c72], ds⟩ wr := by
  have hpos := C.pos
  obtain ⟨p, hp⟩ : ∃ p, l[m]? = some p := ⟨_, List.getElem?_eq_getElem (by have := C.len; omega)⟩
  obtain ⟨q, hq⟩ : ∃ q, l[m + 1]? = some q := ⟨_, List.getElem?_eq_getElem (by have := C.len; omega)⟩
  have hp1 := C.cells m p.1 (by simp [Ln.unR, hp])
  have hq1 := C.cells (m + 1) q.1 (by simp [Ln.unR, hq])
  have hg5 := C.hg
  have hV5 := C.h5
  have hne : some g ≠ some g5 := fun e => by injection e; omega
  have a0 := M.grown.cell hq1.1 hne
  have a1 := M.grown.cell hq1.2 hne
  have c0 := M.grown.cell hp1.1 hne
  have c1' := M.grown.cell hp1.2 hne
  have hVs := M.grown.size
  have zg : g < wr.heap.size := by omega
  have k1 : ((m + 1 : Nat) : Int) < (n : Int) := by omega
  have k2 : (m : Int) < (n : Int) := by omega
  have k3 : (0 : Int) ≤ (m : Int) := by omega
  have w1 : IntKind.i64.wrap ((m : Int) + 1 - 1) = m := by rw [show (m : Int) + 1 - 1 = m from by omega]; exact IntWalk.i64_in _ (by omega)
  have w2' : IntKind.i64.wrap (((m + 1 : Nat) : Int) - 1) = m := by rw [show ((m + 1 : Nat) : Int) - 1 = m from by omega]; exact IntWalk.i64_in _ (by omega)
  have w3 : IntKind.i64.wrap (m : Int) = m := IntWalk.i64_in _ (by omega)
  have dk : decide ((0 : Int) < (m : Int) + 1) = true := decide_eq_true (by omega)
  have hpl := pathA_len l (m + 1)
  have hlm := Ln.lenK_le l (j := m) (k := n - 1) (by omega)
  have hlm2 := Ln.lenK_le l (j := m + 1) (k := n - 1) (by omega)
  have hls := Ln.lenK_succ hp hq
  have hlk := (Ln.lenK_bd l m).1
  have hst := Ln.stpI_max p.1.1 p.1.2 q.1.1 q.1.2
  have hlo := C.long
  rw [show m + 1 - 1 = m from by omega] at hpl
  have hP7 : (pathA l (m + 1)).length ≤ 70000 := by omega
  have hS7 : Ln.stpI p.1.1 p.1.2 q.1.1 q.1.2 ≤ 70000 := by omega
  have HPO := Lib.hid (pathA_next hp hq)
  have HM := Lib.hid M
  have HMK := Lib.hid hm
  have HC := Lib.hid C
  clear hq hq1 hp hp1 hne M hm C hpl hlm hlm2 hls hlk hst hlo
  conv => arg 2; whnf
  go_upto_region 19 with (go_at_call 34; refine (Ln.track_any _ _ _ _ _ p.2 q.2).mono ?_; rintro e w2 ⟨f, rfl, hA, hb⟩; obtain ⟨fk, caps, rfl⟩ := hA.form; have HB2 := Lib.hid hb; clear hA hb)
  rename_i hKK
  have hbb : Below wr.heap.size wr w2 := bstep (bal (bal (bre wr) _) _) HB2.out
  have Bp : Blk w2 wr.heap.size 23 #[.int .i64 q.1.1, .int .i64 q.1.2] := ((Blk.new wr 23 #[.int .i64 q.1.1, .int .i64 q.1.2]).alloc _).belowS HB2.out
  have Ba : Blk w2 (wr.heap.size + 1) 23 #[.int .i64 p.1.1, .int .i64 p.1.2] := (Blk.new2 wr (.cells #[.int .i64 q.1.1, .int .i64 q.1.2] 23) 23 #[.int .i64 p.1.1, .int .i64 p.1.2]).belowS HB2.out
  have M2 := HM.out.below hbb
  have mk2 := HMK.out.below hbb
  refine wp_mono (reg_range V g5 wr.heap.size (wr.heap.size + 1) p.1.1 p.1.2 q.1.1 q.1.2 1 (pathA l (m + 1)) vo ds _ _ _ _ _ _ _ _ _ _ _ _ _ _ _ _ _ _ _ _ _ _ _ _ _ _ _ _ _ _ _ _ _ _ _ _ _ _ _ _ _ _ _ _ _ _ _ _ _ _ _ _ _ _ _ _ _ _ _ _ _ _ _ _ _ _ _ _ _ _ M2 hV5 Ba Bp p.2 q.2 (by omega) mk2 hP7 hS7 ?_) (then_mono hKK)
  intro vo' ds' w' x12 x53 x54 x55 x56 x57 x58 x59 x60 x61 x62 x63 x64 x65 x66 x67 x68 x69 M' mk'
  have e1 : pathA l (m + 1) ++ Ln.ptsR p.1.1 p.1.2 q.1.1 q.1.2 1 (Ln.stpI p.1.1 p.1.2 q.1.1 q.1.2 - 1 + 1).toNat = pathA l (m + 2) := by
    rw [HPO.out]
    congr 2
    unfold Ln.stpI
    omega
  rw [e1] at M'
  have HM2 := Lib.hid M'
  have HMK2 := Lib.hid mk'
  clear M' mk' e1 hKK M2 mk2 Ba Bp hbb
  go_wp2_with fail
  refine ⟨?_, by simp [Rmu, intOf]; omega⟩
  unfold RWI
  refine ⟨_, _, _, _, _, _, _, _, _, _, _, _, _, _, _, _, _, _, _, _, _, _, _, _, _, _, _, _, _, _, _, _, _, _, _, _, _, _, _, _, _, _, _, _, _, ?_, rfl⟩
  exact ⟨m + 2, vo', by go_num, by omega, HM2.out, HMK2.out⟩

set_option maxRecDepth 1000000 in
set_option maxHeartbeats 4000000 in
theorem reg_last (V : World) (g g5 n c : Nat) (l : List Ln.PtR) (C : RegCtx V g g5 n l) (vo : Value) (ds : List Deferred) (wr : World) (c1 c2 c3 c4 c13 c14 c15 c16 c17 c18 c19 c20 c21 c22 c23 c24 c25 c26 c27 c28 c29 c30 c31 c71 c72 u6 u7 u8 u9 u10 u11 u12 u35 u36 u37 u38 u39 u40 u41 u42 u43 u44 u45 u46 u47 u48 u49 u50 u51 u52 u53 u54 u55 u56 u57 u58 u59 u60 u61 u62 u63 u64 u65 u66 u67 u68 u69 u70 : Value) (Q0 : Exit → Act → World → Prop)
    (M : RegMem V g5 (pathA l n) vo wr) (hm : Marks V.heap.size ds wr) (hexit : ∀ a' w'', RWX V g g5 n c l c1 c2 c3 c4 c13 c14 c15 c16 c17 c18 c19 c20 c21 c22 c23 c24 c25 c26 c27 c28 c29 c30 c31 c71 c72 a' w'' → Q0 (.exit 2) a' w'') :
    Code.wp Try.prog rgBody (Exit.then (fun a' w'' => RWI V g g5 n c l c1 c2 c3 c4 c13 c14 c15 c16 c17 c18 c19 c20 c21 c22 c23 c24 c25 c26 c27 c28 c29 c30 c31 c71 c72 a' w'' ∧ Rmu n a' w'' < Rmu n ⟨#[.slice (some ⟨g, 0, none⟩) n c, c1, c2, c3, c4, .pointer (some ⟨g5, 0, none⟩), u6, u7, u8, u9, u10, u11, u12, c13, c14, c15, c16, c17, c18, c19, c20, c21, c22, c23, c24, c25, c26, c27, c28, c29, c30, c31, .slice (some ⟨g, 0, none⟩) n c, .int .i64 (n : Int), .int .i64 (n : Int), u35, u36, u37, u38, u39, u40, u41, u42, u43, u44, u45, u46, u47, u48, u49, u50, u51, u52, u53, u54, u55, u56, u57, u58, u59, u60, u61, u62, u63, u64, u65, u66, u67, u68, u69, u70, c71, c72], ds⟩ wr) Q0) ⟨#[.slice (some ⟨g, 0, none⟩) n c, c1, c2, c3, c4, .pointer (some ⟨g5, 0, none⟩), u6, u7, u8, u9, u10, u11, u12, c13, c14, c15, c16, c17, c18, c19, c20, c21, c22, c23, c24, c25, c26, c27, c28, c29, c30, c31, .slice (some ⟨g, 0, none⟩) n c, .int .i64 (n : Int), .int .i64 (n : Int), u35, u36, u37, u38, u39, u40, u41, u42, u43, u44, u45, u46, u47, u48, u49, u50, u51, u52, u53, u54, u55, u56, u57, u58, u59, u60, u61, u62, u63, u64, u65, u66, u67, u68, u69, u70, c71, c72], ds⟩ wr := by
  have HM := Lib.hid M
  have HMK := Lib.hid hm
  have hpos := C.pos
  clear M hm C
  conv => arg 2; whnf
  go_wp2_with fail
  unfold RWX
  refine ⟨_, _, _, _, _, _, _, _, _, _, _, _, _, _, _, _, _, _, _, _, _, _, _, _, _, _, _, _, _, _, _, _, _, _, _, _, _, _, _, _, _, _, _, _, _, ?_, rfl⟩
  exact ⟨vo, HM.out, HMK.out⟩

set_option maxRecDepth 1000000 in
set_option maxHeartbeats 4000000 in
theorem reg_loop (V : World) (g g5 n c : Nat) (l : List Ln.PtR) (C : RegCtx V g g5 n l) (ds : List Deferred) (wr : World) (c1 c2 c3 c4 c13 c14 c15 c16 c17 c18 c19 c20 c21 c22 c23 c24 c25 c26 c27 c28 c29 c30 c31 c71 c72 u6 u7 u8 u9 u10 u11 u12 u34 u35 u36 u37 u38 u39 u40 u41 u42 u43 u44 u45 u46 u47 u48 u49 u50 u51 u52 u53 u54 u55 u56 u57 u58 u59 u60 u61 u62 u63 u64 u65 u66 u67 u68 u69 u70 : Value) (Q0 : Exit → Act → World → Prop)
    (hrel : RegRel V g5 n l ds u34 wr) (hexit : ∀ a' w'', RWX V g g5 n c l c1 c2 c3 c4 c13 c14 c15 c16 c17 c18 c19 c20 c21 c22 c23 c24 c25 c26 c27 c28 c29 c30 c31 c71 c72 a' w'' → Q0 (.exit 2) a' w'') :
    Code.wp Try.prog (Code.loop rgBody) Q0 ⟨#[.slice (some ⟨g, 0, none⟩) n c, c1, c2, c3, c4, .pointer (some ⟨g5, 0, none⟩), u6, u7, u8, u9, u10, u11, u12, c13, c14, c15, c16, c17, c18, c19, c20, c21, c22, c23, c24, c25, c26, c27, c28, c29, c30, c31, .slice (some ⟨g, 0, none⟩) n c, .int .i64 (n : Int), u34, u35, u36, u37, u38, u39, u40, u41, u42, u43, u44, u45, u46, u47, u48, u49, u50, u51, u52, u53, u54, u55, u56, u57, u58, u59, u60, u61, u62, u63, u64, u65, u66, u67, u68, u69, u70, c71, c72], ds⟩ wr := by
  refine wp_loop (RWI V g g5 n c l c1 c2 c3 c4 c13 c14 c15 c16 c17 c18 c19 c20 c21 c22 c23 c24 c25 c26 c27 c28 c29 c30 c31 c71 c72) (Rmu n) ?_ ?_
  · unfold RWI
    exact ⟨u6, u7, u8, u9, u10, u11, u12, u34, u35, u36, u37, u38, u39, u40, u41, u42, u43, u44, u45, u46, u47, u48, u49, u50, u51, u52, u53, u54, u55, u56, u57, u58, u59, u60, u61, u62, u63, u64, u65, u66, u67, u68, u69, u70, ds, hrel, rfl⟩
  clear hrel u6 u7 u8 u9 u10 u11 u12 u34 u35 u36 u37 u38 u39 u40 u41 u42 u43 u44 u45 u46 u47 u48 u49 u50 u51 u52 u53 u54 u55 u56 u57 u58 u59 u60 u61 u62 u63 u64 u65 u66 u67 u68 u69 u70 ds wr
  intro a wr hI
  unfold RWI at hI
  obtain ⟨u6, hI⟩ := hI
  obtain ⟨u7, hI⟩ := hI
  obtain ⟨u8, hI⟩ := hI
  obtain ⟨u9, hI⟩ := hI
  obtain ⟨u10, hI⟩ := hI
  obtain ⟨u11, hI⟩ := hI
  obtain ⟨u12, hI⟩ := hI
  obtain ⟨u34, hI⟩ := hI
  obtain ⟨u35, hI⟩ := hI
  obtain ⟨u36, hI⟩ := hI
  obtain ⟨u37, hI⟩ := hI
  obtain ⟨u38, hI⟩ := hI
  obtain ⟨u39, hI⟩ := hI
  obtain ⟨u40, hI⟩ := hI
  obtain ⟨u41, hI⟩ := hI
  obtain ⟨u42, hI⟩ := hI
  obtain ⟨u43, hI⟩ := hI
  obtain ⟨u44, hI⟩ := hI
  obtain ⟨u45, hI⟩ := hI
  obtain ⟨u46, hI⟩ := hI
  obtain ⟨u47, hI⟩ := hI
  obtain ⟨u48, hI⟩ := hI
  obtain ⟨u49, hI⟩ := hI
  obtain ⟨u50, hI⟩ := hI
  obtain ⟨u51, hI⟩ := hI
  obtain ⟨u52, hI⟩ := hI
  obtain ⟨u53, hI⟩ := hI
  obtain ⟨u54, hI⟩ := hI
  obtain ⟨u55, hI⟩ := hI
  obtain ⟨u56, hI⟩ := hI
  obtain ⟨u57, hI⟩ := hI
  obtain ⟨u58, hI⟩ := hI
  obtain ⟨u59, hI⟩ := hI
  obtain ⟨u60, hI⟩ := hI
  obtain ⟨u61, hI⟩ := hI
  obtain ⟨u62, hI⟩ := hI
  obtain ⟨u63, hI⟩ := hI
  obtain ⟨u64, hI⟩ := hI
  obtain ⟨u65, hI⟩ := hI
  obtain ⟨u66, hI⟩ := hI
  obtain ⟨u67, hI⟩ := hI
  obtain ⟨u68, hI⟩ := hI
  obtain ⟨u69, hI⟩ := hI
  obtain ⟨u70, hI⟩ := hI
  obtain ⟨ds, hrel, ha⟩ := hI
  obtain ⟨k, vo, e34, hk, M, hm⟩ := hrel
  subst e34
  subst ha
  by_cases hkn : k < n
  · match k, hkn, M with
    | 0, _, M => exact reg_first V g g5 n c l C vo ds wr c1 c2 c3 c4 c13 c14 c15 c16 c17 c18 c19 c20 c21 c22 c23 c24 c25 c26 c27 c28 c29 c30 c31 c71 c72 u6 u7 u8 u9 u10 u11 u12 u35 u36 u37 u38 u39 u40 u41 u42 u43 u44 u45 u46 u47 u48 u49 u50 u51 u52 u53 u54 u55 u56 u57 u58 u59 u60 u61 u62 u63 u64 u65 u66 u67 u68 u69 u70 Q0 M hm
    | m + 1, hkn, M => exact reg_more V g g5 n c m l C hkn vo ds wr c1 c2 c3 c4 c13 c14 c15 c16 c17 c18 c19 c20 c21 c22 c23 c24 c25 c26 c27 c28 c29 c30 c31 c71 c72 u6 u7 u8 u9 u10 u11 u12 u35 u36 u37 u38 u39 u40 u41 u42 u43 u44 u45 u46 u47 u48 u49 u50 u51 u52 u53 u54 u55 u56 u57 u58 u59 u60 u61 u62 u63 u64 u65 u66 u67 u68 u69 u70 Q0 M hm
  · obtain rfl : k = n := by omega
    exact reg_last V g g5 k c l C vo ds wr c1 c2 c3 c4 c13 c14 c15 c16 c17 c18 c19 c20 c21 c22 c23 c24 c25 c26 c27 c28 c29 c30 c31 c71 c72 u6 u7 u8 u9 u10 u11 u12 u35 u36 u37 u38 u39 u40 u41 u42 u43 u44 u45 u46 u47 u48 u49 u50 u51 u52 u53 u54 u55 u56 u57 u58 u59 u60 u61 u62 u63 u64 u65 u66 u67 u68 u69 u70 Q0 M hm hexit

end Go.Proofs.Ytcdecglbkcllaaa
