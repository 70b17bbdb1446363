/-
  What rule.join keeps in memory while it walks: the rows that are left, and what is written.
-/
import Derived.Test.YtbkkecijcijhdaaGreatZO16
import Derived.Test.YtbkkecijcijhdaaGreatZO19
section
namespace Go.Proofs.YtbkkecijcijhdaaGreat
open Go.RowKit Go.Shelf

/-- a region's value: its rectangles. -/
def RegAt (w : World) (v : Value) (l : List RC) : Prop := ∃ A c, v = .agg #[.slice A l.length c] ∧ RdR w A l.length l ∧ Canon l ∧ l.length ≤ 1000000000000 ∧ ∀ r ∈ l, r.cnt = true
theorem RegAt.below {w w' : World} {v : Value} {l : List RC} (h : RegAt w v l) (hb : Below w.heap.size w w') : RegAt w' v l := by
  obtain ⟨A, c, e, h1, h2⟩ := h
  exact ⟨A, c, e, h1.below hb, h2⟩

theorem rcs_flat' {w : World} {b : Nat} (rs : List RC) : ∀ (off : Nat), (∀ i r, rs[i]? = some r → RcAt w b (off + i * 4) r) → ∀ j u, (rcs rs)[j]? = some u → w.cell? ⟨b, off + j, none⟩ = some u := by
  induction rs with
  | nil => intro off _ j u h; simp [rcs] at h
  | cons r rs ih =>
    intro off h j u hj
    obtain ⟨a0, a1, a2, a3⟩ := h 0 r rfl
    simp only [Nat.zero_mul, Nat.add_zero] at a0 a1 a2 a3
    have e : rcs (r :: rs) = .int .i64 r.X :: .int .i64 r.Y :: .int .i64 r.W :: .int .i64 r.H :: rcs rs := by simp [rcs, RC.cells]
    rw [e] at hj
    match j, hj with
    | 0, hj => simp at hj; subst hj; exact a0
    | 1, hj => simp at hj; subst hj; exact a1
    | 2, hj => simp at hj; subst hj; exact a2
    | 3, hj => simp at hj; subst hj; exact a3
    | j + 4, hj =>
      have := ih (off + 4) (fun i r' hi => by
        have := h (i + 1) r' (by simpa using hi)
        rwa [show off + (i + 1) * 4 = off + 4 + i * 4 from by omega] at this) j u (by simpa using hj)
      rwa [show off + (j + 4) = off + 4 + j from by omega]
theorem rcs_one' (rs : List RC) : ∀ u ∈ rcs rs, u.oneCell' = true := by
  intro u hu
  obtain ⟨r, _, hr⟩ := List.mem_flatMap.1 hu
  exact cells_one r u hr
theorem RdR_none {w : World} {A : Option Addr} {n : Nat} {rs : List RC} (h : RdR w A n rs) (hA : A = none) : n = 0 ∧ rs = [] := by
  have h0 : n = 0 := by
    refine Classical.byContradiction fun hn => ?_
    obtain ⟨b, off, e, _⟩ := h.2 (by omega)
    rw [hA] at e
    cases e
  exact ⟨h0, List.eq_nil_of_length_eq_zero (h.1.trans h0)⟩
/-- a new slice that reads as these rectangles. -/
def EndS (w : World) (n : Nat) (rs : List RC) (e : Ending) (w' : World) : Prop := ∃ A c, e = .returned (.slice A n c) ∧ RdR w' A n rs ∧ n ≤ c ∧ c ≤ maxLen ∧ Below w.heap.size w w'

set_option maxRecDepth 100000 in
set_option maxHeartbeats 1000000 in
theorem cloneR_any (A : Option Addr) (n c : Nat) (rs : List RC) (w : World) (hn : n ≤ 1000000000000) (hr : RdR w A n rs) :
    Calls Tryz.prog 110 #[.slice A n c] w fun e w' => EndS w n rs e w' := by
  obtain ⟨i0, hi0, hz0, hz1, hz2⟩ := info_parts Tryz.infoR
  have qn : ∀ (w : World) (a : Option Addr) (n c n' c' : Nat), (binOp .eql 58 (.slice a n c) (.slice none n' c')).run Tryz.prog w = .ok (.bool a.isNone) w := fun w a n c n' c' => Lib.run_eql_slice_nil w _ _ a n c n' c' Tryz.underlying58
  have HR := Lib.hid hr
  clear hr
  cases A with
  | none =>
    obtain ⟨rfl, rfl⟩ := RdR_none HR.out rfl
    go_enter Tryz.func110, Tryz.ntmps110
    go_wp2_with fail
    go_ret
    exact ⟨none, 0, rfl, ⟨rfl, fun h => absurd h (by omega)⟩, Nat.le_refl _, Nat.zero_le _, bre _⟩
  | some a =>
    go_enter Tryz.func110, Tryz.ntmps110
    have hown : (w.alloc (.cells #[] 113)).ownsRow w.heap.size 113 4 (.slice (some ⟨w.heap.size, 0, none⟩) 0 0) 0 (rcs []) := rcs_own (cs := []) (Nat.le_refl _) (Nat.le_refl _) (Nat.zero_le _) (Blk.new w _ _) rfl rfl rfl
    have HOWN := Lib.hid hown
    have hnews : ∀ j u, (rcs rs)[j]? = some u → (w.alloc (.cells #[] 113)).cell? (a.add j) = some u := fun j u hj => by
      have hl := (List.getElem?_eq_some_iff.1 hj).1
      rw [rcs_len, HR.out.1] at hl
      obtain ⟨b, off, e, hb, hc⟩ := HR.out.2 (by omega)
      injection e with e
      subst e
      have h1 := rcs_flat' rs off hc j u hj
      have h2 := (World.cell?_alloc_lt w (.cells #[] 113) ⟨b, off + j, none⟩ hb).trans h1
      unfold Addr.add
      split
      · rename_i e0; subst e0; exact h2
      · exact h2
    have HNEW := Lib.hid hnews
    have hrl : (rcs rs).length = n * 4 := by rw [rcs_len, HR.out.1]
    have HRL := Lib.hid hrl
    clear hown hnews hrl
    go_wp2_with (at_builtin; refine wpList_append_own _ rfl _ _ 58 rfl w.heap.size 113 i0 _ 4 32 Tryz.underlying58 hi0 hz0 hz1 hz2 rfl (by decide) _ _ _ rfl HOWN.out a n c (rcs rs) rfl HRL.out HNEW.out (rcs_one' rs) (by simp only [maxLen]; omega) (by omega) (by simp) ?_; intro v' w4 hown' hgrow _; have HO' := Lib.hid hown'; have HG := Lib.hid hgrow; clear hown' hgrow)
    have ho : w4.ownsRow w.heap.size 113 4 v' n (rcs rs) := by
      have := HO'.out
      rwa [Nat.zero_add, show rcs [] = [] from rfl, List.nil_append] at this
    have hB : Below w.heap.size w w4 := (bal (bre w) _).grown HG.out (by simp) (fun g e => by cases e; exact Nat.le_refl _)
    have hcm : ∃ A c, v' = .slice A n c ∧ n ≤ c ∧ c ≤ maxLen := by
      rcases ho.2 with ⟨rfl, rfl⟩ | ⟨g, cap, cur, rfl, _, _, hc, hm, _⟩
      · exact ⟨_, _, rfl, Nat.le_refl _, Nat.zero_le _⟩
      · exact ⟨_, _, rfl, hc, hm⟩
    obtain ⟨A', c', rfl, hc1, hc2⟩ := hcm
    go_ret
    exact ⟨A', c', rfl, RdR.of_own ho HR.out.1, hc1, hc2, hB⟩

set_option maxRecDepth 100000 in
set_option maxHeartbeats 1000000 in
theorem rectsR_any (v : Value) (rs : List RC) (w : World) (hr : RegAt w v rs) :
    Calls Tryz.prog 58 #[v] w fun e w' => EndS w rs.length rs e w' := by
  obtain ⟨A, c, rfl, hr, _, hn, _⟩ := hr
  have HR := Lib.hid hr
  obtain ⟨n, hn'⟩ : ∃ n, rs.length = n := ⟨_, rfl⟩
  rw [hn'] at HR hn ⊢
  clear hr hn'
  go_enter Tryz.func58, Tryz.ntmps58
  go_wp2_with (go_at_call 110; refine (cloneR_any _ _ _ rs _ hn (HR.out.below (bal (bre w) _))).mono ?_; rintro e w1 ⟨A', c', rfl, hr1, hc1, hc2, hb1⟩; have HR1 := Lib.hid hr1; have HC1 := Lib.hid hc1; have HC2 := Lib.hid hc2; have HB1 := Lib.hid hb1; clear hr1 hc1 hc2 hb1)
  go_ret
  exact ⟨A', c', rfl, HR1.out, HC1.out, HC2.out, bstep (bal (bre w) _) HB1.out⟩

theorem tellY_any : TellFn 150 RC.Y RC.H := by
  refine ⟨fun args W => by simp [go_sem], fun r w h => ?_⟩
  go_enter Tryz.func150, Tryz.ntmps150
  go_wp2_with fail
  go_quiet (fail)
  go_wp2_with fail
  go_ret2
  exact ⟨rfl, below_drewN (bal (bre w) _) _⟩
theorem tellX_any : TellFn 152 RC.X RC.W := by
  refine ⟨fun args W => by simp [go_sem], fun r w h => ?_⟩
  go_enter Tryz.func152, Tryz.ntmps152
  go_wp2_with fail
  go_quiet (fail)
  go_wp2_with fail
  go_ret2
  exact ⟨rfl, below_drewN (bal (bre w) _) _⟩
/-- a rule that is a function. -/
def KeepFn (f : Nat) (keep : Bool → Bool → Bool) : Prop := CallsF f ∧ ∀ (a b : Bool) (w : World), Calls Tryz.prog f #[.bool a, .bool b] w fun e w' => e = .returned (.bool (keep a b)) ∧ w = w'

theorem RowAt.blk {B : Nat} {w : World} {g : Nat} {t : TypeId} {l : List RC} (h : RowAt B w g t l) : ∃ cs, Blk w g t cs := by
  obtain ⟨A, c, h, _⟩ := h
  exact ⟨_, h⟩
theorem RowAt.notRow {B : Nat} {w : World} {g base e size n : Nat} {t : TypeId} {l : List RC} {v : Value} {xs : List Value} (h : RowAt B w g t l) (ho : w.ownsRow base e size v n xs) (ht : t ≠ e) : v.ownBlock ≠ some g := by
  obtain ⟨cs, hb⟩ := h.blk
  exact own_other ho hb ht
theorem own_notRow {B : Nat} {w w' : World} {g base e size n : Nat} {t : TypeId} {l : List RC} {v : Value} {xs : List Value} (ho : w.ownsRow base e size v n xs) (h : RowAt B w g t l) (ht : t ≠ e) (hg : w.grownBy w' (some g)) : w'.ownsRow base e size v n xs :=
  ho.kept hg (.inr (fun e' => h.notRow ho ht e'))
/-- a slice of rectangles in a variable stays where another row grows. -/
theorem RowAt.keepOut {B : Nat} {w w' : World} {g n : Nat} {t : TypeId} {l cells : List RC} {v : Value} (h : RowAt B w g t l) (ho : w.ownsRow B 113 4 v n (rcs cells)) (ht : t ≠ 113) (hg : w.grownBy w' v.ownBlock) : RowAt B w' g t l := by
  have hn := h.notRow ho ht
  obtain ⟨A, c, h1, h2, h3, h4, h5⟩ := h
  refine ⟨A, c, h1.grown hg (fun e => hn e.symm), ⟨h2.1, fun hl => ?_⟩, h3, h4, h5⟩
  obtain ⟨b, off, e, hb, hc⟩ := h2.2 hl
  have hlt := h5 hl _ e
  refine ⟨b, off, e, Nat.lt_of_lt_of_le hb hg.size, fun i r hi => ?_⟩
  have hk : ∀ o u, w.cell? ⟨b, o, none⟩ = some u → w'.cell? ⟨b, o, none⟩ = some u := fun o u hu => by
    have h5 := hg.block b hb (fun e => by have := own_ge ho b e.symm; dsimp only at hlt; omega)
    have : w'.cell? ⟨b, o, none⟩ = w.cell? ⟨b, o, none⟩ := by simp only [World.cell?, h5]
    rw [this]; exact hu
  obtain ⟨c0, c1, c2, c3⟩ := hc i r hi
  exact ⟨hk _ _ c0, hk _ _ c1, hk _ _ c2, hk _ _ c3⟩

/-- what the outer rounds keep. -/
structure JO (V : World) (la lb : List RC) (vo : Value) (cells : List RC) (wr : World) : Prop where
  up : RowAt V.heap.size wr V.heap.size 232 la
  dn : RowAt V.heap.size wr (V.heap.size + 1) 232 lb
  out : wr.ownsRow V.heap.size 113 4 vo cells.length (rcs cells)
  bel : Below V.heap.size V wr
section
variable {V : World} {la lb la' lb' lp lq lp' lq' cells cells' : List RC} {vo vo' vx : Value} {xs : List Int} {wr w' : World} {g16 : Nat}
theorem JO.below (h : JO V la lb vo cells wr) (hb : Below wr.heap.size wr w') : JO V la lb vo cells w' :=
  ⟨h.up.below hb, h.dn.below hb, ownsRow_below h.out hb, bstep h.bel hb⟩
theorem JO.rowUp (h : JO V la lb vo cells wr) (hu : RowAt V.heap.size w' V.heap.size 232 la') (hg : wr.grownBy w' (some V.heap.size)) : JO V la' lb vo cells w' :=
  ⟨hu, h.dn.other h.up (by omega) hg, own_notRow h.out h.up (by decide) hg, h.bel.grown hg h.bel.size (fun q e => by cases e; exact Nat.le_refl _)⟩
theorem JO.rowDn (h : JO V la lb vo cells wr) (hu : RowAt V.heap.size w' (V.heap.size + 1) 232 lb') (hg : wr.grownBy w' (some (V.heap.size + 1))) : JO V la lb' vo cells w' :=
  ⟨h.up.other h.dn (by omega) hg, hu, own_notRow h.out h.dn (by decide) hg, h.bel.grown hg h.bel.size (fun q e => by cases e; omega)⟩

/-- what the inner rounds keep. -/
structure JM (V : World) (g16 : Nat) (la lb lp lq : List RC) (vx : Value) (xs : List Int) (vo : Value) (cells : List RC) (wr : World) : Prop where
  o : JO V la lb vo cells wr
  p : RowAt V.heap.size wr g16 58 lp
  q : RowAt V.heap.size wr (g16 + 1) 58 lq
  xs : OwnI wr V.heap.size vx xs
  g16 : V.heap.size + 1 < g16
theorem JM.below (h : JM V g16 la lb lp lq vx xs vo cells wr) (hb : Below wr.heap.size wr w') : JM V g16 la lb lp lq vx xs vo cells w' :=
  ⟨h.o.below hb, h.p.below hb, h.q.below hb, ownsRow_below h.xs hb, h.g16⟩
theorem JM.rowP (h : JM V g16 la lb lp lq vx xs vo cells wr) (hu : RowAt V.heap.size w' g16 58 lp') (hg : wr.grownBy w' (some g16)) : JM V g16 la lb lp' lq vx xs vo cells w' :=
  ⟨⟨h.o.up.other h.p (by have := h.g16; omega) hg, h.o.dn.other h.p (by have := h.g16; omega) hg, own_notRow h.o.out h.p (by decide) hg, h.o.bel.grown hg h.o.bel.size (fun q e => by cases e; have := h.g16; omega)⟩, hu, h.q.other h.p (by omega) hg, own_notRow h.xs h.p (by decide) hg, h.g16⟩
theorem JM.rowQ (h : JM V g16 la lb lp lq vx xs vo cells wr) (hu : RowAt V.heap.size w' (g16 + 1) 58 lq') (hg : wr.grownBy w' (some (g16 + 1))) : JM V g16 la lb lp lq' vx xs vo cells w' :=
  ⟨⟨h.o.up.other h.q (by have := h.g16; omega) hg, h.o.dn.other h.q (by have := h.g16; omega) hg, own_notRow h.o.out h.q (by decide) hg, h.o.bel.grown hg h.o.bel.size (fun q e => by cases e; have := h.g16; omega)⟩, h.p.other h.q (by omega) hg, hu, own_notRow h.xs h.q (by decide) hg, h.g16⟩
/-- the cells written grow. -/
theorem JM.outs (h : JM V g16 la lb lp lq vx xs vo cells wr) (ho : w'.ownsRow V.heap.size 113 4 vo' cells'.length (rcs cells')) (hg : wr.grownBy w' vo.ownBlock) : JM V g16 la lb lp lq vx xs vo' cells' w' := by
  have hx : vx.ownBlock = none ∨ vx.ownBlock ≠ vo.ownBlock := by
    cases hv : vx.ownBlock with
    | none => exact .inl rfl
    | some g =>
      right
      obtain ⟨cs, hb⟩ := own_cells h.xs hv
      exact fun e => own_other h.o.out hb (by decide) e.symm
  exact ⟨⟨h.o.up.keepOut h.o.out (by decide) hg, h.o.dn.keepOut h.o.out (by decide) hg, ho, h.o.bel.grown hg h.o.bel.size (own_ge h.o.out)⟩, h.p.keepOut h.o.out (by decide) hg, h.q.keepOut h.o.out (by decide) hg, h.xs.kept hg hx, h.g16⟩
end

end Go.Proofs.YtbkkecijcijhdaaGreat
end
