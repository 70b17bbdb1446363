/-
  The last step of every law's row: a call that answers true and leaves whatever lay as it lay meets the row 'true; each argument reads as it did', whatever the arguments are.
  Scenes that came in, opened: two numbers, and a slice of panes.
  The law ViewAt of glazierlaw31 answers true at every input.
-/
import Derived.Test.YtbkkecijcijhdaaGreatRows
import Derived.ProofKit
import Derived.OpenShut
import Derived.Lib.SmallJoins
import Derived.Deep.Slices
import Derived.Test.YtbkkecijcijhdaaGreatZA34
import Derived.Test.YtbkkecijcijhdaaGreatZA38
section
namespace Go.Proofs.YtbkkecijcijhdaaGreat
open Go.ChangeShapes Go.WideShapes Go.ChangeAt Go.RowKit

theorem Tryz.own : ownKnob Tryz.prog.godebug = none := by kernel_rfl
theorem Tryz.laidOut : laidOutB Tryz.prog = true := by kernel_rfl

section
variable {H : Type} {enc : TypeId × Value → H} {P : Program}

/-- whatever was read reads behind the call as it did. -/
theorem trodAll_stays (hl : laidOutB P = true) {W W' : World} (hb : Below W.heap.size W W') : ∀ {ts : List TypeId} {vs : List Value} {ds : List (DataW H)} {ps : List MemPlace},
    (∀ t ∈ ts, P.readableRec t = true ∧ t < P.types.size) → DataW.TrodAll enc P W 0 (fun _ => true) true ts vs ds ps → (∀ x ∈ ps, x.block < W.heap.size) →
    ∀ sp : Nat → Bool, (∀ x ∈ ps, sp x.block = true) → DataW.TrodAll enc P W' 0 sp true ts vs ds ps
  | [], vs, ds, ps, _, h, _, sp, _ => by
    obtain ⟨rfl, rfl, rfl⟩ := trodAll_nil h
    exact trodAll_mk0
  | t :: ts, vs, ds, ps, hts, h, hlt, sp, hsp => by
    obtain ⟨v, vs', d, ds', p, q, rfl, rfl, rfl, h1, h2⟩ := trodAll_cons h
    obtain ⟨ht1, ht2⟩ := hts t (by simp)
    refine trodAll_cons_mk (WideElems.Trod_stays hl ht1 ht2 h1 (fun x hx => hb.same (hlt x (by simp [hx]))) (fun x hx => hsp x (by simp [hx]))) ?_
    exact trodAll_stays hl hb (fun t' ht' => hts t' (by simp [ht'])) h2 (fun x hx => hlt x (by simp [hx])) sp (fun x hx => hsp x (by simp [hx]))

theorem law_post {f : Func} {s : ChangeSpec} {apart fresh handsOn again : Bool} {W W' : World} {args : Array Value} {ds : List (DataW H)} {before : List MemPlace} {tb : TypeId}
    (hl : laidOutB P = true) (hts : ∀ t ∈ f.params.toList, P.readableRec t = true ∧ t < P.types.size) (hv : s.vars = [])
    (hW : DataW.Whole enc P f.params.toList s.vars apart W args.toList ds [] before) (hA : DataW.TrodAll enc P W 0 (fun _ => true) true f.params.toList args.toList ds before)
    (hs : s.fn H (ds ++ []) = { results := [.lit (.bool true)], args := ds }) (hr : f.resultTypes = #[tb]) (htb : P.underlying tb = some .bool) (hb : Below W.heap.size W W') :
    s.post enc P f apart fresh handsOn again W args (.bool true) W' := by
  have hlt : ∀ p ∈ before, p.block < W.heap.size := fun p hp => hW.lt p hp
  have hold : ∀ p ∈ before, (fun b => decide (b < W.heap.size)) p.block = true := fun p hp => by simpa using hlt p hp
  have hargs : ∀ sp : Nat → Bool, (∀ p ∈ before, sp p.block = true) → DataW.TrodAll enc P W' 0 sp true f.params.toList args.toList (s.fn H (ds ++ [])).args before := by
    intro sp hsp
    rw [hs]
    exact trodAll_stays hl hb hts hA hlt sp hsp
  have hres : ∀ (b : Nat) (sp : Nat → Bool) (hd : Bool), DataW.TrodAll enc P W' b sp hd f.resultTypes.toList ((Value.bool true).resultList f.resultTypes.size) (s.fn H (ds ++ [])).results [] := by
    intro b sp hd
    rw [hs, hr]
    exact trodAll_mk1 (shut_bool htb true)
  have hvars : ∀ sp : Nat → Bool, DataW.TrodVars enc P W' sp s.vars (s.fn H (ds ++ [])).vars [] := by
    intro sp
    rw [hs, hv]
    exact rfl
  refine ⟨ds, [], before, [], before, [], hW, hres _ _ _, hargs _ hold, hvars _, World.keptBut_mono (fun p hp => ⟨hp, ?_⟩) (hb.frame (· ∈ before)), fun _ => ?_⟩
  · exact Or.inr (.inl hp)
  · obtain ⟨_, _, _, _, _, hz, hn⟩ := hW
    refine ⟨?_, _, _, ([] ++ before) ++ [], ⟨[] ++ before, [], trodAll_append (hargs _ (fun _ _ => rfl)) (hres _ _ _), hvars _, rfl, ?_, ?_⟩, ?_⟩
    · exact ok_one hr rfl (okWide_bool_mk htb true)
    · intro b off hp
      have hin : MemPlace.cell b off ∈ before := by simpa using hp
      rw [hb.frozen (hlt _ hin)]
      exact hz b off hin
    · intro ha
      simpa using hn ha
    · intro p hp _
      simpa using hp
end

end Go.Proofs.YtbkkecijcijhdaaGreat
end

section
namespace Go.Proofs.YtbkkecijcijhdaaGreat
open Go.ChangeShapes Go.WideShapes Go.ChangeAt Go.RowKit Go.Joins

section
variable {H : Type} {enc : TypeId × Value → H} {P : Program} {w : World} {base : Nat} {spare : Nat → Bool} {held : Bool} {α : Type}
theorem open_recs [Inhabited α] (f : α → List Value) (m : Nat) (hm : 0 < m) (Q : α → Prop) {t e : TypeId} {fuel : Nat} {v : Value} {y : DataW H × List MemPlace} (ht : P.underlying t = some (.slice e)) (hc : P.cellsOf e = m) (hfl : ∀ x, (f x).length = m)
    (hone : ∀ (cs : List Value) (n : Nat) (z : DataW H × List MemPlace), cs.length = m → DataW.trod enc P w base spare held n e cs = some z → ∃ x, cs = f x ∧ Q x) (h : DataW.trod enc P w base spare held fuel t [v] = some y) :
    ∃ (A : Option Addr) (n c : Nat) (l : List α), v = .slice A n c ∧ n ≤ maxLen ∧ RdF f m w A n l ∧ ∀ x ∈ l, Q x := by
  rcases Deep.open_slice ht h with ⟨h0, _⟩ | ⟨a, len, cap, mm, n, D, Pl, hcs, _, hl, hcap, hmm, _, hx⟩
  · simp at h0
    exact ⟨none, 0, 0, [], h0, Nat.zero_le _, RdF.nil _ _ _ _, by simp⟩
  · simp at hcs
    have hlm : len ≤ mm := by rw [hmm]; split <;> omega
    have each : ∀ k, k < len → ∃ x : α, (∀ i u, (f x)[i]? = some u → w.cell? ((a.add (k * m)).add i) = some u) ∧ Q x := fun k hk => by
      obtain ⟨cs', h1, h2⟩ := hx k (by omega)
      rw [hc] at h1
      obtain ⟨_, hlen, hat⟩ := World.cells?_some h1
      obtain ⟨x, rfl, hq⟩ := hone cs' n _ hlen h2
      refine ⟨x, fun i u hu => ?_, hq⟩
      have hi : i < m := by have := (List.getElem?_eq_some_iff.1 hu).1; rwa [hfl] at this
      rw [hat i hi, hu]
    obtain ⟨g, hg⟩ := Deep.choose_lt each
    refine ⟨some a, len, cap, (List.range len).map g, hcs, by omega, ⟨by simp, fun hn => ?_⟩, fun x hx' => ?_⟩
    · have hf0 : ∃ u, (f (g 0))[0]? = some u := ⟨_, List.getElem?_eq_getElem (by rw [hfl]; exact hm)⟩
      obtain ⟨u0, hu0⟩ := hf0
      have h0 := (hg 0 hn).1 0 u0 hu0
      have hs : a.spot = none := by simpa [Addr.add] using World.cell?_spot h0
      obtain ⟨b, off, spot⟩ := a
      simp only at hs
      subst hs
      have hadd : ∀ o k, (⟨b, o, none⟩ : Addr).add k = ⟨b, o + k, none⟩ := fun o k => by
        unfold Addr.add
        split
        · rename_i h; subst h; rfl
        · rfl
      refine ⟨b, off, rfl, block_lt_of_cell (by rw [hadd, hadd] at h0; exact h0), fun k x hk i u hu => ?_⟩
      have hkl : k < len := by have := (List.getElem?_eq_some_iff.1 hk).1; simpa using this
      have hx' : g k = x := by simpa [List.getElem?_range hkl] using hk
      have := (hg k hkl).1 i u (by rw [hx']; exact hu)
      rwa [hadd, hadd] at this
    · obtain ⟨k, hk, rfl⟩ := List.mem_map.1 hx'
      exact (hg k (by simpa using hk)).2
end

instance : Inhabited PN := ⟨⟨0, 0, 0, 0, 0, 0, 0, 0, 0, 0, 0, 0, 0, 0⟩⟩
section
variable {H : Type} {enc : TypeId × Value → H} {w : World} {base : Nat} {spare : Nat → Bool} {held : Bool}
set_option maxRecDepth 100000 in
theorem Tryz.cellsU8 : Tryz.prog.cellsOf 5 = 1 := by kernel_rfl
set_option maxRecDepth 100000 in
theorem Tryz.cellsI8 : Tryz.prog.cellsOf 63 = 1 := by kernel_rfl
set_option maxRecDepth 100000 in
theorem Tryz.cellsQ4 : Tryz.prog.cellsOf 64 = 4 := by kernel_rfl
set_option maxRecDepth 100000 in
theorem Tryz.cellsQ8 : Tryz.prog.cellsOf 65 = 8 := by kernel_rfl
set_option maxRecDepth 100000 in
theorem Tryz.cellsPn : Tryz.prog.cellsOf 67 = 14 := by kernel_rfl
set_option maxRecDepth 100000 in
theorem and_i {a b : Bool} (h1 : a = true) (h2 : b = true) : (a && b) = true := by rw [h1, h2]; rfl
set_option maxRecDepth 100000 in
theorem Tryz.cellsSc : Tryz.prog.cellsOf 24 = 3 := by kernel_rfl
set_option maxRecDepth 100000 in
/-- a pane, opened. -/
theorem open_pane {cs : List Value} {n : Nat} {z : DataW H × List MemPlace} (hl : cs.length = 14) (hz : DataW.trod enc Tryz.prog w base spare held n 67 cs = some z) : ∃ p : PN, cs = p.cells ∧ p.ok := by
  obtain ⟨xs, n', _, _, _, hxl, hel⟩ := DataW.trod_struct Tryz.underlying67 hz
  match cs, hl, hel with
  | [c0, c1, c2, c3, c4, c5, d0, d1, d2, d3, d4, d5, d6, d7], _, hel =>
    have hxl' : xs.length = 7 := hxl
    have k0 : DataW.trod enc Tryz.prog w base spare held n' 5 (([c0, c1, c2, c3, c4, c5, d0, d1, d2, d3, d4, d5, d6, d7].drop 0).take (Tryz.prog.cellsOf 5)) = xs[0]? := hel 0 _ rfl
    rw [show xs[0]? = some xs[0] from List.getElem?_eq_getElem (by omega)] at k0
    rw [Tryz.cellsU8] at k0
    obtain ⟨x0, e0, _, w0⟩ := DataW.trod_int Tryz.underlying5 k0
    have k1 : DataW.trod enc Tryz.prog w base spare held n' 63 (([c0, c1, c2, c3, c4, c5, d0, d1, d2, d3, d4, d5, d6, d7].drop 1).take (Tryz.prog.cellsOf 63)) = xs[1]? := hel 1 _ rfl
    rw [show xs[1]? = some xs[1] from List.getElem?_eq_getElem (by omega)] at k1
    rw [Tryz.cellsI8] at k1
    obtain ⟨x1, e1, _, w1⟩ := DataW.trod_int Tryz.underlying63 k1
    have k2 : DataW.trod enc Tryz.prog w base spare held n' 63 (([c0, c1, c2, c3, c4, c5, d0, d1, d2, d3, d4, d5, d6, d7].drop 2).take (Tryz.prog.cellsOf 63)) = xs[2]? := hel 2 _ rfl
    rw [show xs[2]? = some xs[2] from List.getElem?_eq_getElem (by omega)] at k2
    rw [Tryz.cellsI8] at k2
    obtain ⟨x2, e2, _, w2⟩ := DataW.trod_int Tryz.underlying63 k2
    have k3 : DataW.trod enc Tryz.prog w base spare held n' 63 (([c0, c1, c2, c3, c4, c5, d0, d1, d2, d3, d4, d5, d6, d7].drop 3).take (Tryz.prog.cellsOf 63)) = xs[3]? := hel 3 _ rfl
    rw [show xs[3]? = some xs[3] from List.getElem?_eq_getElem (by omega)] at k3
    rw [Tryz.cellsI8] at k3
    obtain ⟨x3, e3, _, w3⟩ := DataW.trod_int Tryz.underlying63 k3
    have k4 : DataW.trod enc Tryz.prog w base spare held n' 63 (([c0, c1, c2, c3, c4, c5, d0, d1, d2, d3, d4, d5, d6, d7].drop 4).take (Tryz.prog.cellsOf 63)) = xs[4]? := hel 4 _ rfl
    rw [show xs[4]? = some xs[4] from List.getElem?_eq_getElem (by omega)] at k4
    rw [Tryz.cellsI8] at k4
    obtain ⟨x4, e4, _, w4⟩ := DataW.trod_int Tryz.underlying63 k4
    have k5 : DataW.trod enc Tryz.prog w base spare held n' 5 (([c0, c1, c2, c3, c4, c5, d0, d1, d2, d3, d4, d5, d6, d7].drop 5).take (Tryz.prog.cellsOf 5)) = xs[5]? := hel 5 _ rfl
    rw [show xs[5]? = some xs[5] from List.getElem?_eq_getElem (by omega)] at k5
    rw [Tryz.cellsU8] at k5
    obtain ⟨x5, e5, _, w5⟩ := DataW.trod_int Tryz.underlying5 k5
    have k6 : DataW.trod enc Tryz.prog w base spare held n' 65 (([c0, c1, c2, c3, c4, c5, d0, d1, d2, d3, d4, d5, d6, d7].drop 6).take (Tryz.prog.cellsOf 65)) = xs[6]? := hel 6 _ rfl
    rw [show xs[6]? = some xs[6] from List.getElem?_eq_getElem (by omega)] at k6
    rw [Tryz.cellsQ8] at k6
    obtain ⟨ys, m, _, _, _, hyl, hye⟩ := DataW.trod_array Tryz.underlying65 k6
    have j0 := hye 0 (by decide)
    rw [show ys[0]? = some ys[0] from List.getElem?_eq_getElem (by omega), Tryz.cellsQ4] at j0
    obtain ⟨y00, y01, y02, y03, m0, _, g00, g01, g02, g03⟩ := trod_array4 Tryz.underlying64 Tryz.cellsU8 (show DataW.trod enc Tryz.prog w base spare held m 64 [d0, d1, d2, d3] = some ys[0] from j0)
    obtain ⟨s0, f0, _, v0⟩ := DataW.trod_int Tryz.underlying5 g00
    obtain ⟨s1, f1, _, v1⟩ := DataW.trod_int Tryz.underlying5 g01
    obtain ⟨s2, f2, _, v2⟩ := DataW.trod_int Tryz.underlying5 g02
    obtain ⟨s3, f3, _, v3⟩ := DataW.trod_int Tryz.underlying5 g03
    have j1 := hye 1 (by decide)
    rw [show ys[1]? = some ys[1] from List.getElem?_eq_getElem (by omega), Tryz.cellsQ4] at j1
    obtain ⟨y10, y11, y12, y13, m1, _, g10, g11, g12, g13⟩ := trod_array4 Tryz.underlying64 Tryz.cellsU8 (show DataW.trod enc Tryz.prog w base spare held m 64 [d4, d5, d6, d7] = some ys[1] from j1)
    obtain ⟨s4, f4, _, v4⟩ := DataW.trod_int Tryz.underlying5 g10
    obtain ⟨s5, f5, _, v5⟩ := DataW.trod_int Tryz.underlying5 g11
    obtain ⟨s6, f6, _, v6⟩ := DataW.trod_int Tryz.underlying5 g12
    obtain ⟨s7, f7, _, v7⟩ := DataW.trod_int Tryz.underlying5 g13
    simp at e0 e1 e2 e3 e4 e5 f0 f1 f2 f3 f4 f5 f6 f7
    subst e0 e1 e2 e3 e4 e5 f0 f1 f2 f3 f4 f5 f6 f7
    exact ⟨⟨x0, x1, x2, x3, x4, x5, s0, s1, s2, s3, s4, s5, s6, s7⟩, rfl, ⟨bounds_u8 w0, bounds_i8 w1, bounds_i8 w2, bounds_i8 w3, bounds_i8 w4, bounds_u8 w5, ⟨⟨bounds_u8 v0, bounds_u8 v1, bounds_u8 v2, bounds_u8 v3⟩, bounds_u8 v4, bounds_u8 v5, bounds_u8 v6, bounds_u8 v7⟩⟩⟩
/-- a slice of panes. -/
theorem open_panes {fuel : Nat} {v : Value} {y : DataW H × List MemPlace} (h : DataW.trod enc Tryz.prog w base spare held fuel 22 [v] = some y) :
    ∃ (A : Option Addr) (n c : Nat) (l : List PN), v = .slice A n c ∧ n ≤ maxLen ∧ RdF PN.cells 14 w A n l ∧ ∀ p ∈ l, p.ok :=
  open_recs PN.cells 14 (by decide) PN.ok Tryz.underlying22 Tryz.cellsPn (fun _ => rfl) (fun _ _ _ hl hz => open_pane hl hz) h
end
end Go.Proofs.YtbkkecijcijhdaaGreat
end

section
namespace Go.Proofs.YtbkkecijcijhdaaGreat
open Go.ChangeShapes Go.WideShapes Go.ChangeAt Go.RowKit Go.Joins

set_option maxRecDepth 100000 in
theorem viewAt_lifted (os : Os) (started : os.Started) (H : Type) (enc : TypeId × Value → H) :
    ReturnsInHanded {} Tryz.checked os 5 .any (Rows.viewAtSpec.pre6 enc Tryz.prog Tryz.f5 Rows.viewAtRow.domain false) (Rows.viewAtSpec.post enc Tryz.prog Tryz.f5 false true false false) := by
  refine returnsInHanded_of_change (C := Tryz.checked) Tryz.own started (by kernel_rfl) Tryz.func5
    (ChangeSpec.witness6 (enc := enc) (C := Tryz.checked) false ⟨#[], #[.agg #[.int .u8 0, .int .u8 0, .slice none 0 0]], []⟩ 8 (by kernel_rfl) (by kernel_rfl) (by kernel_rfl) (by kernel_rfl)) ?_
  intro W base args ds gs before hval0 hW hcnd _
  have hval : ∀ (j : Nat) t v, Tryz.f5.params[j]? = some t → args[j]? = some v → Value.okWide Tryz.prog W .any base t v := hval0
  have hW' := hW
  obtain ⟨p, q, hA0, hV, rfl, hfz, hnd⟩ := hW
  have hA : DataW.TrodAll enc Tryz.prog W 0 (fun _ => true) true Tryz.f5.params.toList args.toList ds p := hA0
  have hAk := hA
  obtain ⟨rfl, rfl⟩ := trodVars_none hV
  rw [List.append_nil] at hW'
  rw [Tryz.params5] at hA hval
  obtain ⟨v0, d0, rfl, rfl, h0⟩ := trodAll_one hA
  obtain ⟨c00, c01, c02, y00, y01, y02, m0, rfl, rfl, rfl, hy00, hy01, hy02⟩ := open_agg3 Tryz.underlying24 (by kernel_rfl) Tryz.cellsSc (hval 0 24 v0 rfl rfl) h0
  obtain ⟨x00, e00, _, wx00⟩ := DataW.trod_int Tryz.underlying5 hy00
  obtain ⟨x01, e01, _, wx01⟩ := DataW.trod_int Tryz.underlying5 hy01
  obtain ⟨A, n, c, ps, e02, hn, hps, hpok⟩ := open_panes hy02
  simp at e00 e01
  subst e00 e01 e02
  clear hA0 hval0
  refine (viewAt_any x00 x01 A n c ps W (bounds_u8 wx00) (bounds_u8 wx01) hn hps hpok).mono fun e W' ⟨he, hb⟩ => ?_
  subst he
  exact ⟨_, rfl, law_post Tryz.laidOut (by decide +kernel) rfl hW' hAk rfl rfl Tryz.underlying4 hb⟩

set_option maxRecDepth 100000 in
set_option maxHeartbeats 100000000 in
/-- the closed facts, limb by limb (all at once they are too much for one declaration). -/
theorem viewAt_facts : joinedFacts Tryz.pinned.checked.prog 5 Tryz.f5 Rows.viewAtSpec Rows.viewAtRow = true := by
  unfold joinedFacts
  repeat' with_reducible apply and_i
  all_goals (as_aux_lemma => kernel_rfl)
set_option maxHeartbeats 100000000 in
theorem viewAt_holds : Rows.ViewAtSaid :=
  OpenClaim.holds_of_wide 5 Tryz.f5 rfl rfl rfl rfl rfl rfl rfl ⟨rfl, rfl, rfl, rfl, rfl⟩ rfl rfl rfl rfl rfl (by as_aux_lemma => kernel_rfl) Tryz.func5 viewAt_facts
    (of_decide_eq_true (by as_aux_lemma => kernel_rfl)) (by as_aux_lemma => unfold Func.isWrapper; first | (rw [if_pos (by decide +kernel)]; kernel_rfl) | (rw [if_neg (by decide +kernel)]; exact ⟨rfl, rfl⟩))
    (fun os started H enc _ => viewAt_lifted os started H enc)

end Go.Proofs.YtbkkecijcijhdaaGreat
end
