/-
  The last step of every law's row: a call that answers true and leaves whatever lay as it lay meets the row 'true; each argument reads as it did', whatever the arguments are.
  Windows that came in, opened: two numbers, a slice of ids, and a slice of boxes with a slice of rectangles each.
-/
import Derived.Test.YtbfefkhejknmoaaGreatDoorRows
import Derived.ProofKit
import Derived.OpenShut
import Derived.Lib.SmallJoins
import Derived.Deep.Slices
import Derived.Test.YtbfefkhejknmoaaGreatDoorCh29
namespace Go.Proofs.YtbfefkhejknmoaaGreatDoor
open Go.ChangeShapes Go.WideShapes Go.ChangeAt Go.RowKit

theorem Tryz.own : ownKnob Tryz.prog.godebug = none := by kernel_rfl
theorem Tryz.laidOut : laidOutB Tryz.prog = true := by kernel_rfl

section
variable {H : Type} {enc : TypeId × Value → H} {P : Program}

/-- whatever was read reads behind the call as it did. -/
theorem trodAll_stays (hl : laidOutB P = true) {W W' : World} (hb : Below W.heap.size W W') : ∀ {ts : List TypeId} {vs : List Value} {ds : List (DataW H)} {ps : List MemPlace},
    (∀ t ∈ ts, P.readableRec t = true ∧ t < P.types.size) → DataW.TrodAll enc P W 0 (fun _ => true) true ts vs ds ps → (∀ x ∈ ps, x.block < W.heap.size) →
    ∀ sp : Nat → Bool, (∀ x ∈ ps, sp x.block = true) → DataW.TrodAll enc P W' 0 sp true ts vs ds ps
  | [], vs, ds, ps, _, h, _, sp, _ => by
    obtain ⟨rfl, rfl, rfl⟩ := trodAll_nil h
    exact trodAll_mk0
  | t :: ts, vs, ds, ps, hts, h, hlt, sp, hsp => by
    obtain ⟨v, vs', d, ds', p, q, rfl, rfl, rfl, h1, h2⟩ := trodAll_cons h
    obtain ⟨ht1, ht2⟩ := hts t (by simp)
    refine trodAll_cons_mk (WideElems.Trod_stays hl ht1 ht2 h1 (fun x hx => hb.same (hlt x (by simp [hx]))) (fun x hx => hsp x (by simp [hx]))) ?_
    exact trodAll_stays hl hb (fun t' ht' => hts t' (by simp [ht'])) h2 (fun x hx => hlt x (by simp [hx])) sp (fun x hx => hsp x (by simp [hx]))

theorem law_post {f : Func} {s : ChangeSpec} {apart fresh handsOn again : Bool} {W W' : World} {args : Array Value} {ds : List (DataW H)} {before : List MemPlace} {tb : TypeId}
    (hl : laidOutB P = true) (hts : ∀ t ∈ f.params.toList, P.readableRec t = true ∧ t < P.types.size) (hv : s.vars = [])
    (hW : DataW.Whole enc P f.params.toList s.vars apart W args.toList ds [] before) (hA : DataW.TrodAll enc P W 0 (fun _ => true) true f.params.toList args.toList ds before)
    (hs : s.fn H (ds ++ []) = { results := [.lit (.bool true)], args := ds }) (hr : f.resultTypes = #[tb]) (htb : P.underlying tb = some .bool) (hb : Below W.heap.size W W') :
    s.post enc P f apart fresh handsOn again W args (.bool true) W' := by
  have hlt : ∀ p ∈ before, p.block < W.heap.size := fun p hp => hW.lt p hp
  have hold : ∀ p ∈ before, (fun b => decide (b < W.heap.size)) p.block = true := fun p hp => by simpa using hlt p hp
  have hargs : ∀ sp : Nat → Bool, (∀ p ∈ before, sp p.block = true) → DataW.TrodAll enc P W' 0 sp true f.params.toList args.toList (s.fn H (ds ++ [])).args before := by
    intro sp hsp
    rw [hs]
    exact trodAll_stays hl hb hts hA hlt sp hsp
  have hres : ∀ (b : Nat) (sp : Nat → Bool) (hd : Bool), DataW.TrodAll enc P W' b sp hd f.resultTypes.toList ((Value.bool true).resultList f.resultTypes.size) (s.fn H (ds ++ [])).results [] := by
    intro b sp hd
    rw [hs, hr]
    exact trodAll_mk1 (shut_bool htb true)
  have hvars : ∀ sp : Nat → Bool, DataW.TrodVars enc P W' sp s.vars (s.fn H (ds ++ [])).vars [] := by
    intro sp
    rw [hs, hv]
    exact rfl
  refine ⟨ds, [], before, [], before, [], hW, hres _ _ _, hargs _ hold, hvars _, World.keptBut_mono (fun p hp => ⟨hp, ?_⟩) (hb.frame (· ∈ before)), fun _ => ?_⟩
  · exact Or.inr (.inl hp)
  · obtain ⟨_, _, _, _, _, hz, hn⟩ := hW
    refine ⟨?_, _, _, ([] ++ before) ++ [], ⟨[] ++ before, [], trodAll_append (hargs _ (fun _ _ => rfl)) (hres _ _ _), hvars _, rfl, ?_, ?_⟩, ?_⟩
    · exact ok_one hr rfl (okWide_bool_mk htb true)
    · intro b off hp
      have hin : MemPlace.cell b off ∈ before := by simpa using hp
      rw [hb.frozen (hlt _ hin)]
      exact hz b off hin
    · intro ha
      simpa using hn ha
    · intro p hp _
      simpa using hp
end

end Go.Proofs.YtbfefkhejknmoaaGreatDoor

namespace Go.Proofs.YtbfefkhejknmoaaGreatDoor
open Go.ChangeShapes Go.WideShapes Go.ChangeAt Go.RowKit Go.Joins

section
variable {H : Type} {enc : TypeId × Value → H} {P : Program} {w : World} {base : Nat} {spare : Nat → Bool} {held : Bool} {α : Type}
theorem open_recs [Inhabited α] (f : α → List Value) (m : Nat) (hm : 0 < m) (Q : α → Prop) {t e : TypeId} {fuel : Nat} {v : Value} {y : DataW H × List MemPlace} (ht : P.underlying t = some (.slice e)) (hc : P.cellsOf e = m) (hfl : ∀ x, (f x).length = m)
    (hone : ∀ (cs : List Value) (n : Nat) (z : DataW H × List MemPlace), cs.length = m → DataW.trod enc P w base spare held n e cs = some z → ∃ x, cs = f x ∧ Q x) (h : DataW.trod enc P w base spare held fuel t [v] = some y) :
    ∃ (A : Option Addr) (n c : Nat) (l : List α), v = .slice A n c ∧ n ≤ maxLen ∧ RdF f m w A n l ∧ ∀ x ∈ l, Q x := by
  rcases Deep.open_slice ht h with ⟨h0, _⟩ | ⟨a, len, cap, mm, n, D, Pl, hcs, _, hl, hcap, hmm, _, hx⟩
  · simp at h0
    exact ⟨none, 0, 0, [], h0, Nat.zero_le _, RdF.nil _ _ _ _, by simp⟩
  · simp at hcs
    have hlm : len ≤ mm := by rw [hmm]; split <;> omega
    have each : ∀ k, k < len → ∃ x : α, (∀ i u, (f x)[i]? = some u → w.cell? ((a.add (k * m)).add i) = some u) ∧ Q x := fun k hk => by
      obtain ⟨cs', h1, h2⟩ := hx k (by omega)
      rw [hc] at h1
      obtain ⟨_, hlen, hat⟩ := World.cells?_some h1
      obtain ⟨x, rfl, hq⟩ := hone cs' n _ hlen h2
      refine ⟨x, fun i u hu => ?_, hq⟩
      have hi : i < m := by have := (List.getElem?_eq_some_iff.1 hu).1; rwa [hfl] at this
      rw [hat i hi, hu]
    obtain ⟨g, hg⟩ := Deep.choose_lt each
    refine ⟨some a, len, cap, (List.range len).map g, hcs, by omega, ⟨by simp, fun hn => ?_⟩, fun x hx' => ?_⟩
    · have hf0 : ∃ u, (f (g 0))[0]? = some u := ⟨_, List.getElem?_eq_getElem (by rw [hfl]; exact hm)⟩
      obtain ⟨u0, hu0⟩ := hf0
      have h0 := (hg 0 hn).1 0 u0 hu0
      have hs : a.spot = none := by simpa [Addr.add] using World.cell?_spot h0
      obtain ⟨b, off, spot⟩ := a
      simp only at hs
      subst hs
      have hadd : ∀ o k, (⟨b, o, none⟩ : Addr).add k = ⟨b, o + k, none⟩ := fun o k => by
        unfold Addr.add
        split
        · rename_i h; subst h; rfl
        · rfl
      refine ⟨b, off, rfl, block_lt_of_cell (by rw [hadd, hadd] at h0; exact h0), fun k x hk i u hu => ?_⟩
      have hkl : k < len := by have := (List.getElem?_eq_some_iff.1 hk).1; simpa using this
      have hx' : g k = x := by simpa [List.getElem?_range hkl] using hk
      have := (hg k hkl).1 i u (by rw [hx']; exact hu)
      rwa [hadd, hadd] at this
    · obtain ⟨k, hk, rfl⟩ := List.mem_map.1 hx'
      exact (hg k (by simpa using hk)).2
/-- a slice of ids. -/
theorem open_u32s {t e : TypeId} {fuel : Nat} {v : Value} {y : DataW H × List MemPlace} (ht : P.underlying t = some (.slice e)) (he : P.underlying e = some (.int .u32)) (hc : P.cellsOf e = 1)
    (h : DataW.trod enc P w base spare held fuel t [v] = some y) : ∃ (A : Option Addr) (n c : Nat) (zs : List Int), v = .slice A n c ∧ n ≤ maxLen ∧ Rd w A n (U32 zs) ∧ ∀ z ∈ zs, 0 ≤ z ∧ z ≤ 4294967295 := by
  obtain ⟨A, n, c, l, e1, e2, hr, hq⟩ := open_recs (fun z : Int => [Value.int .u32 z]) 1 (by decide) (fun z => 0 ≤ z ∧ z ≤ 4294967295) ht hc (fun _ => rfl) (fun cs m z _ hz => by
    obtain ⟨k, e, _, hw⟩ := DataW.trod_int he hz
    exact ⟨k, e, bounds_u32 hw⟩) h
  refine ⟨A, n, c, l, e1, e2, ⟨by simp [U32, hr.1], fun hn => ?_⟩, hq⟩
  obtain ⟨b, off, e, hb, hcl⟩ := hr.2 hn
  refine ⟨b, off, e, hb, fun k u hk => ?_⟩
  simp only [U32, List.getElem?_map, Option.map_eq_some_iff] at hk
  obtain ⟨z, hz, rfl⟩ := hk
  have := hcl k z hz 0 _ rfl
  rwa [Nat.mul_one, Nat.add_zero] at this
end
theorem rdR_ofF {w : World} {A : Option Addr} {n : Nat} {rs : List RC} (h : RdF RC.cells 4 w A n rs) : RdR w A n rs :=
  ⟨h.1, fun hn => by
    obtain ⟨b, off, e, hb, hc⟩ := h.2 hn
    exact ⟨b, off, e, hb, fun k r hk => ⟨hc k r hk 0 _ rfl, hc k r hk 1 _ rfl, hc k r hk 2 _ rfl, hc k r hk 3 _ rfl⟩⟩⟩
theorem bounds_i64 {n : Int} (h : (Lit.int .i64 n).wf = true) : n ≤ 9223372036854775807 := by
  simp [Lit.wf, IntKind.min, IntKind.max, IntKind.signed, IntKind.bits] at h
  omega
instance : Inhabited RC := ⟨⟨0, 0, 0, 0⟩⟩
instance : Inhabited DB := ⟨⟨0, zBX, []⟩⟩

section
variable {H : Type} {enc : TypeId × Value → H} {w : World} {base : Nat} {spare : Nat → Bool} {held : Bool}
set_option maxRecDepth 100000 in
theorem Tryz.cellsRc4 : Tryz.prog.cellsOf 29 = 4 := by kernel_rfl
theorem Tryz.cellsDb : Tryz.prog.cellsOf 79 = 10 := by kernel_rfl
theorem Tryz.cellsId : Tryz.prog.cellsOf 27 = 1 := by kernel_rfl
theorem Tryz.cellsWn : Tryz.prog.cellsOf 25 = 4 := by kernel_rfl
theorem Tryz.cellsI : Tryz.prog.cellsOf 3 = 1 := by kernel_rfl
theorem Tryz.cellsBl : Tryz.prog.cellsOf 4 = 1 := by kernel_rfl
theorem Tryz.cellsRcs : Tryz.prog.cellsOf 42 = 1 := by kernel_rfl
set_option maxRecDepth 100000 in
theorem open_rects {fuel : Nat} {v : Value} {y : DataW H × List MemPlace} (h : DataW.trod enc Tryz.prog w base spare held fuel 42 [v] = some y) :
    ∃ (A : Option Addr) (n c : Nat) (rs : List RC), v = .slice A n c ∧ n ≤ maxLen ∧ RdR w A n rs ∧ ∀ r ∈ rs, r.X ≤ 9223372036854775807 ∧ r.Y ≤ 9223372036854775807 := by
  obtain ⟨A, n, c, l, e1, e2, hr, hq⟩ := open_recs RC.cells 4 (by decide) (fun r => r.X ≤ 9223372036854775807 ∧ r.Y ≤ 9223372036854775807) Tryz.underlying42 Tryz.cellsRc4 (fun _ => rfl) (fun cs m z hl hz => by
    match cs, hl, hz with
    | [c0, c1, c2, c3], _, hz =>
      obtain ⟨y0, y1, y2, y3, n', _, _, g0, g1, g2, g3⟩ := trod_struct4 Tryz.underlying29 hz
      dsimp only at g0 g1 g2 g3
      rw [Tryz.cellsI] at g0 g1 g2 g3
      obtain ⟨x0, e0, _, w0⟩ := DataW.trod_int Tryz.underlying3 g0
      obtain ⟨x1, e1, _, w1⟩ := DataW.trod_int Tryz.underlying3 g1
      obtain ⟨x2, e2, _, _⟩ := DataW.trod_int Tryz.underlying3 g2
      obtain ⟨x3, e3, _, _⟩ := DataW.trod_int Tryz.underlying3 g3
      simp at e0 e1 e2 e3
      subst e0 e1 e2 e3
      exact ⟨⟨x0, x1, x2, x3⟩, rfl, bounds_i64 w0, bounds_i64 w1⟩) h
  exact ⟨A, n, c, l, e1, e2, rdR_ofF hr, hq⟩
set_option maxRecDepth 100000 in
theorem open_boxes {fuel : Nat} {v : Value} {y : DataW H × List MemPlace} (h : DataW.trod enc Tryz.prog w base spare held fuel 23 [v] = some y) :
    ∃ (A : Option Addr) (n c : Nat) (L : List DB), v = .slice A n c ∧ n ≤ maxLen ∧ RdD w A n L ∧ ∀ d ∈ L, (0 ≤ d.id ∧ d.id ≤ 4294967295) ∧ RdR w d.b.A d.b.n d.sh ∧ ∀ r ∈ d.sh, r.X ≤ 9223372036854775807 ∧ r.Y ≤ 9223372036854775807 := by
  refine open_recs DB.cells 10 (by decide) (fun d => (0 ≤ d.id ∧ d.id ≤ 4294967295) ∧ RdR w d.b.A d.b.n d.sh ∧ ∀ r ∈ d.sh, r.X ≤ 9223372036854775807 ∧ r.Y ≤ 9223372036854775807) Tryz.underlying23 Tryz.cellsDb (fun _ => rfl) (fun cs m z hl hz => ?_) h
  obtain ⟨xs, n', _, _, _, hxl, hel⟩ := DataW.trod_struct Tryz.underlying79 hz
  match cs, hl, hel with
  | [c0, c1, c2, c3, c4, c5, c6, c7, c8, c9], _, hel =>
    have hxl' : xs.length = 10 := hxl
    have k0 : DataW.trod enc Tryz.prog w base spare held n' 27 (([c0, c1, c2, c3, c4, c5, c6, c7, c8, c9].drop 0).take (Tryz.prog.cellsOf 27)) = xs[0]? := hel 0 _ rfl
    rw [show xs[0]? = some xs[0] from List.getElem?_eq_getElem (by omega)] at k0
    rw [Tryz.cellsId] at k0
    have k1 : DataW.trod enc Tryz.prog w base spare held n' 3 (([c0, c1, c2, c3, c4, c5, c6, c7, c8, c9].drop 1).take (Tryz.prog.cellsOf 3)) = xs[1]? := hel 1 _ rfl
    rw [show xs[1]? = some xs[1] from List.getElem?_eq_getElem (by omega)] at k1
    rw [Tryz.cellsI] at k1
    have k2 : DataW.trod enc Tryz.prog w base spare held n' 3 (([c0, c1, c2, c3, c4, c5, c6, c7, c8, c9].drop 2).take (Tryz.prog.cellsOf 3)) = xs[2]? := hel 2 _ rfl
    rw [show xs[2]? = some xs[2] from List.getElem?_eq_getElem (by omega)] at k2
    rw [Tryz.cellsI] at k2
    have k3 : DataW.trod enc Tryz.prog w base spare held n' 3 (([c0, c1, c2, c3, c4, c5, c6, c7, c8, c9].drop 3).take (Tryz.prog.cellsOf 3)) = xs[3]? := hel 3 _ rfl
    rw [show xs[3]? = some xs[3] from List.getElem?_eq_getElem (by omega)] at k3
    rw [Tryz.cellsI] at k3
    have k4 : DataW.trod enc Tryz.prog w base spare held n' 3 (([c0, c1, c2, c3, c4, c5, c6, c7, c8, c9].drop 4).take (Tryz.prog.cellsOf 3)) = xs[4]? := hel 4 _ rfl
    rw [show xs[4]? = some xs[4] from List.getElem?_eq_getElem (by omega)] at k4
    rw [Tryz.cellsI] at k4
    have k5 : DataW.trod enc Tryz.prog w base spare held n' 4 (([c0, c1, c2, c3, c4, c5, c6, c7, c8, c9].drop 5).take (Tryz.prog.cellsOf 4)) = xs[5]? := hel 5 _ rfl
    rw [show xs[5]? = some xs[5] from List.getElem?_eq_getElem (by omega)] at k5
    rw [Tryz.cellsBl] at k5
    have k6 : DataW.trod enc Tryz.prog w base spare held n' 3 (([c0, c1, c2, c3, c4, c5, c6, c7, c8, c9].drop 6).take (Tryz.prog.cellsOf 3)) = xs[6]? := hel 6 _ rfl
    rw [show xs[6]? = some xs[6] from List.getElem?_eq_getElem (by omega)] at k6
    rw [Tryz.cellsI] at k6
    have k7 : DataW.trod enc Tryz.prog w base spare held n' 3 (([c0, c1, c2, c3, c4, c5, c6, c7, c8, c9].drop 7).take (Tryz.prog.cellsOf 3)) = xs[7]? := hel 7 _ rfl
    rw [show xs[7]? = some xs[7] from List.getElem?_eq_getElem (by omega)] at k7
    rw [Tryz.cellsI] at k7
    have k8 : DataW.trod enc Tryz.prog w base spare held n' 4 (([c0, c1, c2, c3, c4, c5, c6, c7, c8, c9].drop 8).take (Tryz.prog.cellsOf 4)) = xs[8]? := hel 8 _ rfl
    rw [show xs[8]? = some xs[8] from List.getElem?_eq_getElem (by omega)] at k8
    rw [Tryz.cellsBl] at k8
    have k9 : DataW.trod enc Tryz.prog w base spare held n' 42 (([c0, c1, c2, c3, c4, c5, c6, c7, c8, c9].drop 9).take (Tryz.prog.cellsOf 42)) = xs[9]? := hel 9 _ rfl
    rw [show xs[9]? = some xs[9] from List.getElem?_eq_getElem (by omega)] at k9
    rw [Tryz.cellsRcs] at k9
    obtain ⟨x0, e0, _, w0⟩ := DataW.trod_int Tryz.underlying27 k0
    obtain ⟨x1, e1, _, _⟩ := DataW.trod_int Tryz.underlying3 k1
    obtain ⟨x2, e2, _, _⟩ := DataW.trod_int Tryz.underlying3 k2
    obtain ⟨x3, e3, _, _⟩ := DataW.trod_int Tryz.underlying3 k3
    obtain ⟨x4, e4, _, _⟩ := DataW.trod_int Tryz.underlying3 k4
    obtain ⟨x5, e5, _⟩ := DataW.trod_bool Tryz.underlying4 k5
    obtain ⟨x6, e6, _, _⟩ := DataW.trod_int Tryz.underlying3 k6
    obtain ⟨x7, e7, _, _⟩ := DataW.trod_int Tryz.underlying3 k7
    obtain ⟨x8, e8, _⟩ := DataW.trod_bool Tryz.underlying4 k8
    obtain ⟨A, n, c, rs, e9, _, hr, hq⟩ := open_rects (v := c9) k9
    simp at e0 e1 e2 e3 e4 e5 e6 e7 e8
    subst e0 e1 e2 e3 e4 e5 e6 e7 e8 e9
    exact ⟨⟨x0, ⟨x1, x2, x3, x4, x5, x6, x7, x8, A, n, c⟩, rs⟩, rfl, bounds_u32 w0, hr, hq⟩
end

end Go.Proofs.YtbfefkhejknmoaaGreatDoor
