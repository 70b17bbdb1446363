/-
  The walk of the document's Below: the viewable windows below one, in order.
-/
import Derived.Test.YtbkkecijcijhdaaGreatZT36
import Derived.Test.YtbkkecijcijhdaaGreatZT09
import Derived.Maps.AppendAt
section
namespace Go.Proofs.YtbkkecijcijhdaaGreat
open Go.RowKit Go.Maps Go.Shelf

theorem zipIdx_none {l : List DW} {k : Nat} (h : l[k]? = none) : l.zipIdx.take (k + 1) = l.zipIdx.take k := by
  have h1 : l.length ≤ k := List.getElem?_eq_none_iff.1 h
  rw [List.take_of_length_le (by rw [List.length_zipIdx]; omega), List.take_of_length_le (by rw [List.length_zipIdx]; omega)]
theorem blwT_up {l : List DW} {f : Nat} {p : Int} (k : Nat) : ∀ j, (blwT l f p k).length ≤ (blwT l f p (k + j)).length
  | 0 => Nat.le_refl _
  | j + 1 => by
    refine Nat.le_trans (blwT_up k j) ?_
    rw [show k + (j + 1) = (k + j) + 1 from rfl]
    cases hd : l[k + j]? with
    | none => unfold blwT; rw [zipIdx_none hd]; exact Nat.le_refl _
    | some d => rw [blwT_snoc hd, List.length_append]; omega
theorem I64_append (a b : List Int) : I64 (a ++ b) = I64 a ++ I64 b := by simp [I64]
set_option maxRecDepth 100000 in
set_option maxHeartbeats 4000000 in
theorem dbelow_any (A : Option Addr) (n c : Nat) (l : List DW) (hn : n ≤ 1000) (hu : UpOk l) : ∀ (f : Nat) (p : Int) (w0 w : World) (v : Value) (m : Nat) (xs : List Int), RdWs w0 A n l → Below w0.heap.size w0 w → w.ownsRow w0.heap.size 3 1 v m (I64 xs) → (-1 ≤ p ∧ p < (l.length : Int)) → (l.length : Int) - p ≤ f → m + (blwD l f p).length ≤ 100000 →
    Calls Tryz.prog 27 #[.slice A n c, .int .i64 p, v] w fun e w' => ∃ v', e = .returned v' ∧ w'.ownsRow w0.heap.size 3 1 v' (m + (blwD l f p).length) (I64 (xs ++ blwD l f p)) ∧ Below w0.heap.size w0 w' := by
  obtain ⟨i0, hi0, hz0, hz1, hz2⟩ := info_parts Tryz.infoI
  have HU := Lib.hid hu
  clear hu
  intro f
  induction f with
  | zero => intro p w0 w v m xs hl hb ho hp hf; omega
  | succ f ih =>
  intro p w0 w v m xs hl hb ho hp hf hm
  obtain ⟨Av, cv, rfl, _⟩ := own_form ho
  have HL := Lib.hid hl
  have HLN := Lib.hid hl.recs.1
  have IH := Lib.hid ih
  have HALL := Lib.hid (blwT_all (l := l) (f := f) (p := p) (k := n) (by rw [hl.recs.1]; exact Nat.le_refl _))
  have HUP := Lib.hid (fun k (h : k ≤ n) => show (blwT l f p k).length ≤ (blwT l f p n).length by
    have h1 := blwT_up (l := l) (f := f) (p := p) k (n - k)
    rwa [show k + (n - k) = n by omega] at h1)
  have hm2 : m + 1 + (blwT l f p n).length ≤ 100000 := by
    rw [← HALL.out, List.length_cons] at hm
    omega
  have HO := Lib.hid ho
  have HB := Lib.hid hb
  rw [← HALL.out]
  clear hl ih ho hb hm
  go_enter Tryz.func27, Tryz.ntmps27
  go_wp2_with (at_builtin; refine wpList_append_own _ rfl _ _ 46 rfl w0.heap.size 3 i0 _ 1 8 Tryz.underlying46 hi0 hz0 hz1 hz2 rfl (by decide) (.slice Av m cv) m (I64 xs) rfl (HO.out.alloc _) ⟨w.heap.size, 0, none⟩ 1 1 [.int .i64 p] rfl rfl (cell_one_new _ _ _) (by simp [Value.oneCell']) (by simp only [maxLen]; omega) (by omega) (by have := HB.out.size; simp; omega) ?_; intro v' w2 hown' hgrow _; obtain ⟨A2, c2, rfl, _⟩ := own_form hown'; have HO2 := Lib.hid hown'; have HB2 := Lib.hid ((HB.out.alloc HB.out.size (.cells #[.int .i64 p] 3)).grown hgrow (HB.out.alloc HB.out.size (.cells #[.int .i64 p] 3)).size (fun q e => own_ge HO.out q e)); clear hown' hgrow)
  go_loopw [2, 7] (fun v7 i wr => ∃ k : Nat, i = .int .i64 k ∧ k ≤ n ∧ wr.ownsRow w0.heap.size 3 1 v7 (m + 1 + (blwT l f p k).length) (I64 (xs ++ p :: blwT l f p k)) ∧ Below w0.heap.size w0 wr) (fun _ i _ => n - (intOf i).toNat)
  case atStart =>
    refine ⟨0, rfl, by omega, ?_, HB2.out⟩
    have h1 := HO2.out
    rw [show xs ++ p :: blwT l f p 0 = xs ++ [p] from rfl, I64_append]
    exact h1
  case round =>
    obtain ⟨k, rfl, hk, ho7, hB⟩ := hrel
    obtain ⟨A7, c7, rfl, _⟩ := own_form ho7
    have HO7 := Lib.hid ho7
    have HB7 := Lib.hid hB
    have hup := HUP.out k hk
    clear ho7 hB
    by_cases hlt : k < n
    · obtain ⟨d, hx⟩ : ∃ d, l[k]? = some d := ⟨_, List.getElem?_eq_getElem (by rw [HLN.out]; exact hlt)⟩
      have HSN := Lib.hid (blwT_snoc (f := f) (p := p) hx)
      have hup1 := HUP.out (k + 1) (by omega)
      obtain ⟨b, off, rfl, hb, hcl⟩ := HL.out.at_ (by omega)
      obtain ⟨⟨c0, _, _, _⟩, _, c5, _, _⟩ := hcl k d hx
      replace c0 := (HB7.out.cell (p := ⟨b, off + k * 8, none⟩) hb).trans c0
      replace c5 := (HB7.out.cell (p := ⟨b, off + k * 8 + 5, none⟩) hb).trans c5
      have k1 : (k : Int) < (n : Int) := by omega
      have k0 : (0 : Int) ≤ (k : Int) := by omega
      have HK := Lib.hid hk
      have HUK := Lib.hid (HU.out k d hx)
      clear hcl hx
      by_cases hP : d.P = p
      · cases hM : d.M with
        | false =>
          rw [hM] at c5
          rw [hP] at c0
          have HS2 := Lib.hid (show blwT l f p (k + 1) = blwT l f p k by rw [HSN.out, hM]; simp)
          clear hM hP
          go_wp2_with fail
          go_roundw
          case rel => exact ⟨k + 1, by go_num, by omega, by rw [HS2.out]; exact HO7.out, HB7.out⟩
          case measure => simp [intOf]; omega
        | true =>
          rw [hM] at c5
          rw [hP] at c0
          have HS2 := Lib.hid (show blwT l f p (k + 1) = blwT l f p k ++ blwD l f k by rw [HSN.out, hM, hP]; simp)
          have hpk : p < (k : Int) := by have := HUK.out; omega
          rw [HS2.out, List.length_append] at hup1
          clear hM hP
          go_wp2_with fail
          refine (IH.out k w0 _ _ _ _ HL.out HB7.out HO7.out ⟨by omega, by have := HLN.out; omega⟩ (by omega) (by omega)).mono ?_
          rintro e w3 ⟨v3, rfl, ho3, hb3⟩
          obtain ⟨A3, c3, rfl, _⟩ := own_form ho3
          have HO3 := Lib.hid ho3
          have HB3 := Lib.hid hb3
          clear ho3 hb3
          go_wp2_with fail
          go_roundw
          case rel =>
            refine ⟨k + 1, by go_num, by omega, ?_, HB3.out⟩
            have h9 := HO3.out
            rw [HS2.out, List.length_append]
            simp only [List.append_assoc, List.cons_append] at h9
            rw [← Nat.add_assoc]
            exact h9
          case measure => simp [intOf]; omega
      · have hPb : (d.P == p) = false := by simpa using hP
        have HS2 := Lib.hid (show blwT l f p (k + 1) = blwT l f p k by rw [HSN.out]; simp [hP])
        go_wp2_with fail
        go_roundw
        case rel => exact ⟨k + 1, by go_num, by omega, by rw [HS2.out]; exact HO7.out, HB7.out⟩
        case measure => simp [intOf]; omega
    · obtain rfl : k = n := by omega
      have k1 : ¬ (k : Int) < (k : Int) := by omega
      go_wp2_with fail
      go_ret
      refine ⟨.slice A7 (m + 1 + (blwT l f p k).length) c7, rfl, ?_, HB7.out⟩
      have h9 := HO7.out
      rw [show m + ((blwT l f p k).length + 1) = m + 1 + (blwT l f p k).length by omega]
      exact h9
end Go.Proofs.YtbkkecijcijhdaaGreat
end
