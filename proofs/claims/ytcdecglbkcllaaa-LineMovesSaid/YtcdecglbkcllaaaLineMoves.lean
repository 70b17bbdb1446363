/-
  The law LineMoves is true of every input: whatever four and two numbers are handed in, the call returns true, and each argument reads behind it as it read before. No condition.
-/
import Derived.Test.YtcdecglbkcllaaaLawKit
import Derived.Test.YtcdecglbkcllaaaLineWalkI
namespace Go.Proofs.Ytcdecglbkcllaaa
open Go.ChangeShapes Go.WideShapes Go.ChangeAt Go.RowKit Go.Joins

section
variable {H : Type} {enc : TypeId × Value → H} {P : Program} {w : World} {base : Nat} {spare : Nat → Bool} {held : Bool}
/-- an array of integers by value, opened: each element's number. -/
theorem open_arr {r : Reach} {b0 : Nat} {t e : TypeId} {n : Nat} {k : IntKind} {v : Value} {d : DataW H} {p : List MemPlace} (ht : P.underlying t = some (.array n e)) (he : P.underlying e = some (.int k)) (hC : P.cellsOf t = n) (hE : P.cellsOf e = 1)
    (hv : Value.okWide P w r b0 t v) (h : DataW.Trod enc P w base spare held t v d p) :
    ∃ cs : Array Value, v = .agg cs ∧ cs.size = n ∧ ∀ i, i < n → ∃ a, cs[i]? = some (.int k a) ∧ (Lit.int k a).wf = true := by
  simp only [Value.okWide, ht] at hv
  obtain ⟨cs, rfl, hsz, _⟩ := hv
  obtain ⟨fuel, hf⟩ := h
  obtain ⟨xs, m, _, _, hlen, hxl, hx⟩ := DataW.trod_array ht hf
  refine ⟨cs, rfl, hsz.trans hC, fun i hi => ?_⟩
  have h1 := hx i hi
  rw [hE, Nat.mul_one] at h1
  have hci : i < cs.toList.length := by rw [Array.length_toList, hsz, hC]; exact hi
  have h2 : ((Value.agg cs).cells.toList.drop i).take 1 = [cs.toList[i]] := by
    show (cs.toList.drop i).take 1 = _
    rw [List.drop_eq_getElem_cons hci]
    rfl
  rw [show ((Value.agg cs).cells.toList.drop i).take 1 = [cs.toList[i]] from h2, List.getElem?_eq_getElem (by omega)] at h1
  obtain ⟨a, e1, _, wa⟩ := DataW.trod_int he h1
  refine ⟨a, ?_, wa⟩
  have e2 : cs.toList[i] = .int k a := by simpa using e1
  rw [← e2]
  simp
end
theorem arr2 {cs : Array Value} (h : cs.size = 2) {a b : Value} (h0 : cs[0]? = some a) (h1 : cs[1]? = some b) : cs = #[a, b] := by
  obtain ⟨l⟩ := cs
  match l, h with
  | [x, y], _ => simp at h0 h1; subst h0 h1; rfl
theorem arr4 {cs : Array Value} (h : cs.size = 4) {a b c d : Value} (h0 : cs[0]? = some a) (h1 : cs[1]? = some b) (h2 : cs[2]? = some c) (h3 : cs[3]? = some d) : cs = #[a, b, c, d] := by
  obtain ⟨l⟩ := cs
  match l, h with
  | [x, y, z, u], _ => simp at h0 h1 h2 h3; subst h0 h1 h2 h3; rfl
theorem Try.cellsA4 : Try.prog.cellsOf 39 = 4 := by kernel_rfl
theorem Try.cellsA2 : Try.prog.cellsOf 40 = 2 := by kernel_rfl
theorem Try.cellsI16 : Try.prog.cellsOf 38 = 1 := by kernel_rfl

set_option maxRecDepth 100000 in
theorem lineMoves_lifted (os : Os) (started : os.Started) (H : Type) (enc : TypeId × Value → H) :
    ReturnsInHanded {} Try.checked os 5 .any (Rows.lineMovesSpec.pre6 enc Try.prog Try.f5 Rows.lineMovesRow.domain false) (Rows.lineMovesSpec.post enc Try.prog Try.f5 false true false false) := by
  refine returnsInHanded_of_change (C := Try.checked) Try.own started (by kernel_rfl) Try.func5
    (ChangeSpec.witness6 (enc := enc) (C := Try.checked) false ⟨#[], #[.agg #[.int .i16 0, .int .i16 0, .int .i16 0, .int .i16 0], .agg #[.int .i16 0, .int .i16 0]], []⟩ 8 (by kernel_rfl) (by kernel_rfl) (by kernel_rfl) (by kernel_rfl)) ?_
  intro W base args ds gs before hval0 hW hcnd _
  have hval : ∀ (j : Nat) t v, Try.f5.params[j]? = some t → args[j]? = some v → Value.okWide Try.prog W .any base t v := hval0
  have hW' := hW
  obtain ⟨p, q, hA0, hV, rfl, hfz, hnd⟩ := hW
  have hA : DataW.TrodAll enc Try.prog W 0 (fun _ => true) true Try.f5.params.toList args.toList ds p := hA0
  have hAk := hA
  obtain ⟨rfl, rfl⟩ := trodVars_none hV
  rw [Try.params5] at hA hval
  obtain ⟨v0, v1, d0, d1, p0, p1, rfl, rfl, rfl, h0, h1⟩ := trodAll_two hA
  obtain ⟨cs0, rfl, hz0, hx0⟩ := open_arr Try.underlying39 Try.underlying38 Try.cellsA4 Try.cellsI16 (hval 0 39 v0 rfl rfl) h0
  obtain ⟨cs1, rfl, hz1, hx1⟩ := open_arr Try.underlying40 Try.underlying38 Try.cellsA2 Try.cellsI16 (hval 1 40 v1 rfl rfl) h1
  obtain ⟨a0, e0, w0⟩ := hx0 0 (by omega)
  obtain ⟨a1, e1, w1⟩ := hx0 1 (by omega)
  obtain ⟨a2, e2, w2⟩ := hx0 2 (by omega)
  obtain ⟨a3, e3, w3⟩ := hx0 3 (by omega)
  obtain ⟨b0, f0, u0⟩ := hx1 0 (by omega)
  obtain ⟨b1, f1, u1⟩ := hx1 1 (by omega)
  obtain rfl := arr4 hz0 e0 e1 e2 e3
  obtain rfl := arr2 hz1 f0 f1
  clear hA0 hval0
  simp only [List.append_nil] at hW'
  refine (lineMoves_any a0 a1 a2 a3 b0 b1 W (bounds_i16 w0) (bounds_i16 w1) (bounds_i16 w2) (bounds_i16 w3) (bounds_i16 u0) (bounds_i16 u1)).mono fun e W' ⟨he, hb⟩ => ?_
  subst he
  exact ⟨_, rfl, law_post Try.laidOut (by decide +kernel) rfl hW' hAk rfl rfl Try.underlying4 hb⟩

theorem lineMoves_holds : Rows.LineMovesSaid :=
  OpenClaim.holds_of_wide 5 Try.f5 rfl rfl rfl rfl rfl rfl rfl ⟨rfl, rfl, rfl, rfl, rfl⟩ rfl rfl rfl rfl rfl (by kernel_rfl) Try.func5 (by kernel_rfl)
    (of_decide_eq_true (by kernel_rfl)) (by unfold Func.isWrapper; first | (rw [if_pos (by decide +kernel)]; kernel_rfl) | (rw [if_neg (by decide +kernel)]; exact ⟨rfl, rfl⟩))
    (fun os started H enc _ => lineMoves_lifted os started H enc)

end Go.Proofs.Ytcdecglbkcllaaa
