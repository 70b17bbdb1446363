/-
  The walks of what a view tells of one window: Clip, Visible, Origin, Viewable.
  tree.Add and place.Set, each in one contract.
  Trees and places where a variable's own cell is written.
  The document's windows in memory; their ids; the walks of id, great and size.
-/
import Derived.Test.YtdaedkolpfkdjaaGreatZX23
import Derived.Test.YtdaedkolpfkdjaaGreatZX03
import Derived.Test.YtdaedkolpfkdjaaGreatZX06
import Derived.Test.YtdaedkolpfkdjaaGreatZX09
section
namespace Go.Proofs.YtdaedkolpfkdjaaGreat
open Go.RowKit Go.Maps Go.Shelf

theorem Tryz.fieldClip (a b : Int) (B : Option Addr) (m d : Nat) (w : World) : Sem.run Tryz.prog (Instr.field 188 (.agg #[.int .i64 a, .int .i64 b, .slice B m d]) 1) w = .ok (.agg #[.slice B m d]) w := by kernel_rfl
theorem take_snocI' {α : Type} {l : List α} {k : Nat} {x : α} (h : l[k]? = some x) : l.take (k + 1) = l.take k ++ [x] := by rw [List.take_add_one, h]; rfl
theorem drop_cons' {α : Type} {l : List α} {k : Nat} {x : α} (h : l[k]? = some x) : l.drop k = x :: l.drop (k + 1) := by
  obtain ⟨h1, h2⟩ := List.getElem?_eq_some_iff.1 h
  rw [List.drop_eq_getElem_cons h1, h2]
section
variable {w : World} {v : Value} {A : Option Addr} {n c : Nat} {mv : Option Nat} {nm : Nat} {f : Int → Option Value} {ord : List Int} {es : List (Int × Places)} {og : Int → Int × Int} {RW RH : Nat}
set_option maxRecDepth 100000 in
theorem vclip_any (i : Int) (hi : 0 ≤ i ∧ i ≤ 4294967295) (h : ViewIs w v A n c mv nm f ord es og RW RH) :
    Calls Tryz.prog 31 #[v, .int .u32 i] w fun e w' => ∃ u out, e = .returned u ∧ RegAt w' u out ∧ (∀ x y, inB out x y = showB es x y i) ∧ Below w.heap.size w w' := by
  obtain ⟨B, d, out, hg, hr, hp, hs, hnr, hln⟩ := h.look i
  have hv := h.shape
  subst hv
  have HM := Lib.hid h.map
  have HWF := Lib.hid (u32_wf hi)
  have HG := Lib.hid hg
  have HR := Lib.hid hr
  have HP := Lib.hid hp
  clear h hg hr hp hs hnr hln
  have hfc := Tryz.fieldClip
  go_enter Tryz.func31, Tryz.ntmps31
  go_wp2_with (at_lookup; refine opt_look rfl _ _ 50 rfl 48 188 .u32 Tryz.underlying48 Tryz.underlying50 (shV 0 0 none 0 0) (Tryz.zeroShown _) mv nm f rfl (HM.out.below (by first | exact bal (bal (bre _) _) _ | exact bal (bre _) _)) i rfl HWF.out ?_; rw [HG.out]; unfold shV)
  have hk := blk_new2 w (.cells #[.slice A n c, .map mv] 52) 57 #[.slice B out.length d]
  have hb := bal (bal (bre w) (.cells #[.slice A n c, .map mv] 52)) (.cells #[.slice B out.length d] 57)
  have r0 := hk.cellV (i := 0) (v := .slice B out.length d) rfl
  refine bodyPost_ret (v := .agg #[.slice B out.length d]) (by simp [results, Tryz.results31, go_sem, r0]) rfl ⟨_, out, rfl, HR.out.below hb, HP.out, hb⟩
set_option maxRecDepth 100000 in
theorem vorigin_any (i : Int) (hi : 0 ≤ i ∧ i ≤ 4294967295) (h : ViewIs w v A n c mv nm f ord es og RW RH) :
    Calls Tryz.prog 97 #[v, .int .u32 i] w fun e w' => e = .returned (.tuple #[.agg #[.int .i64 (ogV es og i).1, .int .i64 (ogV es og i).2], .bool (lastE es i).isSome]) ∧ Below w.heap.size w w' := by
  obtain ⟨B, d, out, hg, hr, hp, hs, hnr, hln⟩ := h.look i
  have hv := h.shape
  subst hv
  have HM := Lib.hid h.map
  have HWF := Lib.hid (u32_wf hi)
  obtain ⟨bq, hbq⟩ : ∃ bq, (lastE es i).isSome = bq := ⟨_, rfl⟩
  obtain ⟨ox, hox⟩ : ∃ ox, (ogV es og i).1 = ox := ⟨_, rfl⟩
  obtain ⟨oy, hoy⟩ : ∃ oy, (ogV es og i).2 = oy := ⟨_, rfl⟩
  rw [hox, hoy] at hg ⊢
  rw [hbq] at hs ⊢
  have HG := Lib.hid hg
  have HS := Lib.hid hs
  clear h hg hr hp hs hnr hln hbq hox hoy
  go_enter Tryz.func97, Tryz.ntmps97
  go_wp2_with (at_lookup; refine opt_look_ok rfl _ _ 50 rfl 48 188 .u32 Tryz.underlying48 Tryz.underlying50 (shV 0 0 none 0 0) (Tryz.zeroShown _) mv nm f rfl (HM.out.below (by first | exact bal (bal (bre _) _) _ | exact bal (bre _) _)) i rfl HWF.out ?_; rw [HG.out, HS.out]; unfold shV)
  have hk := (blk_new2 w (.cells #[.slice A n c, .map mv] 52) 179 #[.int .i64 ox, .int .i64 oy]).alloc (.cells #[.int .i64 ox, .int .i64 oy, .slice B out.length d] 188)
  have hb := bal (bal (bal (bre w) (.cells #[.slice A n c, .map mv] 52)) (.cells #[.int .i64 ox, .int .i64 oy] 179)) (.cells #[.int .i64 ox, .int .i64 oy, .slice B out.length d] 188)
  have r0 := hk.cellV (i := 0) (v := .int .i64 ox) rfl
  have r1 := hk.cellV (i := 1) (v := .int .i64 oy) rfl
  exact bodyPost_ret (v := .tuple #[.agg #[.int .i64 ox, .int .i64 oy], .bool bq]) (by simp [results, Tryz.results97, go_sem, r0, r1]) rfl ⟨rfl, hb⟩
set_option maxRecDepth 100000 in
theorem vwindows_any (h : ViewIs w v A n c mv nm f ord es og RW RH) :
    Calls Tryz.prog 26 #[v] w fun e w' => ∃ u, e = .returned u ∧ w'.ownsRow w.heap.size 48 1 u n (U32 ord) ∧ Below w.heap.size w w' := by
  have hv := h.shape
  subst hv
  have HR := Lib.hid h.order
  have hn := h.few
  clear h
  go_enter Tryz.func26, Tryz.ntmps26
  go_wp2_with fail
  refine (cloneI_any A n c ord _ (by omega) (HR.out.below (bal (bre w) _))).mono ?_
  rintro e w2 ⟨u, rfl, ho, hb⟩
  have HO := Lib.hid ho
  have HB := Lib.hid hb
  clear ho hb
  go_wp2_with fail
  go_ret
  exact ⟨_, rfl, own_lower HO.out (by simp), bstep (bal (bre w) _) HB.out⟩

set_option maxRecDepth 100000 in
theorem vat_any (x y : Int) (h : ViewIs w v A n c mv nm f ord es og RW RH) :
    Calls Tryz.prog 50 #[v, .int .i64 x, .int .i64 y] w fun e w' => e = .returned (.tuple #[.int .u32 ((ord.find? (showB es x y)).getD 0), .bool (ord.find? (showB es x y)).isSome]) ∧ Below w.heap.size w w' := by
  have hv := h.shape
  subst hv
  have HV := Lib.hid (h.below (bal (bre w) (.cells #[.slice A n c, .map mv] 52)))
  have hn := h.few
  have hlen : ord.length = n := by have := h.order.1; simpa [U32] using this
  have HLE := Lib.hid hlen
  have K3 := Lib.hid (Blk.new w 52 #[.slice A n c, .map mv])
  have hba := bal (bre w) (.cells #[.slice A n c, .map mv] 52)
  clear h hlen
  go_enter Tryz.func50, Tryz.ntmps50
  go_wp2_with fail
  obtain ⟨X0, hX0⟩ : ∃ X0, w.alloc (.cells #[.slice A n c, .map mv] 52) = X0 := ⟨_, rfl⟩
  have h1 := HV.out
  have h2 := K3.out
  rw [hX0] at h1 h2 hba ⊢
  replace HV := Lib.hid h1
  replace K3 := Lib.hid h2
  have HB := Lib.hid hba
  clear h1 h2 hX0 hba
  go_loopw [13] (fun i wr => ∃ k : Nat, i = .int .i64 k ∧ k ≤ n ∧ (ord.take k).find? (showB es x y) = none ∧ Below X0.heap.size X0 wr) (fun i _ => n - (intOf i).toNat)
  case atStart => exact ⟨0, rfl, by omega, rfl, bre X0⟩
  case round =>
    obtain ⟨k, rfl, hk, hno, hB⟩ := hrel
    have HNO := Lib.hid hno
    have HBR := Lib.hid hB
    have HVR := Lib.hid (HV.out.below hB)
    have d30 := (K3.out.belowS hB).cellV (i := 0) (v := .slice A n c) rfl
    have d31 := (K3.out.belowS hB).cellV (i := 1) (v := .map mv) rfl
    by_cases hlt : k < n
    · obtain ⟨i, hx⟩ : ∃ i, ord[k]? = some i := ⟨_, List.getElem?_eq_getElem (by rw [HLE.out]; exact hlt)⟩
      obtain ⟨b, off, rfl, hb, hcl⟩ := HVR.out.order.2 (by omega)
      have c0 := hcl k _ (U32_at hx)
      have k1 : (k : Int) < (n : Int) := by omega
      have k0 : (0 : Int) ≤ (k : Int) := by omega
      have hid := HVR.out.ids i (List.mem_of_getElem? hx)
      have HWF := Lib.hid (u32_wf hid)
      obtain ⟨B, d, out, hg, hr, hp, hs, hnr, hln⟩ := HVR.out.look i
      have HG := Lib.hid hg
      have HR := Lib.hid hr
      have HP := Lib.hid hp
      have HTK := Lib.hid (take_snocI' hx)
      have HDR := Lib.hid (drop_cons' hx)
      clear hcl hx hg hr hp hs hnr hno
      have hfc := Tryz.fieldClip
      go_wp2_with (at_lookup; refine opt_look rfl _ _ 50 rfl 48 188 .u32 Tryz.underlying48 Tryz.underlying50 (shV 0 0 none 0 0) (Tryz.zeroShown _) mv nm f rfl HVR.out.map i rfl HWF.out ?_; rw [HG.out]; unfold shV)
      refine (hasR_any B out.length d out x y _ (by omega) (by obtain ⟨_, _, e, h, _⟩ := HR.out; cases e; exact h) HR.out.cnt).mono ?_
      rintro e w5 ⟨rfl, hb5⟩
      have hdown : Down out := canon_down (by obtain ⟨_, _, _, _, h, _⟩ := HR.out; exact h)
      rw [hasL_inB hdown, HP.out]
      have HB5 := Lib.hid (bstep HBR.out hb5)
      clear hb5 hdown
      cases hsh : showB es x y i with
      | true =>
        have HSH := Lib.hid hsh
        go_wp2_with fail
        (try rw [Exit.noGoto_ret])
        go_ret2
        have hf : ord.find? (showB es x y) = some i := by
          rw [← List.take_append_drop k ord, List.find?_append, HNO.out, HDR.out, List.find?_cons, HSH.out]
          rfl
        rw [hf]
        exact ⟨rfl, bstep HB.out HB5.out⟩
      | false =>
        have HSH := Lib.hid hsh
        go_wp2_with fail
        go_roundw
        case rel => exact ⟨k + 1, by go_num, by omega, by rw [HTK.out, List.find?_append, HNO.out, List.find?_cons, HSH.out]; rfl, HB5.out⟩
        case measure => simp [intOf]; omega
    · obtain rfl : k = n := by omega
      have k1 : ¬ (k : Int) < (k : Int) := by omega
      have hf : ord.find? (showB es x y) = none := by
        have h1 := HNO.out
        rw [List.take_of_length_le (by rw [HLE.out]; exact Nat.le_refl _)] at h1
        exact h1
      have HF := Lib.hid hf
      clear hno hf
      go_wp2_with fail
      go_ret2
      rw [HF.out]
      exact ⟨rfl, bstep HB.out HBR.out⟩
end

end Go.Proofs.YtdaedkolpfkdjaaGreat
end

section
namespace Go.Proofs.YtdaedkolpfkdjaaGreat
open Go.RowKit Go.Maps Go.Shelf

/-- what Set answers. -/
def setC (bs : Bxs) (n : Nat) (id : Int) (b : BX) : Int :=
  if id = 1 then 23 else if idC id ≠ 0 then idC id else if (coordB b.X && coordB b.Y) = false then 1 else if (sideB b.W && sideB b.H) = false then 17 else if gravC b.G = 10 ∨ gravC b.B = 10 then 10 else if b.S = false ∧ b.n ≠ 0 then 14 else if (bs id).isSome = false ∧ 64 ≤ n then 5 else if n = 0 then 9 else 0
/-- the boxes behind it. -/
def setB (bs : Bxs) (n : Nat) (id : Int) (b : BX) : Bxs := if setC bs n id b = 0 then fun j => if j = id then some b else bs j else bs
def setN (bs : Bxs) (n : Nat) (id : Int) (b : BX) : Nat := if setC bs n id b = 0 then (if (bs id).isSome then n else n + 1) else n
theorem gravC_or (g : Int) : gravC g = 0 ∨ gravC g = 10 := by
  unfold gravC
  split
  · exact .inl rfl
  · exact .inr rfl

theorem pset_any (pv : Value) (n : Nat) (bs : Bxs) (id : Int) (b : BX) (w : World) (hid : 0 ≤ id ∧ id ≤ 4294967295) (hn : n ≤ 1000) (hp : PlaceIs w pv n bs) (hz : n = 0 → bs id = none) :
    Calls Tryz.prog 81 #[pv, .int .u32 id, b.v] w fun e w' => ∃ pv', e = .returned (.tuple #[pv', .int .i64 (setC bs n id b)]) ∧ PlaceIs w' pv' (setN bs n id b) (setB bs n id b) ∧ Below w.heap.size w w' := by
  have keep : ∀ code : Int, code ≠ 0 → setC bs n id b = code → SetErr id b n (bs id).isSome code → Calls Tryz.prog 81 #[pv, .int .u32 id, b.v] w fun e w' => ∃ pv', e = .returned (.tuple #[pv', .int .i64 (setC bs n id b)]) ∧ PlaceIs w' pv' (setN bs n id b) (setB bs n id b) ∧ Below w.heap.size w w' := by
    intro code h0 hc hh
    refine (pset_err pv n bs id b code w hid hn hp hh).mono ?_
    rintro e w' ⟨rfl, hb⟩
    have e0 : setB bs n id b = bs := by unfold setB; rw [hc, if_neg h0]
    have e1 : setN bs n id b = n := by unfold setN; rw [hc, if_neg h0]
    rw [hc, e0, e1]
    exact ⟨pv, rfl, hp.below hb, hb⟩
  by_cases h1 : id = 1
  · exact keep 23 (by decide) (by simp [setC, h1]) (.inl ⟨h1, rfl⟩)
  by_cases h2 : idC id = 0
  rotate_left
  · exact keep (idC id) h2 (by simp [setC, h1, h2]) (.inr ⟨h1, .inl ⟨h2, rfl⟩⟩)
  have s2 : ∀ {code}, _ → SetErr id b n (bs id).isSome code := fun {code} x => .inr ⟨h1, .inr ⟨h2, x⟩⟩
  cases hx : coordB b.X
  · exact keep 1 (by decide) (by simp [setC, h1, h2, hx]) (s2 (.inl ⟨hx, rfl⟩))
  cases hy : coordB b.Y
  · exact keep 1 (by decide) (by simp [setC, h1, h2, hx, hy]) (s2 (.inr ⟨hx, .inl ⟨hy, rfl⟩⟩))
  cases hw : sideB b.W
  · exact keep 17 (by decide) (by simp [setC, h1, h2, hx, hy, hw]) (s2 (.inr ⟨hx, .inr ⟨hy, .inl ⟨hw, rfl⟩⟩⟩))
  cases hh : sideB b.H
  · exact keep 17 (by decide) (by simp [setC, h1, h2, hx, hy, hw, hh]) (s2 (.inr ⟨hx, .inr ⟨hy, .inr ⟨hw, .inl ⟨hh, rfl⟩⟩⟩⟩))
  have s3 : ∀ {code}, _ → SetErr id b n (bs id).isSome code := fun {code} x => s2 (.inr ⟨hx, .inr ⟨hy, .inr ⟨hw, .inr ⟨hh, x⟩⟩⟩⟩)
  rcases gravC_or b.G with hg | hg
  rotate_left
  · exact keep 10 (by decide) (by simp [setC, h1, h2, hx, hy, hw, hh, hg]) (s3 (.inl ⟨hg, rfl⟩))
  rcases gravC_or b.B with hb | hb
  rotate_left
  · exact keep 10 (by decide) (by simp [setC, h1, h2, hx, hy, hw, hh, hg, hb]) (s3 (.inr ⟨hg, .inl ⟨hb, rfl⟩⟩))
  by_cases hs : b.S = false ∧ b.n ≠ 0
  · exact keep 14 (by decide) (by simp [setC, h1, h2, hx, hy, hw, hh, hg, hb, hs]) (s3 (.inr ⟨hg, .inr ⟨hb, .inl ⟨hs.1, decide_eq_false hs.2, rfl⟩⟩⟩))
  have hS : b.S = true ∨ (b.S = false ∧ decide (b.n = 0) = true) := by
    cases e : b.S
    · exact .inr ⟨rfl, decide_eq_true (Classical.byContradiction fun h => hs ⟨e, h⟩)⟩
    · exact .inl rfl
  have hs' : ¬ (b.S = false ∧ ¬ b.n = 0) := hs
  by_cases hm : (bs id).isSome = false ∧ 64 ≤ n
  · have hm1 : bs id = none := by simpa using hm.1
    exact keep 5 (by decide) (by simp [setC, h1, h2, hx, hy, hw, hh, hg, hb, hs', hm1, hm.2]) (s3 (.inr ⟨hg, .inr ⟨hb, .inr ⟨hS, .inl ⟨hm.1, decide_eq_true (by omega), rfl⟩⟩⟩⟩))
  have hc1 : setC bs n id b = if n = 0 then 9 else 0 := by
    unfold setC
    rw [if_neg h1, if_neg (by simp [h2]), if_neg (by simp [hx, hy]), if_neg (by simp [hw, hh]), if_neg (by simp [hg, hb]), if_neg hs, if_neg hm]
  by_cases h0 : n = 0
  · have hno : (bs id).isSome = false := by rw [hz h0]; rfl
    exact keep 9 (by decide) (by rw [hc1, if_pos h0]) (s3 (.inr ⟨hg, .inr ⟨hb, .inr ⟨hS, .inr ⟨hno, decide_eq_false (by omega), by rw [h0]; rfl, rfl⟩⟩⟩⟩))
  · have hc : setC bs n id b = 0 := by rw [hc1, if_neg h0]
    refine (pset_ok pv n bs id b w hid hn hp h1 h2 hx hy hw hh hg hb hS ?_ (by simp; omega)).mono ?_
    · cases e : (bs id).isSome
      · refine .inr ⟨rfl, decide_eq_false fun h => hm ⟨e, by omega⟩⟩
      · exact .inl rfl
    · rintro e w' ⟨pv', rfl, hp', hb'⟩
      have e0 : setB bs n id b = fun j => if j = id then some b else bs j := by unfold setB; rw [hc, if_pos rfl]
      have e1 : setN bs n id b = if (bs id).isSome then n else n + 1 := by unfold setN; rw [hc, if_pos rfl]
      rw [hc, e0, e1]
      exact ⟨pv', rfl, hp', hb'⟩

end Go.Proofs.YtdaedkolpfkdjaaGreat
end

section
namespace Go.Proofs.YtdaedkolpfkdjaaGreat
open Go.RowKit Go.Maps Go.Shelf

section
variable {P : Program} {k : TypeId} {q : IntKind} {w : World} {b n : Nat} {f : Int → Option Value}
theorem MapIs.isMap (h : MapIs P k q w b n f) : ∃ es clock, w.heap[b]? = some (.map es clock) := by
  obtain ⟨D, ⟨es, clock, h1, _⟩, _⟩ := h
  exact ⟨es, clock, h1⟩
theorem MapIs.neBlk (h : MapIs P k q w b n f) {B : Nat} {t : TypeId} {cs : Array Value} (hB : Blk w B t cs) : b ≠ B := fun e => by
  obtain ⟨es, clock, h1⟩ := h.isMap
  unfold Blk at hB
  rw [← e, h1] at hB
  cases hB
theorem MapOpt.setBlk {mb : Option Nat} (h : MapOpt P k q w mb n f) {B : Nat} {t : TypeId} {cs : Array Value} (hB : Blk w B t cs) (i : Nat) (u : Value) : MapOpt P k q (w.setCell ⟨B, i, none⟩ u) mb n f := by
  rcases h with h | ⟨b, e, h⟩
  · exact .inl h
  · exact .inr ⟨b, e, h.setCell (h.neBlk hB) u⟩
end

theorem PlaceIs.setBlk {w : World} {v : Value} {n : Nat} {bs : Bxs} (h : PlaceIs w v n bs) {B : Nat} {t : TypeId} {cs : Array Value} (hB : Blk w B t cs) (i : Nat) (u : Value) : PlaceIs (w.setCell ⟨B, i, none⟩ u) v n bs := by
  obtain ⟨mb, e, h⟩ := h
  exact ⟨mb, e, h.setBlk hB i u⟩
/-- a slice of ids doesn't lie where no ids are. -/
theorem Rd.setBlk {w : World} {A : Option Addr} {n : Nat} {l : List Int} (h : Rd w A n (U32 l)) {B : Nat} {t : TypeId} {cs : Array Value} (hB : Blk w B t cs) (hc : ∀ (j : Nat) (x : Int), cs[j]? ≠ some (.int .u32 x)) (i : Nat) (u : Value) : Rd (w.setCell ⟨B, i, none⟩ u) A n (U32 l) := by
  refine h.far' (p := ⟨B, i, none⟩) (fun hn a ea => ?_) u
  obtain ⟨b, off, e, hb, hcl⟩ := h.2 hn
  rw [e] at ea
  cases ea
  intro e'
  dsimp only at e'
  subst e'
  have hl := h.1
  match l, hl with
  | [], hl => simp [U32] at hl; omega
  | x :: l, _ =>
    have := hcl 0 (.int .u32 x) rfl
    rw [hB.cell] at this
    exact hc _ _ this
theorem TreeIs.setBlk {w : World} {v : Value} {ns : Nodes} {mk mu : Option Nat} {nk : Nat} {fk : Int → Option Value} (h : TreeIs w v ns mk mu nk fk) {B : Nat} {t : TypeId} {cs : Array Value} (hB : Blk w B t cs) (hc : ∀ (j : Nat) (x : Int), cs[j]? ≠ some (.int .u32 x)) (i : Nat) (u : Value) : TreeIs (w.setCell ⟨B, i, none⟩ u) v ns mk mu nk fk :=
  ⟨h.shape, h.kids.setBlk hB i u, h.up.setBlk hB i u, fun j => by
    obtain ⟨A, c, e, hl, hr⟩ := h.each j
    exact ⟨A, c, e, hl, hr.setBlk hB hc i u⟩, h.room, h.few, h.ok, h.keys⟩
end Go.Proofs.YtdaedkolpfkdjaaGreat
end

section
namespace Go.Proofs.YtdaedkolpfkdjaaGreat
open Go.RowKit Go.Maps Go.Shelf

def DW.cells (d : DW) : List Value := [.int .i64 d.P, .int .i64 d.X, .int .i64 d.Y, .int .i64 d.W, .int .i64 d.H, .bool d.M, .bool d.S, .slice d.A d.n d.c]
theorem DW.cells_len (d : DW) : d.cells.length = 8 := rfl
/-- a slice that reads as windows. -/
structure RdWs (w : World) (A : Option Addr) (n : Nat) (l : List DW) : Prop where
  recs : RdF DW.cells 8 w A n l
  shapes : ∀ d ∈ l, RdR w d.A d.n d.sh
theorem RdWs.below {w w' : World} {A : Option Addr} {n : Nat} {l : List DW} (h : RdWs w A n l) (hb : Below w.heap.size w w') : RdWs w' A n l := ⟨h.recs.below hb, fun d hd => (h.shapes d hd).below hb⟩
theorem RdWs.at_ {w : World} {A : Option Addr} {n : Nat} {l : List DW} (h : RdWs w A n l) (hn : 0 < n) : ∃ b off, A = some ⟨b, off, none⟩ ∧ b < w.heap.size ∧ ∀ k d, l[k]? = some d → (w.cell? ⟨b, off + k * 8, none⟩ = some (.int .i64 d.P) ∧ w.cell? ⟨b, off + k * 8 + 1, none⟩ = some (.int .i64 d.X) ∧ w.cell? ⟨b, off + k * 8 + 2, none⟩ = some (.int .i64 d.Y) ∧ w.cell? ⟨b, off + k * 8 + 3, none⟩ = some (.int .i64 d.W)) ∧ w.cell? ⟨b, off + k * 8 + 4, none⟩ = some (.int .i64 d.H) ∧ w.cell? ⟨b, off + k * 8 + 5, none⟩ = some (.bool d.M) ∧ w.cell? ⟨b, off + k * 8 + 6, none⟩ = some (.bool d.S) ∧ w.cell? ⟨b, off + k * 8 + 7, none⟩ = some (.slice d.A d.n d.c) := by
  obtain ⟨b, off, e, hb, hc⟩ := h.recs.2 hn
  exact ⟨b, off, e, hb, fun k d hk => ⟨⟨hc k d hk 0 _ rfl, hc k d hk 1 _ rfl, hc k d hk 2 _ rfl, hc k d hk 3 _ rfl⟩, hc k d hk 4 _ rfl, hc k d hk 5 _ rfl, hc k d hk 6 _ rfl, hc k d hk 7 _ rfl⟩⟩
theorem idW_bd {n : Int} (h : -1 ≤ n ∧ n ≤ 1000000) : 0 ≤ idW n ∧ idW n ≤ 4294967295 := by
  unfold idW
  split <;> omega

end Go.Proofs.YtdaedkolpfkdjaaGreat
end
