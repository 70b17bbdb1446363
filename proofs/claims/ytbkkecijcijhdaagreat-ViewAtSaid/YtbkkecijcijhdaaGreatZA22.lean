/-
  The walk of a place's Origin.
-/
import Derived.Test.YtbkkecijcijhdaaGreatZA21
import Derived.RegionTactic
import Derived.BigRegion
section
namespace Go.Proofs.YtbkkecijcijhdaaGreat
open Go.RowKit Go.Maps Go.Shelf

/-- by how much a path's windows lie away from the root, and whether all have boxes. -/
def sumX (bs : Bxs) (l : List Int) : Int := (l.map fun w => if w = 1 then 0 else ((bs w).getD zBX).X).sum
def sumY (bs : Bxs) (l : List Int) : Int := (l.map fun w => if w = 1 then 0 else ((bs w).getD zBX).Y).sum
def allB (bs : Bxs) (l : List Int) : Bool := l.all fun w => (bs w).isSome
def orgOk (ns : Nodes) (bs : Bxs) (id : Int) : Bool := hasN ns id && allB bs (pathN ns id)
def orgX (ns : Nodes) (bs : Bxs) (id : Int) : Int := if orgOk ns bs id then sumX bs (pathN ns id) else 0
def orgY (ns : Nodes) (bs : Bxs) (id : Int) : Int := if orgOk ns bs id then sumY bs (pathN ns id) else 0
theorem sumX_snoc (bs : Bxs) (l : List Int) (w : Int) : sumX bs (l ++ [w]) = sumX bs l + (if w = 1 then 0 else ((bs w).getD zBX).X) := by simp [sumX]
theorem sumY_snoc (bs : Bxs) (l : List Int) (w : Int) : sumY bs (l ++ [w]) = sumY bs l + (if w = 1 then 0 else ((bs w).getD zBX).Y) := by simp [sumY]
theorem allB_snoc (bs : Bxs) (l : List Int) (w : Int) : allB bs (l ++ [w]) = (allB bs l && (bs w).isSome) := by simp [allB]
theorem take_snoc' {α} {l : List α} {k : Nat} {x : α} (h : l[k]? = some x) : l.take (k + 1) = l.take k ++ [x] := by
  obtain ⟨h1, h2⟩ := List.getElem?_eq_some_iff.1 h
  rw [List.take_succ_eq_append_getElem h1, h2]
theorem grown_drew (w : World) (row : Option Nat) : w.grownBy w.drew row := ⟨rfl, rfl, rfl, Nat.le_refl _, fun _ _ _ => rfl⟩
/-- boxes whose places are of a moderate size. -/
def nearB (bs : Bxs) : Prop := ∀ i b, bs i = some b → (-100000 ≤ b.X ∧ b.X ≤ 100000) ∧ (-100000 ≤ b.Y ∧ b.Y ≤ 100000)
theorem near_getD {bs : Bxs} (h : nearB bs) (i : Int) : (-100000 ≤ ((bs i).getD zBX).X ∧ ((bs i).getD zBX).X ≤ 100000) ∧ (-100000 ≤ ((bs i).getD zBX).Y ∧ ((bs i).getD zBX).Y ≤ 100000) := by
  cases hb : bs i with
  | none => simp [zBX]
  | some b => exact h i b hb
theorem sum_bd {bs : Bxs} (h : nearB bs) (l : List Int) : (-100000 * (l.length : Int) ≤ sumX bs l ∧ sumX bs l ≤ 100000 * (l.length : Int)) ∧ (-100000 * (l.length : Int) ≤ sumY bs l ∧ sumY bs l ≤ 100000 * (l.length : Int)) := by
  induction l with
  | nil => simp [sumX, sumY]
  | cons w l ih =>
    have hb := near_getD h w
    have e1 : sumX bs (w :: l) = (if w = 1 then 0 else ((bs w).getD zBX).X) + sumX bs l := by simp [sumX]
    have e2 : sumY bs (w :: l) = (if w = 1 then 0 else ((bs w).getD zBX).Y) + sumY bs l := by simp [sumY]
    rw [e1, e2]
    simp only [List.length_cons]
    split <;> omega

set_option maxRecDepth 100000 in
set_option maxHeartbeats 4000000 in
theorem origin_any (pv tv : Value) (n : Nat) (bs : Bxs) (ns : Nodes) (mk mu : Option Nat) (nk : Nat) (fk : Int → Option Value) (id : Int) (w : World) (hid : 0 ≤ id ∧ id ≤ 4294967295) (hp : PlaceIs w pv n bs) (h : TreeIs w tv ns mk mu nk fk) (hok : TreeOk ns) (hnear : nearB bs) :
    Calls Tryz.prog 81 #[pv, tv, .int .u32 id] w fun e w' => e = .returned (.tuple #[.agg #[.int .i64 (orgX ns bs id), .int .i64 (orgY ns bs id)], .bool (orgOk ns bs id)]) ∧ Below w.heap.size w w' := by
  obtain ⟨mb, rfl, hm⟩ := hp
  have hv := h.shape
  subst hv
  have HT := Lib.hid h
  have HM := Lib.hid hm
  have HOK := Lib.hid hok
  have HN := Lib.hid hnear
  have HBE := Lib.hid (bal (bal (bal (bre w) (.cells #[.map mb] 37)) (.cells #[.map mk, .map mu] 34)) (.cells #[.int .i64 0, .int .i64 0] 53))
  have H3 := Lib.hid (((Blk.new w 37 #[.map mb]).alloc (.cells #[.map mk, .map mu] 34)).alloc (.cells #[.int .i64 0, .int .i64 0] 53))
  have H4 := Lib.hid ((blk_new2 w (.cells #[.map mb] 37) 34 #[.map mk, .map mu]).alloc (.cells #[.int .i64 0, .int .i64 0] 53))
  have H6 := Lib.hid (blk_new3 w (.cells #[.map mb] 37) (.cells #[.map mk, .map mu] 34) 53 #[.int .i64 0, .int .i64 0])
  clear h hm
  cases hi : hasN ns id
  · have HI := Lib.hid hi
    have e0 : orgOk ns bs id = false := by unfold orgOk; rw [hi]; rfl
    have e1 : orgX ns bs id = 0 := by unfold orgX; rw [e0]; rfl
    have e2 : orgY ns bs id = 0 := by unfold orgY; rw [e0]; rfl
    rw [e0, e1, e2]
    clear hi e0 e1 e2
    go_enter Tryz.func81, Tryz.ntmps81
    go_wp2_with fail
    with_reducible refine (has_any _ ns mk mu nk fk _ _ hid (HT.out.below HBE.out)).mono ?_
    rintro e w1 ⟨rfl, hb1⟩
    rw [HI.out]
    have b6 := H6.out.belowS hb1
    have q0 := b6.cellV (i := 0) (v := .int .i64 0) rfl
    have q1 := b6.cellV (i := 1) (v := .int .i64 0) rfl
    have f0 := b6.frozen 0
    have f1 := b6.frozen 1
    have l6 := b6.lt
    have K6 := Lib.hid b6
    have HB1 := Lib.hid (bstep HBE.out hb1)
    clear b6 hb1
    go_wp2_with fail
    have hb9 := (K6.out.set_ 0 (.int .i64 0)).set_ 1 (.int .i64 0)
    have r0 := hb9.cellV (i := 0) (v := .int .i64 0) rfl
    have r1 := hb9.cellV (i := 1) (v := .int .i64 0) rfl
    exact bodyPost_ret (v := .tuple #[.agg #[.int .i64 0, .int .i64 0], .bool false]) (by simp [results, Tryz.results81, go_sem, r0, r1]) rfl ⟨rfl, bset (p := ⟨w.heap.size + 1 + 1, 1, none⟩) (bset (p := ⟨w.heap.size + 1 + 1, 0, none⟩) HB1.out (by show w.heap.size ≤ w.heap.size + 1 + 1; omega) _) (by show w.heap.size ≤ w.heap.size + 1 + 1; omega) _⟩
  · have HI := Lib.hid hi
    have hlen := path_len HOK.out id
    have hfew := HT.out.few
    clear hi
    go_enter Tryz.func81, Tryz.ntmps81
    go_wp2_with fail
    with_reducible refine (has_any _ ns mk mu nk fk _ _ hid (HT.out.below HBE.out)).mono ?_
    rintro e w1 ⟨rfl, hb1⟩
    rw [HI.out]
    have b4 := H4.out.belowS hb1
    have t0 := b4.cellV (i := 0) (v := .map mk) rfl
    have t1 := b4.cellV (i := 1) (v := .map mu) rfl
    have HB1 := Lib.hid (bstep HBE.out hb1)
    have l4 := b4.lt
    have K3 := Lib.hid (H3.out.belowS hb1)
    have K6 := Lib.hid (H6.out.belowS hb1)
    have l6 := K6.out.lt
    clear b4 hb1
    go_wp2_with fail
    have KA := Lib.hid (Blk.new w1 53 #[.int .i64 0, .int .i64 0])
    have HBA := Lib.hid (bal HB1.out (.cells #[.int .i64 0, .int .i64 0] 53))
    with_reducible refine (path_any _ ns mk mu nk fk id _ hid (HT.out.below HBA.out) HOK.out).mono ?_
    rintro e w2 ⟨u, rfl, hou, hb2⟩
    obtain ⟨A, c, rfl, hc⟩ := own_form hou
    have HOU := Lib.hid hou
    have HB2 := Lib.hid (bstep HBA.out hb2)
    have K3 := Lib.hid ((K3.out.alloc (.cells #[.int .i64 0, .int .i64 0] 53)).belowS hb2)
    have K6 := Lib.hid ((K6.out.alloc (.cells #[.int .i64 0, .int .i64 0] 53)).belowS hb2)
    have KA := Lib.hid (KA.out.belowS hb2)
    have hs2 := hb2.size
    rw [World.size_alloc] at hs2
    have HS2 := Lib.hid hs2
    obtain ⟨l, hl⟩ : ∃ l, pathN ns id = l := ⟨_, rfl⟩
    have HL := Lib.hid hl
    have hlb : l.length ≤ 1001 := by rw [← hl]; omega
    have HLO := Lib.hid (show ∀ x ∈ l, 0 ≤ x ∧ x ≤ 4294967295 from fun x hx => path_ok HT.out.ok HOK.out hid (by rw [hl]; exact hx))
    rw [hl] at HOU hc ⊢
    obtain ⟨n', hn'⟩ : ∃ n', l.length = n' := ⟨_, rfl⟩
    rw [hn'] at HOU hc hlb ⊢
    have HN' := Lib.hid hn'
    clear t0 t1 l4 hou hb2 hs2 hl hn' hlen
    go_wp2_with fail
    go_loopw [22, 10, 11, 12, 7] (fun i _ _ _ _ wr => ∃ (k : Nat) (sx sy : Int), i = .int .i64 k ∧ k ≤ n' ∧ allB bs (l.take k) = true ∧ sx = sumX bs (l.take k) ∧ sy = sumY bs (l.take k) ∧ Blk wr w1.heap.size 53 #[.int .i64 sx, .int .i64 sy] ∧ w2.grownBy wr (some w1.heap.size)) (fun i _ _ _ _ _ => n' - (intOf i).toNat)
    case atStart => exact ⟨0, 0, 0, rfl, by omega, rfl, rfl, rfl, KA.out, ⟨rfl, rfl, rfl, Nat.le_refl _, fun _ _ _ => rfl⟩⟩
    case round =>
      obtain ⟨k, sx, sy, rfl, hk, hall, hsx, hsy, hat, hgw⟩ := hrel
      have hsb := sum_bd HN.out (l.take k)
      rw [← hsx, ← hsy, List.length_take] at hsb
      have hb1 : -200000000 ≤ sx ∧ sx ≤ 200000000 := by omega
      have hb2 : -200000000 ≤ sy ∧ sy ≤ 200000000 := by omega
      have HALL := Lib.hid hall
      have HSX := Lib.hid hsx
      have HSY := Lib.hid hsy
      have HAT := Lib.hid hat
      have HG := Lib.hid hgw
      have HBW := Lib.hid (HB2.out.grown hgw HB2.out.size (fun q e => by cases e; have := HB1.out.size; omega))
      have HK3 := Lib.hid (K3.out.grown hgw (by intro e; injection e with e; omega))
      have HK6 := Lib.hid (K6.out.grown hgw (by intro e; injection e with e; omega))
      have hsz := hgw.size
      have la := hat.lt
      have hown := HOU.out.kept hgw (.inr (fun e => by have := own_ge HOU.out _ e; rw [World.size_alloc] at this; omega))
      have HOW := Lib.hid hown
      clear hsb hall hsx hsy hat hgw hown
      by_cases hlt : k < n'
      · obtain ⟨x, hx⟩ : ∃ x, l[k]? = some x := ⟨_, List.getElem?_eq_getElem (by rw [HN'.out]; exact hlt)⟩
        have hxb := HLO.out x (List.mem_of_getElem? hx)
        have HWF := Lib.hid (u32_wf hxb)
        have HTK := Lib.hid (take_snoc' hx)
        obtain ⟨b, off, rfl, hbl, hcl⟩ := (Rd.of_own HOW.out).2 (by omega)
        have hcell := hcl k _ (U32_at hx)
        have p3 := HK3.out.cellV (i := 0) (v := .map mb) rfl
        have k1 : (k : Int) < (n' : Int) := by omega
        have k0 : (0 : Int) ≤ (k : Int) := by omega
        obtain ⟨b0, hb0⟩ : ∃ b0, (bs x).getD zBX = b0 := ⟨_, rfl⟩
        have hnb := near_getD HN.out x
        rw [hb0] at hnb
        have HGV := Lib.hid (show (bs.f x).getD zBX.v = b0.v from (bxv_getD (bs x)).trans (by rw [hb0]))
        obtain ⟨s, hs⟩ : ∃ s, (bs x).isSome = s := ⟨_, rfl⟩
        have HSV := Lib.hid (show (bs.f x).isSome = s by rw [← hs]; simp [Bxs.f])
        have HS := Lib.hid hs
        have HBZ := Lib.hid hb0
        clear hx hcl hb0 hs
        cases s
        · have q0 := HK6.out.cellV (i := 0) (v := .int .i64 0) rfl
          have q1 := HK6.out.cellV (i := 1) (v := .int .i64 0) rfl
          have f0 := HK6.out.frozen 0
          have f1 := HK6.out.frozen 1
          have l6' := HK6.out.lt
          go_wp2_with (at_lookup; refine opt_look_ok rfl _ _ 35 rfl 49 156 .u32 Tryz.underlying49 Tryz.underlying35 zBX.v (Tryz.zeroBox _) mb n bs.f rfl (HM.out.below HBW.out) x rfl HWF.out ?_; rw [HGV.out, HSV.out]; unfold BX.v)
          have hb9 := ((HK6.out.set_ 0 (.int .i64 0)).set_ 1 (.int .i64 0)).alloc (.cells #[.int .i64 b0.X, .int .i64 b0.Y, .int .i64 b0.W, .int .i64 b0.H, .bool b0.M, .int .i64 b0.G, .int .i64 b0.B, .bool b0.S, .slice b0.A b0.n b0.c] 156)
          have r0 := hb9.cellV (i := 0) (v := .int .i64 0) rfl
          have r1 := hb9.cellV (i := 1) (v := .int .i64 0) rfl
          have hm : x ∈ l := by
            have := HTK.out
            have h2 : x ∈ l.take (k + 1) := by rw [this]; simp
            exact List.mem_of_mem_take h2
          have ea : allB bs l = false := by
            unfold allB
            rw [List.all_eq_false]
            exact ⟨x, hm, by rw [HS.out]; simp⟩
          have e0 : orgOk ns bs id = false := by unfold orgOk; rw [HI.out, HL.out, ea]; rfl
          have e1 : orgX ns bs id = 0 := by unfold orgX; rw [e0]; rfl
          have e2 : orgY ns bs id = 0 := by unfold orgY; rw [e0]; rfl
          rw [e0, e1, e2]
          exact bodyPost_ret (v := .tuple #[.agg #[.int .i64 0, .int .i64 0], .bool false]) (by simp [results, Tryz.results81, go_sem, r0, r1]) rfl ⟨rfl, bal (bset (p := ⟨w.heap.size + 1 + 1, 1, none⟩) (bset (p := ⟨w.heap.size + 1 + 1, 0, none⟩) HBW.out (by show w.heap.size ≤ w.heap.size + 1 + 1; omega) _) (by show w.heap.size ≤ w.heap.size + 1 + 1; omega) _) _⟩
        · by_cases hx1 : x = 1
          · have d1 : (x != 1) = false := by simp [hx1]
            have HX1 := Lib.hid hx1
            clear hx1
            go_wp2_with (at_lookup; refine opt_look_ok rfl _ _ 35 rfl 49 156 .u32 Tryz.underlying49 Tryz.underlying35 zBX.v (Tryz.zeroBox _) mb n bs.f rfl (HM.out.below HBW.out) x rfl HWF.out ?_; rw [HGV.out, HSV.out]; unfold BX.v)
            go_roundw
            case rel =>
              refine ⟨k + 1, sx, sy, by go_num, by omega, ?_, ?_, ?_, HAT.out.alloc _, HG.out.andThen (World.grownBy_alloc _ _ none) (fun j hj => by cases hj)⟩
              · rw [HTK.out, allB_snoc, HALL.out, HS.out]; rfl
              · rw [HTK.out, sumX_snoc, ← HSX.out, if_pos HX1.out]; omega
              · rw [HTK.out, sumY_snoc, ← HSY.out, if_pos HX1.out]; omega
            case measure => simp [intOf]; omega
          · have d1 : (x != 1) = true := by simp [hx1]
            have HX1 := Lib.hid hx1
            clear hx1
            go_wp2_with (at_lookup; refine opt_look_ok rfl _ _ 35 rfl 49 156 .u32 Tryz.underlying49 Tryz.underlying35 zBX.v (Tryz.zeroBox _) mb n bs.f rfl (HM.out.below HBW.out) x rfl HWF.out ?_; rw [HGV.out, HSV.out]; unfold BX.v)
            obtain ⟨X, hX⟩ : ∃ X, wr.alloc (.cells #[.int .i64 b0.X, .int .i64 b0.Y, .int .i64 b0.W, .int .i64 b0.H, .bool b0.M, .int .i64 b0.G, .int .i64 b0.B, .bool b0.S, .slice b0.A b0.n b0.c] 156) = X := ⟨_, rfl⟩
            have ba := HAT.out.alloc (.cells #[.int .i64 b0.X, .int .i64 b0.Y, .int .i64 b0.W, .int .i64 b0.H, .bool b0.M, .int .i64 b0.G, .int .i64 b0.B, .bool b0.S, .slice b0.A b0.n b0.c] 156)
            have bb := Blk.new wr 156 #[.int .i64 b0.X, .int .i64 b0.Y, .int .i64 b0.W, .int .i64 b0.H, .bool b0.M, .int .i64 b0.G, .int .i64 b0.B, .bool b0.S, .slice b0.A b0.n b0.c]
            have hgx := HG.out.andThen (World.grownBy_alloc wr (.cells #[.int .i64 b0.X, .int .i64 b0.Y, .int .i64 b0.W, .int .i64 b0.H, .bool b0.M, .int .i64 b0.G, .int .i64 b0.B, .bool b0.S, .slice b0.A b0.n b0.c] 156) none) (fun j hj => by cases hj)
            rw [hX] at ba bb hgx ⊢
            clear hX
            have HGX := Lib.hid hgx
            have BA := Lib.hid ba
            have c0 := ba.cellV (i := 0) (v := .int .i64 sx) rfl
            have c1 := ba.cellV (i := 1) (v := .int .i64 sy) rfl
            have g0 := ba.frozen 0
            have g1 := ba.frozen 1
            have e0 := bb.cellV (i := 0) (v := .int .i64 b0.X) rfl
            have e1 := bb.cellV (i := 1) (v := .int .i64 b0.Y) rfl
            clear ba bb hgx
            go_region
            have hdr : ∀ (W : World), Below W.heap.size W W.drew := fun W => (bre W).drew
            go_wp2_with fail
            go_roundw
            case rel =>
              refine ⟨k + 1, sx + b0.X, sy + b0.Y, by go_num, by omega, ?_, ?_, ?_, ((BA.out.set_ 0 _).set_ 1 _).drewT, ((HGX.out.andThen (grown_setCell X ⟨w1.heap.size, 0, none⟩ _) (fun j hj => .inr hj)).andThen (grown_setCell _ ⟨w1.heap.size, 1, none⟩ _) (fun j hj => .inr hj)).andThen (grown_drew _ none) (fun j hj => by cases hj)⟩
              · rw [HTK.out, allB_snoc, HALL.out, HS.out]; rfl
              · rw [HTK.out, sumX_snoc, ← HSX.out, if_neg HX1.out, HBZ.out]
              · rw [HTK.out, sumY_snoc, ← HSY.out, if_neg HX1.out, HBZ.out]
            case measure => simp [intOf]; omega
      · obtain rfl : k = n' := by omega
        have q0 := HK6.out.cellV (i := 0) (v := .int .i64 0) rfl
        have q1 := HK6.out.cellV (i := 1) (v := .int .i64 0) rfl
        have f0 := HK6.out.frozen 0
        have f1 := HK6.out.frozen 1
        have l6' := HK6.out.lt
        have p0 := HAT.out.cellV (i := 0) (v := .int .i64 sx) rfl
        have p1 := HAT.out.cellV (i := 1) (v := .int .i64 sy) rfl
        go_wp2_with fail
        have hb9 := (HK6.out.set_ 0 (.int .i64 sx)).set_ 1 (.int .i64 sy)
        have r0 := hb9.cellV (i := 0) (v := .int .i64 sx) rfl
        have r1 := hb9.cellV (i := 1) (v := .int .i64 sy) rfl
        have ht : l.take k = l := List.take_of_length_le (by rw [HN'.out]; exact Nat.le_refl _)
        have e0 : orgOk ns bs id = true := by unfold orgOk; rw [HI.out, HL.out, ← ht, HALL.out]; rfl
        have e1 : orgX ns bs id = sx := by unfold orgX; rw [e0, HL.out, HSX.out, ht]; rfl
        have e2 : orgY ns bs id = sy := by unfold orgY; rw [e0, HL.out, HSY.out, ht]; rfl
        rw [e0, e1, e2]
        exact bodyPost_ret (v := .tuple #[.agg #[.int .i64 sx, .int .i64 sy], .bool true]) (by simp [results, Tryz.results81, go_sem, r0, r1]) rfl ⟨rfl, bset (p := ⟨w.heap.size + 1 + 1, 1, none⟩) (bset (p := ⟨w.heap.size + 1 + 1, 0, none⟩) HBW.out (by show w.heap.size ≤ w.heap.size + 1 + 1; omega) _) (by show w.heap.size ≤ w.heap.size + 1 + 1; omega) _⟩

def rcOf (b : BX) : RC := ⟨b.X, b.Y, b.W, b.H⟩

end Go.Proofs.YtbkkecijcijhdaaGreat
end
