/-
  The walk of the law ExposeParts.
-/
import Derived.Test.YtbkkecijcijhdaaGreatZDTExpOneK
import Derived.Test.YtbkkecijcijhdaaGreatZDTExpU
section
namespace Go.Proofs.YtbkkecijcijhdaaGreat
open Go.RowKit Go.Maps Go.Shelf

theorem Small.kept {P Q : Places} {dx dy : Int} {F : Bool} (h : Small Q) : Small (keptP P Q dx dy F) := fun x y hxy => by
  unfold keptP at hxy
  rw [Bool.and_eq_true] at hxy
  exact h x y hxy.1
theorem Small.new {P Q : Places} {dx dy : Int} {F : Bool} (h : Small Q) : Small (newP P Q dx dy F) := fun x y hxy => by
  unfold newP at hxy
  rw [Bool.and_eq_true] at hxy
  exact h x y hxy.1
theorem Small.lost {P Q : Places} (h : Small P) : Small (lostP P Q) := fun x y hxy => by
  unfold lostP at hxy
  rw [Bool.and_eq_true] at hxy
  exact h x y hxy.1
theorem kn_none (P Q : Places) (dx dy : Int) (F : Bool) (x y : Int) : (keptP P Q dx dy F x y && newP P Q dx dy F x y) = false := by
  unfold newP
  cases keptP P Q dx dy F x y <;> simp
theorem kn_all (P Q : Places) (dx dy : Int) (F : Bool) (x y : Int) : (keptP P Q dx dy F x y || newP P Q dx dy F x y) = Q x y := by
  unfold newP keptP
  cases Q x y <;> simp
  cases F <;> simp
theorem kl_all (P Q : Places) (x y : Int) : (keptP P Q 0 0 false x y || lostP P Q x y) = P x y := by
  unfold keptP lostP
  rw [show x - 0 = x by omega, show y - 0 = y by omega]
  cases P x y <;> cases Q x y <;> rfl
theorem kl_none (P Q : Places) (x y : Int) : (keptP P Q 0 0 false x y && lostP P Q x y) = false := by
  unfold keptP lostP
  rw [show x - 0 = x by omega, show y - 0 = y by omega]
  cases P x y <;> cases Q x y <;> rfl
theorem evK_at {code id : Int} {rs : List RC} {l : List OV} {k : Nat} {r : RC} (h : l.map OV.key = evK code id rs rs.length) (hr : rs[k]? = some r) : ∃ o, l[k]? = some o ∧ o.C = code ∧ o.ns = [id, r.X, r.Y, r.W, r.H, (rs.length : Int) - 1 - (k : Int)] := by
  have h1 : (evK code id rs rs.length)[k]? = some (code, [id, r.X, r.Y, r.W, r.H, (rs.length : Int) - 1 - (k : Int)]) := by
    unfold evK
    rw [List.take_of_length_le (Nat.le_refl _), List.getElem?_map, List.getElem?_zipIdx, hr]
    simp
  rw [← h, List.getElem?_map] at h1
  cases ho : l[k]? with
  | none => rw [ho] at h1; cases h1
  | some o =>
    rw [ho] at h1
    have h2 := Option.some.inj h1
    unfold OV.key at h2
    injection h2 with h2 h3
    exact ⟨o, rfl, h2, h3⟩
theorem small_rect {w : World} {u : Value} {P : Places} {out : List RC} (hr : RegAt w u out) (hp : ∀ x y, inB out x y = P x y) (hs : Small P) : ∀ r ∈ out, (0 ≤ r.X ∧ r.X ≤ 20) ∧ (0 ≤ r.Y ∧ r.Y ≤ 20) ∧ (0 ≤ r.W ∧ r.W ≤ 20) ∧ 0 ≤ r.H ∧ r.H ≤ 20 := fun r hm => by
  obtain ⟨h1, h2⟩ := hr.pos r hm
  have a := hs r.X r.Y (by rw [← hp, inB_iff]; exact ⟨r, hm, by omega, by omega, by omega, by omega⟩)
  have b := hs (r.X + r.W - 1) (r.Y + r.H - 1) (by rw [← hp, inB_iff]; exact ⟨r, hm, by omega, by omega, by omega, by omega⟩)
  omega
theorem areaL_bound : ∀ {rs : List RC} {k : Nat}, (∀ r ∈ rs, (0 ≤ r.W ∧ r.W ≤ 20) ∧ 0 ≤ r.H ∧ r.H ≤ 20) → k ≤ rs.length → 0 ≤ areaL (rs.take k) ∧ areaL (rs.take k) ≤ 400 * (k : Int)
  | rs, 0, _, _ => by simp [areaL]
  | rs, k + 1, h, hk => by
    have hr : rs[k]? = some rs[k] := List.getElem?_eq_getElem (by omega)
    have ih := areaL_bound (k := k) h (by omega)
    rw [areaL_take hr]
    have h1 := h _ (List.mem_of_getElem? hr)
    have h2 : 0 ≤ rs[k].W * rs[k].H := Int.mul_nonneg h1.1.1 h1.2.1
    have h3 : rs[k].W * rs[k].H ≤ 20 * 20 := Int.mul_le_mul h1.1.2 h1.2.2 h1.2.1 (by omega)
    omega
theorem len_of_keyP {l : List OV} {code id : Int} {rs : List RC} {k : Nat} (h : l.map OV.key = evK code id rs k) (hk : k ≤ rs.length) : l.length = k := by
  have h1 := congrArg List.length h
  rw [List.length_map, evK_len hk] at h1
  exact h1
theorem rcs_singleP (r : RC) : rcs [r] = [.int .i64 r.X, .int .i64 r.Y, .int .i64 r.W, .int .i64 r.H] := by simp [rcs, RC.cells]
theorem rdAt {w : World} {g p n : Nat} {xs : List Value} (h : Rd w (some ⟨g, p, none⟩) n xs) (j : Nat) {u : Value} (hj : xs[j]? = some u) : w.cell? ⟨g, p + j, none⟩ = some u := by
  have hl := (List.getElem?_eq_some_iff.1 hj).1
  obtain ⟨b, off, e, _, hc⟩ := h.2 (by have := h.1; omega)
  injection e with e
  injection e with e1 e2
  subst e1 e2
  exact hc j u hj
theorem rdAt0 {w : World} {g p n : Nat} {xs : List Value} (h : Rd w (some ⟨g, p, none⟩) n xs) {u : Value} (hj : xs[0]? = some u) : w.cell? ⟨g, p, none⟩ = some u := rdAt h 0 hj
theorem rd_grown {w w' : World} {A : Option Addr} {n : Nat} {xs : List Value} {row : Option Nat} (h : Rd w A n xs) (hg : w.grownBy w' row) (hne : ∀ a, A = some a → row = some a.block → False) : Rd w' A n xs :=
  ⟨h.1, fun hn => by
    obtain ⟨b, off, e, hl, hc⟩ := h.2 hn
    have hb : w'.heap[b]? = w.heap[b]? := hg.block b hl (fun e' => hne _ e e'.symm)
    have hcell : ∀ o, w'.cell? ⟨b, o, none⟩ = w.cell? ⟨b, o, none⟩ := fun o => by unfold World.cell?; simp only [hb]
    exact ⟨b, off, e, Nat.lt_of_lt_of_le hl hg.size, fun k u hk => (hcell _).trans (hc k u hk)⟩⟩
theorem reg_area {w : World} {A : Option Addr} {n c : Nat} {out : List RC} (h : RegAt w (.agg #[.slice A n c]) out) (hl : out.length ≤ 100000) :
    Calls Tryz.prog 37 #[.agg #[.slice A n c]] w fun e w' => e = .returned (.int .i64 (areaL out)) ∧ Below w.heap.size w w' := by
  obtain ⟨A', c', e, hr, _, _, hcn⟩ := h
  injection e with e
  have e1 : Value.slice A n c = Value.slice A' out.length c' := by
    have := congrArg (fun q : Array Value => q[0]!) e
    simpa using this
  injection e1 with e1 e2 e3
  subst e1 e2 e3
  exact area_any A out.length c out w (by omega) hr hcn
set_option maxRecDepth 100000 in
set_option maxHeartbeats 16000000 in
theorem exposeParts_any (A : Option Addr) (n c : Nat) (xs : List XW) (dx dy : Int) (F : Bool) (w : World) (hn : n ≤ maxLen) (hr : RdF XW.cells 11 w A n xs) (hok : ∀ x ∈ xs, x.ok) :
    Calls Tryz.prog 11 #[.slice A n c, .agg #[.int .i64 dx, .int .i64 dy, .bool F]] w fun e w' => e = .returned (.bool true) ∧ Below w.heap.size w w' := by
  obtain ⟨i0, hi0, hz0, hz1, hz2⟩ := info_parts Tryz.infoR4
  have HN := Lib.hid hn
  have HR := Lib.hid hr
  have HOK := Lib.hid hok
  clear hn hr hok
  go_enter Tryz.func11, Tryz.ntmps11
  go_upto_region 1 with fail
  have xK := Blk.new w 88 #[.int .i64 dx, .int .i64 dy, .bool F]
  have xB := bal (bre w) (.cells #[.int .i64 dx, .int .i64 dy, .bool F] 88)
  obtain ⟨X0, hX0⟩ : ∃ X0, w.alloc (.cells #[.int .i64 dx, .int .i64 dy, .bool F] 88) = X0 := ⟨_, rfl⟩
  rw [hX0] at xK xB ⊢
  have K3 := Lib.hid xK
  have HB := Lib.hid xB
  clear xK xB hX0
  have hnm := HN.out
  simp only [maxLen] at hnm
  by_cases h6 : n ≤ 6
  case neg =>
    have k6 : (6 : Int) < (n : Int) := by omega
    go_wp2_with fail
    refine (awake32_any _).mono ?_
    rintro e w2 ⟨rfl, hb2⟩
    have HB2 := Lib.hid (bstep HB.out hb2)
    clear hb2
    go_wp2_with fail
    go_ret
    exact ⟨rfl, HB2.out⟩
  have k6 : ¬ (6 : Int) < (n : Int) := by omega
  have q0 := K3.out.cellV (i := 0) (v := .int .i64 dx) rfl
  have q1 := K3.out.cellV (i := 1) (v := .int .i64 dy) rfl
  have q2 := K3.out.cellV (i := 2) (v := .bool F) rfl
  by_cases hsm : (-40 ≤ dx ∧ dx ≤ 40) ∧ -40 ≤ dy ∧ dy ≤ 40
  case neg =>
    have HSM := Lib.hid hsm
    clear hsm
    go_wp2_with fail
    refine (small_no dx dy F _ HSM.out).mono ?_
    rintro e w1 ⟨rfl, hb1⟩
    have HB1 := Lib.hid (bstep HB.out hb1)
    clear hb1
    go_wp2_with fail
    refine (awake32_any _).mono ?_
    rintro e w2 ⟨rfl, hb2⟩
    have HB2 := Lib.hid (bstep HB1.out hb2)
    clear hb2
    go_wp2_with fail
    go_ret
    exact ⟨rfl, HB2.out⟩
  have HSM := Lib.hid hsm
  clear hsm
  go_wp2_with fail
  refine (small_yes dx dy F _ HSM.out).mono ?_
  rintro e w1 ⟨rfl, hb1⟩
  replace K3 := Lib.hid (K3.out.belowS hb1)
  replace HB := Lib.hid (bstep HB.out hb1)
  clear hb1 q0 q1 q2
  go_wp2_with fail
  refine (views_any A n c xs _ h6 (HR.out.below HB.out) HOK.out).mono ?_
  rintro e w2 ⟨va, vb, oga, ogb, rfl, sa, sb, hb⟩
  obtain ⟨Aa, na, ca, ma, rfl⟩ := sa.form
  obtain ⟨Ab, nb, cb, mb, rfl⟩ := sb.form
  have xA := vis_of sa HOK.out (fun x hx => (HOK.out x hx).2.1)
  have xC := vis_of sb HOK.out (fun x hx => (HOK.out x hx).2.2)
  replace K3 := Lib.hid (K3.out.belowS hb)
  replace HB := Lib.hid (bstep HB.out hb)
  clear sa sb hb
  obtain ⟨V, hV⟩ : ∃ V, visW XW.a xs = V := ⟨_, rfl⟩
  obtain ⟨U, hU⟩ : ∃ U, visW XW.b xs = U := ⟨_, rfl⟩
  rw [hV] at xA
  rw [hU] at xC
  clear hV hU
  go_upto_region 4 with fail
  have hba := bal (bal (bre w2) (.cells #[.slice Aa na ca, .map ma] 43)) (.cells #[.slice Ab nb cb, .map mb] 43)
  have xB := bstep HB.out hba
  have xK3 := K3.out.belowS hba
  have xK5 := (Blk.new w2 43 #[.slice Aa na ca, .map ma]).alloc (.cells #[.slice Ab nb cb, .map mb] 43)
  have xK6 := blk_newA w2 (.cells #[.slice Aa na ca, .map ma] 43) 43 #[.slice Ab nb cb, .map mb]
  replace xA := xA.below hba
  replace xC := xC.below hba
  obtain ⟨X2, hX2⟩ : ∃ X2, (w2.alloc (.cells #[.slice Aa na ca, .map ma] 43)).alloc (.cells #[.slice Ab nb cb, .map mb] 43) = X2 := ⟨_, rfl⟩
  rw [hX2] at xB xK3 xK5 xK6 xA xC ⊢
  replace HB := Lib.hid xB
  replace K3 := Lib.hid xK3
  have K5 := Lib.hid xK5
  have K6 := Lib.hid xK6
  have HA := Lib.hid xA
  have HC := Lib.hid xC
  clear hba xB xK3 xK5 xK6 xA xC hX2
  have vn : IntKind.i64.wrap ((n : Int) + 1) = (n : Int) + 1 := IntWalk.i64_in _ (by omega)
  go_wp2_with fail
  go_loopw [37] (fun s wr => ∃ k : Nat, s = .int .i64 k ∧ k ≤ n + 1 ∧ Below X2.heap.size X2 wr) (fun s _ => (n + 1) - (intOf s).toNat)
  case atStart => exact ⟨0, rfl, by omega, bre X2⟩
  case round =>
    obtain ⟨k, rfl, hk, hbk⟩ := hrel
    have HBK := Lib.hid hbk
    clear hbk
    by_cases hlk : k < n + 1
    · have k1 : (k : Int) < (n : Int) + 1 := by omega
      have vk : IntKind.i64.wrap ((k : Int) + 1) = (k : Int) + 1 := IntWalk.i64_in _ (by omega)
      go_wp2_with fail
      refine (id32_any k _ (by omega)).mono ?_
      rintro e w3 ⟨rfl, hb3⟩
      obtain ⟨i, hi⟩ : ∃ i, idW ((k : Int) - 1) = i := ⟨_, rfl⟩
      have HI := Lib.hid (show 0 ≤ i ∧ i ≤ 4294967295 by rw [← hi]; exact idW_bd (by omega))
      rw [hi]
      replace HBK := Lib.hid (bstep HBK.out hb3)
      clear hb3 hi
      have q0 := (K3.out.belowS HBK.out).cellV (i := 0) (v := .int .i64 dx) rfl
      have q1 := (K3.out.belowS HBK.out).cellV (i := 1) (v := .int .i64 dy) rfl
      have q2 := (K3.out.belowS HBK.out).cellV (i := 2) (v := .bool F) rfl
      go_upto_region 9 with fail
      clear q0 q1 q2
      have hba := bal (bre w3) (.cells #[.int .i64 dx, .int .i64 dy, .bool F, .int .i64 0, .int .i64 0, .bool false] 88)
      have xB := bstep HBK.out hba
      have xK := Blk.new w3 88 #[.int .i64 dx, .int .i64 dy, .bool F, .int .i64 0, .int .i64 0, .bool false]
      obtain ⟨X8, hX8⟩ : ∃ X8, w3.alloc (.cells #[.int .i64 dx, .int .i64 dy, .bool F, .int .i64 0, .int .i64 0, .bool false] 88) = X8 := ⟨_, rfl⟩
      rw [hX8] at xB xK ⊢
      have HB8 := Lib.hid xB
      have KS := Lib.hid xK
      clear hba xB xK hX8 HBK
      go_wp2_with fail
      go_loopw [46] (fun s wr => ∃ j : Nat, s = .int .i64 j ∧ j ≤ 2 ∧ Below X8.heap.size X8 wr) (fun s _ => 2 - (intOf s).toNat)
      case atStart => exact ⟨0, rfl, by omega, bre X8⟩
      case round =>
        obtain ⟨j, rfl, hj, hbj⟩ := hrel
        have HBJ := Lib.hid hbj
        clear hbj
        by_cases hlj : j < 2
        · have j1 : (j : Int) < 2 := by omega
          have j0 : (0 : Int) ≤ (j : Int) := by omega
          have vj : IntKind.i64.wrap ((j : Int) + 1) = (j : Int) + 1 := IntWalk.i64_in _ (by omega)
          obtain ⟨ex, ey, eF, he, c0, c1, c2⟩ : ∃ (ex ey : Int) (eF : Bool), ((-40 ≤ ex ∧ ex ≤ 40) ∧ -40 ≤ ey ∧ ey ≤ 40) ∧ wr.cell? ⟨w3.heap.size, j * 3, none⟩ = some (.int .i64 ex) ∧ wr.cell? ⟨w3.heap.size, j * 3 + 1, none⟩ = some (.int .i64 ey) ∧ wr.cell? ⟨w3.heap.size, j * 3 + 2, none⟩ = some (.bool eF) := by
            have kk := KS.out.belowS HBJ.out
            rcases (show j = 0 ∨ j = 1 by omega) with rfl | rfl
            · exact ⟨dx, dy, F, HSM.out, kk.cellV (i := 0) rfl, kk.cellV (i := 1) rfl, kk.cellV (i := 2) rfl⟩
            · exact ⟨0, 0, false, by decide, kk.cellV (i := 3) rfl, kk.cellV (i := 4) rfl, kk.cellV (i := 5) rfl⟩
          have HE := Lib.hid he
          clear he
          go_upto_region 11 with fail
          clear c0 c1 c2
          have hba := bal (bre wr) (.cells #[.int .i64 ex, .int .i64 ey, .bool eF] 88)
          have xB := bstep HBJ.out hba
          have xK := Blk.new wr 88 #[.int .i64 ex, .int .i64 ey, .bool eF]
          obtain ⟨X10, hX10⟩ : ∃ X10, wr.alloc (.cells #[.int .i64 ex, .int .i64 ey, .bool eF] 88) = X10 := ⟨_, rfl⟩
          rw [hX10] at xB xK ⊢
          have HBT := Lib.hid xB
          have HBQ := Lib.hid (bstep HB8.out xB)
          have e0 := xK.cellV (i := 0) (v := .int .i64 ex) rfl
          have e1 := xK.cellV (i := 1) (v := .int .i64 ey) rfl
          have e2 := xK.cellV (i := 2) (v := .bool eF) rfl
          clear hba xB xK hX10
          have f0 := (K5.out.belowS HBQ.out).cellV (i := 0) (v := .slice Aa na ca) rfl
          have f1 := (K5.out.belowS HBQ.out).cellV (i := 1) (v := .map ma) rfl
          have g0 := (K6.out.belowS HBQ.out).cellV (i := 0) (v := .slice Ab nb cb) rfl
          have g1 := (K6.out.belowS HBQ.out).cellV (i := 1) (v := .map mb) rfl
          go_wp2_with fail
          refine (one_any i ex ey eF (HA.out.below HBQ.out) (HC.out.below HBQ.out) HI.out (by have := HE.out; omega)).mono ?_
          rintro e w11 ⟨A3, n3, c3, A4, n4, c4, rfl, hk3, hk4, hb⟩
          clear e0 e1 e2 f0 f1 g0 g1
          go_upto_region 12 with fail
          have hba := bstep hb (bal (bre w11) (.cells #[.int .u32 i, .slice A3 n3 c3, .slice A4 n4 c4] 93))
          have xBT := bstep HBT.out hba
          have xBQ := bstep HBQ.out hba
          have xK := Blk.new w11 93 #[.int .u32 i, .slice A3 n3 c3, .slice A4 n4 c4]
          have xk3 := hk3.below (bal (bre w11) (.cells #[.int .u32 i, .slice A3 n3 c3, .slice A4 n4 c4] 93))
          have xk4 := hk4.below (bal (bre w11) (.cells #[.int .u32 i, .slice A3 n3 c3, .slice A4 n4 c4] 93))
          obtain ⟨X12, hX12⟩ : ∃ X12, w11.alloc (.cells #[.int .u32 i, .slice A3 n3 c3, .slice A4 n4 c4] 93) = X12 := ⟨_, rfl⟩
          rw [hX12] at xBT xBQ xK xk3 xk4 ⊢
          replace HBT := Lib.hid xBT
          replace HBQ := Lib.hid xBQ
          have K12 := Lib.hid xK
          have HKP := Lib.hid xk3
          have HNP := Lib.hid xk4
          clear hba xBT xBQ xK xk3 xk4 hX12 hk3 hk4 hb
          have HSU := Lib.hid (show Small (U i) from HC.out.small i)
          go_cut [73] from 186 (fun s73 wx => s73 = .bool false ∧ Below X12.heap.size X12 wx)
          case first =>
            as_aux_lemma =>
              have HBW := Lib.hid (show Below X12.heap.size X12 X12.drew from (bre X12).drew)
              refine wp_region_noPanic ?_
              refine wp_region_held_drew (S := (fun w' => w'.cell? ⟨w11.heap.size, 1, none⟩ = some (.slice A3 n3 c3) ∧ w'.cell? ⟨w11.heap.size, 2, none⟩ = some (.slice A4 n4 c4) ∧ w'.cell? ⟨w2.heap.size + 1, 0, none⟩ = some (.slice Ab nb cb) ∧ w'.cell? ⟨w2.heap.size + 1, 1, none⟩ = some (.map mb))) (by kernel_rfl) ?_ (fun hHeld => ?_)
              · (try dsimp only)
                exact ⟨(K12.out.belowS HBW.out).cellV (i := 1) rfl, (K12.out.belowS HBW.out).cellV (i := 2) rfl, (K6.out.belowS (bstep HBQ.out HBW.out)).cellV (i := 0) rfl, (K6.out.belowS (bstep HBQ.out HBW.out)).cellV (i := 1) rfl⟩
              refine Tr.take_at 0 55 (.pointer (some ⟨w11.heap.size, 1, none⟩)) rfl rfl (by kernel_rfl) (by kernel_rfl) (by kernel_rfl) (fun _ _ _ h => h) (Or.inl ⟨by rfl, ?_⟩) (by assumption) ?_
              · intro W0 hSw
                (try dsimp only at hSw)
                go_simp
              simp only [List.set_cons_zero, List.set_cons_succ]
              refine Tr.take_at 1 56 (.agg #[.slice A3 n3 c3]) rfl rfl (by kernel_rfl) (by kernel_rfl) (by kernel_rfl) (fun _ _ _ h => h) (Or.inl ⟨by rfl, ?_⟩) (by assumption) ?_
              · intro W0 hSw
                (try dsimp only at hSw)
                go_simp
              simp only [List.set_cons_zero, List.set_cons_succ]
              refine Tr.take_at 2 57 (.pointer (some ⟨w11.heap.size, 2, none⟩)) rfl rfl (by kernel_rfl) (by kernel_rfl) (by kernel_rfl) (fun _ _ _ h => h) (Or.inl ⟨by rfl, ?_⟩) (by assumption) ?_
              · intro W0 hSw
                (try dsimp only at hSw)
                go_simp
              simp only [List.set_cons_zero, List.set_cons_succ]
              refine Tr.take_at 3 58 (.agg #[.slice A4 n4 c4]) rfl rfl (by kernel_rfl) (by kernel_rfl) (by kernel_rfl) (fun _ _ _ h => h) (Or.inl ⟨by rfl, ?_⟩) (by assumption) ?_
              · intro W0 hSw
                (try dsimp only at hSw)
                go_simp
              simp only [List.set_cons_zero, List.set_cons_succ]
              refine wpAnyH_ready (rs := [4]) (by kernel_rfl) (by simp) ?_
              refine AllReadyH.cons rfl (fun K hK => ?_) AllReadyH.nil
              go_simp
              refine (meetP (HKP.out.below HBW.out) (HNP.out.below HBW.out) HSU.out.kept.box HSU.out.new.box).mono ?_
              rintro e wc4 ⟨u, rfl, hr, hbA⟩
              obtain ⟨A104, n104, c104, rfl⟩ := hr.form
              have HM4 := Lib.hid hr
              clear hr
              replace HBW := Lib.hid (bstep HBW.out hbA)
              clear hbA
              go_simp
              refine hK.out _ _ ?_ (fun hHeld => ?_)
              · (try dsimp only)
                exact ⟨(K12.out.belowS HBW.out).cellV (i := 1) rfl, (K12.out.belowS HBW.out).cellV (i := 2) rfl, (K6.out.belowS (bstep HBQ.out HBW.out)).cellV (i := 0) rfl, (K6.out.belowS (bstep HBQ.out HBW.out)).cellV (i := 1) rfl⟩
              clear hK K
              refine wpAnyH_ready (rs := [5]) (by kernel_rfl) (by simp) ?_
              refine AllReadyH.cons rfl (fun K hK => ?_) AllReadyH.nil
              go_simp
              refine (emptyP_yes HM4.out (kn_none (V i) (U i) ex ey eF)).mono ?_
              rintro e wc5 ⟨rfl, hbA⟩
              replace HBW := Lib.hid (bstep HBW.out hbA)
              replace HM4 := Lib.hid (HM4.out.below hbA)
              clear hbA
              go_simp
              refine hK.out _ _ ?_ (fun hHeld => ?_)
              · (try dsimp only)
                exact ⟨(K12.out.belowS HBW.out).cellV (i := 1) rfl, (K12.out.belowS HBW.out).cellV (i := 2) rfl, (K6.out.belowS (bstep HBQ.out HBW.out)).cellV (i := 0) rfl, (K6.out.belowS (bstep HBQ.out HBW.out)).cellV (i := 1) rfl⟩
              clear hK K
              refine Tr.take_at 6 61 (.bool false) rfl rfl (by kernel_rfl) (by kernel_rfl) (by kernel_rfl) (fun _ _ _ h => h) (Or.inl ⟨by rfl, ?_⟩) (by assumption) ?_
              · intro W0 hSw
                (try dsimp only at hSw)
                go_simp
              simp only [List.set_cons_zero, List.set_cons_succ]
              refine Tr.take_at 7 62 (.bool false) rfl rfl (by kernel_rfl) (by kernel_rfl) (by kernel_rfl) (fun _ _ _ h => h) (Or.inl ⟨by rfl, ?_⟩) (by assumption) ?_
              · intro W0 hSw
                (try dsimp only at hSw)
                go_simp
              simp only [List.set_cons_zero, List.set_cons_succ]
              refine Tr.take_at 8 63 (.pointer (some ⟨w11.heap.size, 1, none⟩)) rfl rfl (by kernel_rfl) (by kernel_rfl) (by kernel_rfl) (fun _ _ _ h => h) (Or.inl ⟨by rfl, ?_⟩) (by assumption) ?_
              · intro W0 hSw
                (try dsimp only at hSw)
                go_simp
              simp only [List.set_cons_zero, List.set_cons_succ]
              refine Tr.take_at 9 64 (.agg #[.slice A3 n3 c3]) rfl rfl (by kernel_rfl) (by kernel_rfl) (by kernel_rfl) (fun _ _ _ h => h) (Or.inl ⟨by rfl, ?_⟩) (by assumption) ?_
              · intro W0 hSw
                (try dsimp only at hSw)
                go_simp
              simp only [List.set_cons_zero, List.set_cons_succ]
              refine Tr.take_at 10 65 (.pointer (some ⟨w11.heap.size, 2, none⟩)) rfl rfl (by kernel_rfl) (by kernel_rfl) (by kernel_rfl) (fun _ _ _ h => h) (Or.inl ⟨by rfl, ?_⟩) (by assumption) ?_
              · intro W0 hSw
                (try dsimp only at hSw)
                go_simp
              simp only [List.set_cons_zero, List.set_cons_succ]
              refine Tr.take_at 11 66 (.agg #[.slice A4 n4 c4]) rfl rfl (by kernel_rfl) (by kernel_rfl) (by kernel_rfl) (fun _ _ _ h => h) (Or.inl ⟨by rfl, ?_⟩) (by assumption) ?_
              · intro W0 hSw
                (try dsimp only at hSw)
                go_simp
              simp only [List.set_cons_zero, List.set_cons_succ]
              refine Tr.take_at 13 68 (.agg #[.slice Ab nb cb, .map mb]) rfl rfl (by kernel_rfl) (by kernel_rfl) (by kernel_rfl) (fun _ _ _ h => h) (Or.inl ⟨by rfl, ?_⟩) (by assumption) ?_
              · intro W0 hSw
                (try dsimp only at hSw)
                go_simp
              simp only [List.set_cons_zero, List.set_cons_succ]
              refine Tr.take_at 14 69 (.int .u32 i) rfl rfl (by kernel_rfl) (by kernel_rfl) (by kernel_rfl) (fun _ _ _ h => h) (Or.inl ⟨by rfl, ?_⟩) (by assumption) ?_
              · intro W0 hSw
                (try dsimp only at hSw)
                go_simp
              simp only [List.set_cons_zero, List.set_cons_succ]
              refine wpAnyH_ready (rs := [12]) (by kernel_rfl) (by simp) ?_
              refine AllReadyH.cons rfl (fun K hK => ?_) AllReadyH.nil
              go_simp
              refine (unionP (HKP.out.below HBW.out) (HNP.out.below HBW.out) HSU.out.kept HSU.out.new).mono ?_
              rintro e wc12 ⟨u, rfl, hr, hbA⟩
              obtain ⟨A112, n112, c112, rfl⟩ := hr.form
              have HM12 := Lib.hid hr
              clear hr
              replace HBW := Lib.hid (bstep HBW.out hbA)
              replace HM4 := Lib.hid (HM4.out.below hbA)
              clear hbA
              go_simp
              refine hK.out _ _ ?_ (fun hHeld => ?_)
              · (try dsimp only)
                exact ⟨(K12.out.belowS HBW.out).cellV (i := 1) rfl, (K12.out.belowS HBW.out).cellV (i := 2) rfl, (K6.out.belowS (bstep HBQ.out HBW.out)).cellV (i := 0) rfl, (K6.out.belowS (bstep HBQ.out HBW.out)).cellV (i := 1) rfl⟩
              clear hK K
              refine wpAnyH_ready (rs := [15]) (by kernel_rfl) (by simp) ?_
              refine AllReadyH.cons rfl (fun K hK => ?_) AllReadyH.nil
              go_simp
              refine (HC.out.call _ (bstep HBQ.out HBW.out) i HI.out).mono ?_
              rintro e wc15 ⟨u, rfl, hr, hbA⟩
              obtain ⟨A115, n115, c115, rfl⟩ := hr.form
              have HM15 := Lib.hid hr
              clear hr
              replace HBW := Lib.hid (bstep HBW.out hbA)
              replace HM4 := Lib.hid (HM4.out.below hbA)
              replace HM12 := Lib.hid (HM12.out.below hbA)
              clear hbA
              go_simp
              refine hK.out _ _ ?_ (fun hHeld => ?_)
              · (try dsimp only)
                exact ⟨(K12.out.belowS HBW.out).cellV (i := 1) rfl, (K12.out.belowS HBW.out).cellV (i := 2) rfl, (K6.out.belowS (bstep HBQ.out HBW.out)).cellV (i := 0) rfl, (K6.out.belowS (bstep HBQ.out HBW.out)).cellV (i := 1) rfl⟩
              clear hK K
              refine wpAnyH_ready (rs := [16]) (by kernel_rfl) (by simp) ?_
              refine AllReadyH.cons rfl (fun K hK => ?_) AllReadyH.nil
              go_simp
              refine (sameP HM12.out HM15.out (kn_all (V i) (U i) ex ey eF)).mono ?_
              rintro e wc16 ⟨rfl, hbA⟩
              replace HBW := Lib.hid (bstep HBW.out hbA)
              replace HM4 := Lib.hid (HM4.out.below hbA)
              replace HM12 := Lib.hid (HM12.out.below hbA)
              replace HM15 := Lib.hid (HM15.out.below hbA)
              clear hbA
              go_simp
              refine hK.out _ _ ?_ (fun hHeld => ?_)
              · (try dsimp only)
                exact ⟨(K12.out.belowS HBW.out).cellV (i := 1) rfl, (K12.out.belowS HBW.out).cellV (i := 2) rfl, (K6.out.belowS (bstep HBQ.out HBW.out)).cellV (i := 0) rfl, (K6.out.belowS (bstep HBQ.out HBW.out)).cellV (i := 1) rfl⟩
              clear hK K
              refine Tr.take_at 17 72 (.bool false) rfl rfl (by kernel_rfl) (by kernel_rfl) (by kernel_rfl) (fun _ _ _ h => h) (Or.inl ⟨by rfl, ?_⟩) (by assumption) ?_
              · intro W0 hSw
                (try dsimp only at hSw)
                go_simp
              simp only [List.set_cons_zero, List.set_cons_succ]
              refine Tr.take_at 18 73 (.bool false) rfl rfl (by kernel_rfl) (by kernel_rfl) (by kernel_rfl) (fun _ _ _ h => h) (Or.inl ⟨by rfl, ?_⟩) (by assumption) ?_
              · intro W0 hSw
                (try dsimp only at hSw)
                go_simp
              simp only [List.set_cons_zero, List.set_cons_succ]
              refine wpAnyH_done (by kernel_rfl) ?_ _
              refine NoPanic.normal ?_
              go_wp2_with fail
              go_meet
              exact ⟨rfl, HBW.out⟩
          obtain ⟨rfl, hbc⟩ := hcut
          replace HBT := Lib.hid (bstep HBT.out hbc)
          replace HBQ := Lib.hid (bstep HBQ.out hbc)
          replace K12 := Lib.hid (K12.out.belowS hbc)
          replace HNP := Lib.hid (HNP.out.below hbc)
          clear hbc HKP
          obtain ⟨X13, hX13⟩ : ∃ X13, X13 = wc := ⟨_, rfl⟩
          subst hX13
          obtain ⟨out, hat, hpl⟩ := HNP.out
          obtain ⟨N, hN⟩ : ∃ N, out.length = N := ⟨_, rfl⟩
          have hfew := reg_small hat hpl HSU.out.new
          have hrc := small_rect hat hpl HSU.out.new
          have hsl : n4 = N := by obtain ⟨A', c', e, _⟩ := hat; injection e with e; injection e with e; injection e with e1 e2; injection e1 with _ e3; omega
          subst hsl
          have HAT := Lib.hid hat
          have HPL := Lib.hid hpl
          have HNL := Lib.hid hN
          have HFW := Lib.hid (show n4 ≤ 400 by omega)
          have HRC := Lib.hid hrc
          clear hat hpl hN hfew hrc
          have e0 := K12.out.cellV (i := 0) (v := .int .u32 i) rfl
          have e1 := K12.out.cellV (i := 1) (v := .slice A3 n3 c3) rfl
          have e2 := K12.out.cellV (i := 2) (v := .slice A4 n4 c4) rfl
          go_wp2_with fail
          refine (Events_any i A3 A4 n3 c3 n4 c4 out _ HI.out HAT.out (by rw [HNL.out]; have := HFW.out; omega)).mono ?_
          rintro e w16 ⟨v, l, rfl, ho, hkey, hb⟩
          obtain ⟨Ao, co, rfl, _⟩ := own_form ho.own
          have hlen := len_of_keyP hkey (Nat.le_refl _)
          rw [HNL.out] at hlen
          have hown := ho.own
          rw [hlen] at hown ⊢
          have HOR := Lib.hid (RdF.of_own OV.cells_len hown hlen)
          have HOE := Lib.hid ho.each
          have HKEY := Lib.hid hkey
          replace HBT := Lib.hid (bstep HBT.out hb)
          replace HBQ := Lib.hid (bstep HBQ.out hb)
          replace K12 := Lib.hid (K12.out.belowS hb)
          replace HAT := Lib.hid (HAT.out.below hb)
          clear ho hkey hb hlen hown e0 e1 e2 HNP
          obtain ⟨X16, hX16⟩ : ∃ X16, X16 = w16 := ⟨_, rfl⟩
          subst hX16
          have hfw := HFW.out
          go_wp2_with fail
          go_loopw [77, 13, 14] (fun s77 s13 s14 wr => ∃ q : Nat, s77 = .int .i64 q ∧ q ≤ n4 ∧ RcOwn wr X16.heap.size s13 q (out.take q) ∧ s14 = .int .i64 (areaL (out.take q)) ∧ Below X16.heap.size X16 wr) (fun s77 _ _ _ => n4 - (intOf s77).toNat)
          case atStart => exact ⟨0, rfl, by omega, World.ownsRow_nil _ _ _ _, rfl, bre X16⟩
          case round =>
            obtain ⟨q, rfl, hq, how, rfl, hbr⟩ := hrel
            obtain ⟨Aw, cw, rfl, _⟩ := own_form (show World.ownsRow _ _ _ _ _ _ _ from how)
            have HOW := Lib.hid how
            have HBR := Lib.hid hbr
            clear how
            by_cases hlq : q < n4
            · obtain ⟨r, hr⟩ : ∃ r, out[q]? = some r := ⟨_, List.getElem?_eq_getElem (by have := HNL.out; omega)⟩
              obtain ⟨o, ho, hC, hns⟩ := evK_at HKEY.out hr
              rw [HNL.out] at hns
              have HRB := Lib.hid (HRC.out r (List.mem_of_getElem? hr))
              have HAL := Lib.hid (areaL_take hr)
              have HAB := Lib.hid (areaL_bound (rs := out) (k := q) (fun r hm => (HRC.out r hm).2.2) (by have := HNL.out; omega))
              have HTK := Lib.hid (take_snocI' hr)
              have hoe := HOE.out o (List.mem_of_getElem? ho)
              obtain ⟨b, f, rfl, hb, hcl⟩ := (HOR.out.below hbr).2 (by omega)
              obtain ⟨oC, oA, oc, ns⟩ := o
              dsimp only at hC hns hoe
              subst hC hns
              have hrow := (Rd.of_own hoe).below hbr
              obtain ⟨g, p, rfl, hg, _⟩ := hrow.2 (by simp)
              obtain ⟨g', p', eg, hgl, _⟩ := (Rd.of_own hoe).2 (by simp)
              injection eg with eg
              injection eg with eg1 eg2
              subst eg1 eg2
              have HGL := Lib.hid hgl
              have HZ := Lib.hid (show Rd wr (some ⟨g, p, none⟩) 6 (I64 [i, r.X, r.Y, r.W, r.H, (n4 : Int) - 1 - (q : Int)]) from hrow)
              have x0 : wr.cell? ⟨b, f + q * 6, none⟩ = some (.int .i64 2) := hcl q _ ho 0 _ rfl
              have x1 : wr.cell? ⟨b, f + q * 6 + 1, none⟩ = some (.int .i64 10) := hcl q _ ho 1 _ rfl
              have x2 : wr.cell? ⟨b, f + q * 6 + 2, none⟩ = some (.int .i64 0) := hcl q _ ho 2 _ rfl
              have x3 : wr.cell? ⟨b, f + q * 6 + 3, none⟩ = some (.slice (some ⟨g, p, none⟩) 6 oc) := hcl q _ ho 3 _ rfl
              have x4 : wr.cell? ⟨b, f + q * 6 + 4, none⟩ = some (.string ByteArray.empty) := hcl q _ ho 4 _ rfl
              have x5 : wr.cell? ⟨b, f + q * 6 + 5, none⟩ = some (.slice none 0 0) := hcl q _ ho 5 _ rfl
              have q1 : (q : Int) < (n4 : Int) := by omega
              have q0 : (0 : Int) ≤ (q : Int) := by omega
              have vq : IntKind.i64.wrap ((q : Int) + 1) = (q : Int) + 1 := IntWalk.i64_in _ (by omega)
              clear hr ho hcl hrow hoe hbr
              go_upto_region 19 with fail
              clear x0 x1 x2 x3 x4 x5
              have hba := bal (bre wr) (.cells #[.int .i64 2, .int .i64 10, .int .i64 0, .slice (some ⟨g, p, none⟩) 6 oc, .string ByteArray.empty, .slice none 0 0] 106)
              have xB := bstep HBR.out hba
              have xK := Blk.new wr 106 #[.int .i64 2, .int .i64 10, .int .i64 0, .slice (some ⟨g, p, none⟩) 6 oc, .string ByteArray.empty, .slice none 0 0]
              have xO := HOW.out.below hba
              have xZ := HZ.out.below hba
              obtain ⟨X18, hX18⟩ : ∃ X18, wr.alloc (.cells #[.int .i64 2, .int .i64 10, .int .i64 0, .slice (some ⟨g, p, none⟩) 6 oc, .string ByteArray.empty, .slice none 0 0] 106) = X18 := ⟨_, rfl⟩
              rw [hX18] at xB xK xO xZ ⊢
              replace HBR := Lib.hid xB
              have K16 := Lib.hid xK
              replace HOW := Lib.hid xO
              replace HZ := Lib.hid xZ
              clear hba xB xK xO xZ hX18
              have vi : IntKind.i64.wrap i = i := IntWalk.i64_in _ (by have := HI.out; omega)
              have v1 : IntKind.i64.wrap ((n4 : Int) - 1 - (q : Int) + (q : Int)) = (n4 : Int) - 1 := by rw [show (n4 : Int) - 1 - (q : Int) + (q : Int) = (n4 : Int) - 1 by omega]; exact IntWalk.i64_in _ (by omega)
              have v2 : IntKind.i64.wrap ((n4 : Int) - 1 + 1) = (n4 : Int) := by rw [show (n4 : Int) - 1 + 1 = (n4 : Int) by omega]; exact IntWalk.i64_in _ (by omega)
              have v5 : IntKind.i64.wrap ((n4 : Int) - 1) = (n4 : Int) - 1 := IntWalk.i64_in _ (by omega)
              have v6 : IntKind.i64.wrap (n4 : Int) = (n4 : Int) := IntWalk.i64_in _ (by omega)
              have d1 : (i != i) = false := by simp
              have d2 : ((n4 : Int) != (n4 : Int)) = false := by simp
              go_cut [108] from 186 (fun s108 wx => s108 = .bool false ∧ Below X18.heap.size X18 wx)
              case first =>
                as_aux_lemma =>
                  have HBW := Lib.hid (show Below X18.heap.size X18 X18.drew from (bre X18).drew)
                  refine wp_region_noPanic ?_
                  refine wp_region_held_drew (S := (fun w' => w'.cell? ⟨wr.heap.size, 3, none⟩ = some (.slice (some ⟨g, p, none⟩) 6 oc) ∧ w'.cell? ⟨g, p, none⟩ = some (.int .i64 i) ∧ w'.cell? ⟨g, p + 5, none⟩ = some (.int .i64 ((n4 : Int) - 1 - (q : Int))) ∧ w'.cell? ⟨w11.heap.size, 2, none⟩ = some (.slice A4 n4 c4))) (by kernel_rfl) ?_ (fun hHeld => ?_)
                  · (try dsimp only)
                    exact ⟨(K16.out.belowS HBW.out).cellV (i := 3) rfl, rdAt0 (HZ.out.below HBW.out) rfl, rdAt (HZ.out.below HBW.out) 5 rfl, (K12.out.belowS (bstep HBR.out HBW.out)).cellV (i := 2) rfl⟩
                  refine Tr.take_at 0 82 (.pointer (some ⟨wr.heap.size, 3, none⟩)) rfl rfl (by kernel_rfl) (by kernel_rfl) (by kernel_rfl) (fun _ _ _ h => h) (Or.inl ⟨by rfl, ?_⟩) (by assumption) ?_
                  · intro W0 hSw
                    (try dsimp only at hSw)
                    go_simp
                  simp only [List.set_cons_zero, List.set_cons_succ]
                  refine Tr.take_at 1 83 (.slice (some ⟨g, p, none⟩) 6 oc) rfl rfl (by kernel_rfl) (by kernel_rfl) (by kernel_rfl) (fun _ _ _ h => h) (Or.inl ⟨by rfl, ?_⟩) (by assumption) ?_
                  · intro W0 hSw
                    (try dsimp only at hSw)
                    go_simp
                  simp only [List.set_cons_zero, List.set_cons_succ]
                  refine Tr.take_at 2 84 (.int .i64 6) rfl rfl (by kernel_rfl) (by kernel_rfl) (by kernel_rfl) (fun _ _ _ h => h) (Or.inl ⟨by rfl, ?_⟩) (by assumption) ?_
                  · intro W0 hSw
                    (try dsimp only at hSw)
                    go_simp
                  simp only [List.set_cons_zero, List.set_cons_succ]
                  refine Tr.take_at 3 85 (.bool false) rfl rfl (by kernel_rfl) (by kernel_rfl) (by kernel_rfl) (fun _ _ _ h => h) (Or.inl ⟨by rfl, ?_⟩) (by assumption) ?_
                  · intro W0 hSw
                    (try dsimp only at hSw)
                    go_simp
                  simp only [List.set_cons_zero, List.set_cons_succ]
                  refine Tr.take_at 4 86 (.bool false) rfl rfl (by kernel_rfl) (by kernel_rfl) (by kernel_rfl) (fun _ _ _ h => h) (Or.inl ⟨by rfl, ?_⟩) (by assumption) ?_
                  · intro W0 hSw
                    (try dsimp only at hSw)
                    go_simp
                  simp only [List.set_cons_zero, List.set_cons_succ]
                  refine Tr.take_at 5 87 (.pointer (some ⟨wr.heap.size, 3, none⟩)) rfl rfl (by kernel_rfl) (by kernel_rfl) (by kernel_rfl) (fun _ _ _ h => h) (Or.inl ⟨by rfl, ?_⟩) (by assumption) ?_
                  · intro W0 hSw
                    (try dsimp only at hSw)
                    go_simp
                  simp only [List.set_cons_zero, List.set_cons_succ]
                  refine Tr.take_at 6 88 (.slice (some ⟨g, p, none⟩) 6 oc) rfl rfl (by kernel_rfl) (by kernel_rfl) (by kernel_rfl) (fun _ _ _ h => h) (Or.inl ⟨by rfl, ?_⟩) (by assumption) ?_
                  · intro W0 hSw
                    (try dsimp only at hSw)
                    go_simp
                  simp only [List.set_cons_zero, List.set_cons_succ]
                  refine Tr.take_at 7 89 (.pointer (some ⟨g, p, none⟩)) rfl rfl (by kernel_rfl) (by kernel_rfl) (by kernel_rfl) (fun _ _ _ h => h) (Or.inl ⟨by rfl, ?_⟩) (by assumption) ?_
                  · intro W0 hSw
                    (try dsimp only at hSw)
                    go_simp
                  simp only [List.set_cons_zero, List.set_cons_succ]
                  refine Tr.take_at 8 90 (.int .i64 i) rfl rfl (by kernel_rfl) (by kernel_rfl) (by kernel_rfl) (fun _ _ _ h => h) (Or.inl ⟨by rfl, ?_⟩) (by assumption) ?_
                  · intro W0 hSw
                    (try dsimp only at hSw)
                    go_simp
                  simp only [List.set_cons_zero, List.set_cons_succ]
                  refine Tr.take_at 9 91 (.int .u32 i) rfl rfl (by kernel_rfl) (by kernel_rfl) (by kernel_rfl) (fun _ _ _ h => h) (Or.inl ⟨by rfl, ?_⟩) (by assumption) ?_
                  · intro W0 hSw
                    (try dsimp only at hSw)
                    go_simp
                  simp only [List.set_cons_zero, List.set_cons_succ]
                  refine Tr.take_at 10 92 (.int .i64 i) rfl rfl (by kernel_rfl) (by kernel_rfl) (by kernel_rfl) (fun _ _ _ h => h) (Or.inl ⟨by rfl, ?_⟩) (by assumption) ?_
                  · intro W0 hSw
                    (try dsimp only at hSw)
                    go_simp
                  simp only [List.set_cons_zero, List.set_cons_succ]
                  refine Tr.take_at 11 93 (.bool false) rfl rfl (by kernel_rfl) (by kernel_rfl) (by kernel_rfl) (fun _ _ _ h => h) (Or.inl ⟨by rfl, ?_⟩) (by assumption) ?_
                  · intro W0 hSw
                    (try dsimp only at hSw)
                    go_simp
                  simp only [List.set_cons_zero, List.set_cons_succ]
                  refine Tr.take_at 12 94 (.bool false) rfl rfl (by kernel_rfl) (by kernel_rfl) (by kernel_rfl) (fun _ _ _ h => h) (Or.inl ⟨by rfl, ?_⟩) (by assumption) ?_
                  · intro W0 hSw
                    (try dsimp only at hSw)
                    go_simp
                  simp only [List.set_cons_zero, List.set_cons_succ]
                  refine Tr.take_at 13 95 (.bool false) rfl rfl (by kernel_rfl) (by kernel_rfl) (by kernel_rfl) (fun _ _ _ h => h) (Or.inl ⟨by rfl, ?_⟩) (by assumption) ?_
                  · intro W0 hSw
                    (try dsimp only at hSw)
                    go_simp
                  simp only [List.set_cons_zero, List.set_cons_succ]
                  refine Tr.take_at 14 96 (.pointer (some ⟨wr.heap.size, 3, none⟩)) rfl rfl (by kernel_rfl) (by kernel_rfl) (by kernel_rfl) (fun _ _ _ h => h) (Or.inl ⟨by rfl, ?_⟩) (by assumption) ?_
                  · intro W0 hSw
                    (try dsimp only at hSw)
                    go_simp
                  simp only [List.set_cons_zero, List.set_cons_succ]
                  refine Tr.take_at 15 97 (.slice (some ⟨g, p, none⟩) 6 oc) rfl rfl (by kernel_rfl) (by kernel_rfl) (by kernel_rfl) (fun _ _ _ h => h) (Or.inl ⟨by rfl, ?_⟩) (by assumption) ?_
                  · intro W0 hSw
                    (try dsimp only at hSw)
                    go_simp
                  simp only [List.set_cons_zero, List.set_cons_succ]
                  refine Tr.take_at 16 98 (.pointer (some ⟨g, p + 5, none⟩)) rfl rfl (by kernel_rfl) (by kernel_rfl) (by kernel_rfl) (fun _ _ _ h => h) (Or.inl ⟨by rfl, ?_⟩) (by assumption) ?_
                  · intro W0 hSw
                    (try dsimp only at hSw)
                    go_simp
                  simp only [List.set_cons_zero, List.set_cons_succ]
                  refine Tr.take_at 17 99 (.int .i64 ((n4 : Int) - 1 - (q : Int))) rfl rfl (by kernel_rfl) (by kernel_rfl) (by kernel_rfl) (fun _ _ _ h => h) (Or.inl ⟨by rfl, ?_⟩) (by assumption) ?_
                  · intro W0 hSw
                    (try dsimp only at hSw)
                    go_simp
                  simp only [List.set_cons_zero, List.set_cons_succ]
                  refine Tr.take_at 18 100 (.int .i64 q) rfl rfl (by kernel_rfl) (by kernel_rfl) (by kernel_rfl) (fun _ _ _ h => h) (Or.inl ⟨by rfl, ?_⟩) (by assumption) ?_
                  · intro W0 hSw
                    (try dsimp only at hSw)
                    go_simp
                  simp only [List.set_cons_zero, List.set_cons_succ]
                  refine Tr.take_at 19 101 (.int .i64 ((n4 : Int) - 1)) rfl rfl (by kernel_rfl) (by kernel_rfl) (by kernel_rfl) (fun _ _ _ h => h) (Or.inl ⟨by rfl, ?_⟩) (by assumption) ?_
                  · intro W0 hSw
                    (try dsimp only at hSw)
                    go_simp
                  simp only [List.set_cons_zero, List.set_cons_succ]
                  refine Tr.take_at 20 102 (.int .i64 n4) rfl rfl (by kernel_rfl) (by kernel_rfl) (by kernel_rfl) (fun _ _ _ h => h) (Or.inl ⟨by rfl, ?_⟩) (by assumption) ?_
                  · intro W0 hSw
                    (try dsimp only at hSw)
                    go_simp
                  simp only [List.set_cons_zero, List.set_cons_succ]
                  refine Tr.take_at 21 103 (.pointer (some ⟨w11.heap.size, 2, none⟩)) rfl rfl (by kernel_rfl) (by kernel_rfl) (by kernel_rfl) (fun _ _ _ h => h) (Or.inl ⟨by rfl, ?_⟩) (by assumption) ?_
                  · intro W0 hSw
                    (try dsimp only at hSw)
                    go_simp
                  simp only [List.set_cons_zero, List.set_cons_succ]
                  refine Tr.take_at 22 104 (.agg #[.slice A4 n4 c4]) rfl rfl (by kernel_rfl) (by kernel_rfl) (by kernel_rfl) (fun _ _ _ h => h) (Or.inl ⟨by rfl, ?_⟩) (by assumption) ?_
                  · intro W0 hSw
                    (try dsimp only at hSw)
                    go_simp
                  simp only [List.set_cons_zero, List.set_cons_succ]
                  refine wpAnyH_ready (rs := [23]) (by kernel_rfl) (by simp) ?_
                  refine AllReadyH.cons rfl (fun K hK => ?_) AllReadyH.nil
                  go_simp
                  have hro := rectsO_any (.agg #[.slice A4 n4 c4]) out _ (HAT.out.below (bstep HBR.out HBW.out))
                  rw [HNL.out] at hro
                  refine hro.mono ?_
                  clear hro
                  rintro e wc23 ⟨A23, c23, rfl, _, hbA⟩
                  replace HBW := Lib.hid (bstep HBW.out hbA)
                  clear hbA
                  go_simp
                  refine hK.out _ _ ?_ (fun hHeld => ?_)
                  · (try dsimp only)
                    exact ⟨(K16.out.belowS HBW.out).cellV (i := 3) rfl, rdAt0 (HZ.out.below HBW.out) rfl, rdAt (HZ.out.below HBW.out) 5 rfl, (K12.out.belowS (bstep HBR.out HBW.out)).cellV (i := 2) rfl⟩
                  clear hK K
                  refine Tr.take_at 24 106 (.int .i64 n4) rfl rfl (by kernel_rfl) (by kernel_rfl) (by kernel_rfl) (fun _ _ _ h => h) (Or.inl ⟨by rfl, ?_⟩) (by assumption) ?_
                  · intro W0 hSw
                    (try dsimp only at hSw)
                    go_simp
                  simp only [List.set_cons_zero, List.set_cons_succ]
                  refine Tr.take_at 25 107 (.bool false) rfl rfl (by kernel_rfl) (by kernel_rfl) (by kernel_rfl) (fun _ _ _ h => h) (Or.inl ⟨by rfl, ?_⟩) (by assumption) ?_
                  · intro W0 hSw
                    (try dsimp only at hSw)
                    go_simp
                  simp only [List.set_cons_zero, List.set_cons_succ]
                  refine Tr.take_at 26 108 (.bool false) rfl rfl (by kernel_rfl) (by kernel_rfl) (by kernel_rfl) (fun _ _ _ h => h) (Or.inl ⟨by rfl, ?_⟩) (by assumption) ?_
                  · intro W0 hSw
                    (try dsimp only at hSw)
                    go_simp
                  simp only [List.set_cons_zero, List.set_cons_succ]
                  refine wpAnyH_done (by kernel_rfl) ?_ _
                  refine NoPanic.normal ?_
                  go_wp2_with fail
                  go_meet
                  exact ⟨rfl, HBW.out⟩
              obtain ⟨rfl, hbc⟩ := hcut
              replace HBR := Lib.hid (bstep HBR.out hbc)
              replace K16 := Lib.hid (K16.out.belowS hbc)
              replace HOW := Lib.hid (HOW.out.below hbc)
              replace HZ := Lib.hid (HZ.out.below hbc)
              clear hbc v1 v2 v5 v6 d1 d2
              obtain ⟨X21, hX21⟩ : ∃ X21, X21 = wc := ⟨_, rfl⟩
              subst hX21
              go_upto_region 21 with fail
              go_cut [13] from 186 (fun s13 wx => ∃ A c, s13 = .slice A (q + 1) c ∧ RcOwn wx X16.heap.size (.slice A (q + 1) c) (q + 1) (out.take (q + 1)) ∧ Blk wx wr.heap.size 106 #[.int .i64 2, .int .i64 10, .int .i64 0, .slice (some ⟨g, p, none⟩) 6 oc, .string ByteArray.empty, .slice none 0 0] ∧ Rd wx (some ⟨g, p, none⟩) 6 (I64 [i, r.X, r.Y, r.W, r.H, (n4 : Int) - 1 - (q : Int)]) ∧ Below X16.heap.size X16 wx)
              case first =>
                as_aux_lemma =>
                  have HBW := Lib.hid (show Below X16.heap.size X16 X21.drew from (HBR.out).drew)
                  replace K16 := Lib.hid (K16.out.belowS (bre X21).drew)
                  replace HOW := Lib.hid (HOW.out.below (bre X21).drew)
                  replace HZ := Lib.hid (HZ.out.below (bre X21).drew)
                  refine wp_region_noPanic ?_
                  refine wp_region_held_drew (S := (fun w' => w'.cell? ⟨wr.heap.size, 3, none⟩ = some (.slice (some ⟨g, p, none⟩) 6 oc) ∧ w'.cell? ⟨g, p + 1, none⟩ = some (.int .i64 r.X) ∧ w'.cell? ⟨g, p + 2, none⟩ = some (.int .i64 r.Y) ∧ w'.cell? ⟨g, p + 3, none⟩ = some (.int .i64 r.W) ∧ w'.cell? ⟨g, p + 4, none⟩ = some (.int .i64 r.H))) (by kernel_rfl) ?_ (fun hHeld => ?_)
                  · (try dsimp only)
                    exact ⟨K16.out.cellV (i := 3) rfl, rdAt HZ.out 1 rfl, rdAt HZ.out 2 rfl, rdAt HZ.out 3 rfl, rdAt HZ.out 4 rfl⟩
                  refine Tr.take_at 0 109 (.slice Aw q cw) rfl rfl (by kernel_rfl) (by kernel_rfl) (by kernel_rfl) (fun _ _ _ h => h) (Or.inl ⟨by rfl, ?_⟩) (by assumption) ?_
                  · intro W0 hSw
                    (try dsimp only at hSw)
                    go_simp
                  simp only [List.set_cons_zero, List.set_cons_succ]
                  refine Tr.take_at 1 110 (.pointer (some ⟨wr.heap.size, 3, none⟩)) rfl rfl (by kernel_rfl) (by kernel_rfl) (by kernel_rfl) (fun _ _ _ h => h) (Or.inl ⟨by rfl, ?_⟩) (by assumption) ?_
                  · intro W0 hSw
                    (try dsimp only at hSw)
                    go_simp
                  simp only [List.set_cons_zero, List.set_cons_succ]
                  refine Tr.take_at 2 111 (.slice (some ⟨g, p, none⟩) 6 oc) rfl rfl (by kernel_rfl) (by kernel_rfl) (by kernel_rfl) (fun _ _ _ h => h) (Or.inl ⟨by rfl, ?_⟩) (by assumption) ?_
                  · intro W0 hSw
                    (try dsimp only at hSw)
                    go_simp
                  simp only [List.set_cons_zero, List.set_cons_succ]
                  refine Tr.take_at 3 112 (.pointer (some ⟨g, p + 1, none⟩)) rfl rfl (by kernel_rfl) (by kernel_rfl) (by kernel_rfl) (fun _ _ _ h => h) (Or.inl ⟨by rfl, ?_⟩) (by assumption) ?_
                  · intro W0 hSw
                    (try dsimp only at hSw)
                    go_simp
                  simp only [List.set_cons_zero, List.set_cons_succ]
                  refine Tr.take_at 4 113 (.int .i64 r.X) rfl rfl (by kernel_rfl) (by kernel_rfl) (by kernel_rfl) (fun _ _ _ h => h) (Or.inl ⟨by rfl, ?_⟩) (by assumption) ?_
                  · intro W0 hSw
                    (try dsimp only at hSw)
                    go_simp
                  simp only [List.set_cons_zero, List.set_cons_succ]
                  refine Tr.take_at 5 114 (.pointer (some ⟨wr.heap.size, 3, none⟩)) rfl rfl (by kernel_rfl) (by kernel_rfl) (by kernel_rfl) (fun _ _ _ h => h) (Or.inl ⟨by rfl, ?_⟩) (by assumption) ?_
                  · intro W0 hSw
                    (try dsimp only at hSw)
                    go_simp
                  simp only [List.set_cons_zero, List.set_cons_succ]
                  refine Tr.take_at 6 115 (.slice (some ⟨g, p, none⟩) 6 oc) rfl rfl (by kernel_rfl) (by kernel_rfl) (by kernel_rfl) (fun _ _ _ h => h) (Or.inl ⟨by rfl, ?_⟩) (by assumption) ?_
                  · intro W0 hSw
                    (try dsimp only at hSw)
                    go_simp
                  simp only [List.set_cons_zero, List.set_cons_succ]
                  refine Tr.take_at 7 116 (.pointer (some ⟨g, p + 2, none⟩)) rfl rfl (by kernel_rfl) (by kernel_rfl) (by kernel_rfl) (fun _ _ _ h => h) (Or.inl ⟨by rfl, ?_⟩) (by assumption) ?_
                  · intro W0 hSw
                    (try dsimp only at hSw)
                    go_simp
                  simp only [List.set_cons_zero, List.set_cons_succ]
                  refine Tr.take_at 8 117 (.int .i64 r.Y) rfl rfl (by kernel_rfl) (by kernel_rfl) (by kernel_rfl) (fun _ _ _ h => h) (Or.inl ⟨by rfl, ?_⟩) (by assumption) ?_
                  · intro W0 hSw
                    (try dsimp only at hSw)
                    go_simp
                  simp only [List.set_cons_zero, List.set_cons_succ]
                  refine Tr.take_at 9 118 (.pointer (some ⟨wr.heap.size, 3, none⟩)) rfl rfl (by kernel_rfl) (by kernel_rfl) (by kernel_rfl) (fun _ _ _ h => h) (Or.inl ⟨by rfl, ?_⟩) (by assumption) ?_
                  · intro W0 hSw
                    (try dsimp only at hSw)
                    go_simp
                  simp only [List.set_cons_zero, List.set_cons_succ]
                  refine Tr.take_at 10 119 (.slice (some ⟨g, p, none⟩) 6 oc) rfl rfl (by kernel_rfl) (by kernel_rfl) (by kernel_rfl) (fun _ _ _ h => h) (Or.inl ⟨by rfl, ?_⟩) (by assumption) ?_
                  · intro W0 hSw
                    (try dsimp only at hSw)
                    go_simp
                  simp only [List.set_cons_zero, List.set_cons_succ]
                  refine Tr.take_at 11 120 (.pointer (some ⟨g, p + 3, none⟩)) rfl rfl (by kernel_rfl) (by kernel_rfl) (by kernel_rfl) (fun _ _ _ h => h) (Or.inl ⟨by rfl, ?_⟩) (by assumption) ?_
                  · intro W0 hSw
                    (try dsimp only at hSw)
                    go_simp
                  simp only [List.set_cons_zero, List.set_cons_succ]
                  refine Tr.take_at 12 121 (.int .i64 r.W) rfl rfl (by kernel_rfl) (by kernel_rfl) (by kernel_rfl) (fun _ _ _ h => h) (Or.inl ⟨by rfl, ?_⟩) (by assumption) ?_
                  · intro W0 hSw
                    (try dsimp only at hSw)
                    go_simp
                  simp only [List.set_cons_zero, List.set_cons_succ]
                  refine Tr.take_at 13 122 (.pointer (some ⟨wr.heap.size, 3, none⟩)) rfl rfl (by kernel_rfl) (by kernel_rfl) (by kernel_rfl) (fun _ _ _ h => h) (Or.inl ⟨by rfl, ?_⟩) (by assumption) ?_
                  · intro W0 hSw
                    (try dsimp only at hSw)
                    go_simp
                  simp only [List.set_cons_zero, List.set_cons_succ]
                  refine Tr.take_at 14 123 (.slice (some ⟨g, p, none⟩) 6 oc) rfl rfl (by kernel_rfl) (by kernel_rfl) (by kernel_rfl) (fun _ _ _ h => h) (Or.inl ⟨by rfl, ?_⟩) (by assumption) ?_
                  · intro W0 hSw
                    (try dsimp only at hSw)
                    go_simp
                  simp only [List.set_cons_zero, List.set_cons_succ]
                  refine Tr.take_at 15 124 (.pointer (some ⟨g, p + 4, none⟩)) rfl rfl (by kernel_rfl) (by kernel_rfl) (by kernel_rfl) (fun _ _ _ h => h) (Or.inl ⟨by rfl, ?_⟩) (by assumption) ?_
                  · intro W0 hSw
                    (try dsimp only at hSw)
                    go_simp
                  simp only [List.set_cons_zero, List.set_cons_succ]
                  refine Tr.take_at 16 125 (.int .i64 r.H) rfl rfl (by kernel_rfl) (by kernel_rfl) (by kernel_rfl) (fun _ _ _ h => h) (Or.inl ⟨by rfl, ?_⟩) (by assumption) ?_
                  · intro W0 hSw
                    (try dsimp only at hSw)
                    go_simp
                  simp only [List.set_cons_zero, List.set_cons_succ]
                  refine Tr.take_at 17 126 (.agg #[.int .i64 r.X, .int .i64 r.Y, .int .i64 r.W, .int .i64 r.H]) rfl rfl (by kernel_rfl) (by kernel_rfl) (by kernel_rfl) (fun _ _ _ h => h) (Or.inl ⟨by rfl, ?_⟩) (by assumption) ?_
                  · intro W0 hSw
                    apply y_build
                    as_aux_lemma => kernel_rfl
                  simp only [List.set_cons_zero, List.set_cons_succ]
                  refine wpAnyH_ready (rs := [18]) (by kernel_rfl) (by simp) ?_
                  refine AllReadyH.cons rfl (fun K hK => ?_) AllReadyH.nil
                  go_simp
                  have hbA : Below X21.drew.heap.size X21.drew ((X21.alloc (.cells #[.int .i64 r.X, .int .i64 r.Y, .int .i64 r.W, .int .i64 r.H] 113)).drew) := bal (bre X21.drew) (.cells #[.int .i64 r.X, .int .i64 r.Y, .int .i64 r.W, .int .i64 r.H] 113)
                  replace HBW := Lib.hid (bstep HBW.out hbA)
                  replace K16 := Lib.hid (K16.out.belowS hbA)
                  replace HOW := Lib.hid (HOW.out.below hbA)
                  replace HZ := Lib.hid (HZ.out.below hbA)
                  clear hbA
                  go_simp
                  refine hK.out _ _ ?_ (fun hHeld => ?_)
                  · (try dsimp only)
                    exact ⟨K16.out.cellV (i := 3) rfl, rdAt HZ.out 1 rfl, rdAt HZ.out 2 rfl, rdAt HZ.out 3 rfl, rdAt HZ.out 4 rfl⟩
                  clear hK K
                  refine wpAnyH_ready (rs := [19]) (by kernel_rfl) (by simp) ?_
                  refine AllReadyH.cons rfl (fun K hK => ?_) AllReadyH.nil
                  refine Tr.wanted_plain rfl ?_
                  refine wp_append_own _ _ _ 58 rfl X16.heap.size 113 i0 _ 4 32 Tryz.underlying58 hi0 hz0 hz1 hz2 rfl (by decide) _ q (rcs (out.take q)) rfl HOW.out ⟨X21.heap.size, 0, none⟩ 1 1 [.int .i64 r.X, .int .i64 r.Y, .int .i64 r.W, .int .i64 r.H] rfl rfl (news_new X21 [.int .i64 r.X, .int .i64 r.Y, .int .i64 r.W, .int .i64 r.H] 113) (by simp [Value.oneCell']) (by simp only [maxLen]; omega) (by omega) HBW.out.size ?_
                  intro v' w4 hown' hgrow _
                  obtain ⟨A9, c9, rfl, _⟩ := own_form hown'
                  have hno := own_other (show World.ownsRow _ _ 113 _ _ _ _ from HOW.out) K16.out (by decide)
                  have hge := fun z e => own_ge (show World.ownsRow _ _ _ _ _ _ _ from HOW.out) z e
                  replace HBW := Lib.hid (HBW.out.grown hgrow HBW.out.size hge)
                  replace K16 := Lib.hid (K16.out.grown hgrow (fun e => hno e.symm))
                  replace HZ := Lib.hid (rd_grown HZ.out hgrow (fun a e e2 => by
                    injection e with e
                    subst e
                    have h1 := hge _ e2
                    have h2 := HGL.out
                    dsimp only at h1
                    omega))
                  have hrs : rcs (out.take q) ++ [.int .i64 r.X, .int .i64 r.Y, .int .i64 r.W, .int .i64 r.H] = rcs (out.take (q + 1)) := by rw [HTK.out, rcs_append, rcs_singleP]
                  rw [hrs] at hown'
                  replace HOW := Lib.hid (show RcOwn w4 X16.heap.size (.slice A9 (q + 1) c9) (q + 1) (out.take (q + 1)) from hown')
                  clear hno hge hown' hgrow hrs
                  refine hK.out _ _ ?_ (fun hHeld => ?_)
                  · (try dsimp only)
                    exact ⟨K16.out.cellV (i := 3) rfl, rdAt HZ.out 1 rfl, rdAt HZ.out 2 rfl, rdAt HZ.out 3 rfl, rdAt HZ.out 4 rfl⟩
                  clear hK K
                  refine Tr.take_at 20 13 (.slice A9 (q + 1) c9) rfl rfl (by kernel_rfl) (by kernel_rfl) (by kernel_rfl) (fun _ _ _ h => h) (Or.inl ⟨by rfl, ?_⟩) (by assumption) ?_
                  · intro W0 hSw
                    (try dsimp only at hSw)
                    go_simp
                  simp only [List.set_cons_zero, List.set_cons_succ]
                  refine wpAnyH_done (by kernel_rfl) ?_ _
                  refine NoPanic.normal ?_
                  go_wp2_with fail
                  go_meet
                  exact ⟨A9, c9, rfl, HOW.out, K16.out, HZ.out, HBW.out⟩
              obtain ⟨A9, c9, rfl, how9, hk16, hz9, hbc⟩ := hcut
              have m3 := hk16.cellV (i := 3) (v := .slice (some ⟨g, p, none⟩) 6 oc) rfl
              have z3 := rdAt hz9 3 (u := .int .i64 r.W) rfl
              have z4 := rdAt hz9 4 (u := .int .i64 r.H) rfl
              have HBN := Lib.hid hbc
              have HON := Lib.hid how9
              have hrb := HRB.out
              have hab := HAB.out
              obtain ⟨al, hal⟩ : ∃ al, areaL (out.take q) = al := ⟨_, rfl⟩
              obtain ⟨wh, hwh⟩ : ∃ wh, r.W * r.H = wh := ⟨_, rfl⟩
              have hwb : 0 ≤ wh ∧ wh ≤ 400 := by
                have h2 : 0 ≤ r.W * r.H := Int.mul_nonneg hrb.2.2.1.1 hrb.2.2.2.1
                have h3 : r.W * r.H ≤ 20 * 20 := Int.mul_le_mul hrb.2.2.1.2 hrb.2.2.2.2 hrb.2.2.2.1 (by omega)
                omega
              rw [hal] at hab ⊢
              have vm : IntKind.i64.wrap (r.W * r.H) = wh := by rw [hwh]; exact IntWalk.i64_in _ (by omega)
              have va : IntKind.i64.wrap (al + wh) = al + wh := IntWalk.i64_in _ (by omega)
              have HALN := Lib.hid (show areaL (out.take (q + 1)) = al + wh by rw [HAL.out, hal, hwh])
              clear how9 hk16 hz9 hbc K16 HOW HZ HBR hrb hab hal hwh hwb vi
              go_upto_region 22 with fail
              go_quiet (fail)
              go_wp2_with fail
              go_roundw
              case rel => exact ⟨q + 1, by go_num, by omega, HON.out.below (below_drewN (bre _) _), by rw [HALN.out], below_drewN HBN.out _⟩
              case measure => simp [intOf]; omega
            · obtain rfl : q = n4 := by omega
              clear hbr
              have q1 : ¬ (q : Int) < (q : Int) := by omega
              have htk : out.take q = out := List.take_of_length_le (by rw [HNL.out]; exact Nat.le_refl _)
              rw [htk]
              have how := HOW.out
              rw [htk] at how
              have HTD := Lib.hid (RdR.of_own (show World.ownsRow _ _ 113 4 _ _ _ from how) HNL.out)
              clear how htk HOW
              have d2 : (areaL out != areaL out) = false := by simp
              go_upto_region 24 with fail
              obtain ⟨X24, hX24⟩ : ∃ X24, X24 = wr := ⟨_, rfl⟩
              subst hX24
              go_cut [153] from 186 (fun s153 wx => s153 = .bool false ∧ Below X24.heap.size X24 wx)
              case first =>
                as_aux_lemma =>
                  have HBW := Lib.hid (show Below X24.heap.size X24 X24.drew from (bre X24).drew)
                  refine wp_region_noPanic ?_
                  refine wp_region_held_drew (S := (fun w' => w'.cell? ⟨w11.heap.size, 2, none⟩ = some (.slice A4 q c4))) (by kernel_rfl) ?_ (fun hHeld => ?_)
                  · (try dsimp only)
                    exact (K12.out.belowS (bstep HBR.out HBW.out)).cellV (i := 2) rfl
                  refine Tr.take_at 0 141 (.slice Aw q cw) rfl rfl (by kernel_rfl) (by kernel_rfl) (by kernel_rfl) (fun _ _ _ h => h) (Or.inl ⟨by rfl, ?_⟩) (by assumption) ?_
                  · intro W0 hSw
                    (try dsimp only at hSw)
                    go_simp
                  simp only [List.set_cons_zero, List.set_cons_succ]
                  refine Tr.take_at 2 143 (.pointer (some ⟨w11.heap.size, 2, none⟩)) rfl rfl (by kernel_rfl) (by kernel_rfl) (by kernel_rfl) (fun _ _ _ h => h) (Or.inl ⟨by rfl, ?_⟩) (by assumption) ?_
                  · intro W0 hSw
                    (try dsimp only at hSw)
                    go_simp
                  simp only [List.set_cons_zero, List.set_cons_succ]
                  refine Tr.take_at 3 144 (.agg #[.slice A4 q c4]) rfl rfl (by kernel_rfl) (by kernel_rfl) (by kernel_rfl) (fun _ _ _ h => h) (Or.inl ⟨by rfl, ?_⟩) (by assumption) ?_
                  · intro W0 hSw
                    (try dsimp only at hSw)
                    go_simp
                  simp only [List.set_cons_zero, List.set_cons_succ]
                  refine wpAnyH_ready (rs := [1]) (by kernel_rfl) (by simp) ?_
                  refine AllReadyH.cons rfl (fun K hK => ?_) AllReadyH.nil
                  go_simp
                  refine (of_any Aw q cw out _ (by omega) (HTD.out.below HBW.out) (fun r hm => by have := HRC.out r hm; omega)).mono ?_
                  rintro e wc1 ⟨o2, A2, c2, rfl, hr2, hc2, hp2, hl2, hbA⟩
                  have HRT := Lib.hid (show RegP wc1 (.agg #[.slice A2 o2.length c2]) (inB out) from ⟨o2, regAt_ofU hr2 hc2 hp2 hl2, fun x y => by rw [Bool.eq_iff_iff, inB_iff, hp2, filter_cnt HAT.out.cnt, ← inB_iff]⟩)
                  clear hr2 hc2 hp2 hl2
                  replace HBW := Lib.hid (bstep HBW.out hbA)
                  clear hbA
                  go_simp
                  refine hK.out _ _ ?_ (fun hHeld => ?_)
                  · (try dsimp only)
                    exact (K12.out.belowS (bstep HBR.out HBW.out)).cellV (i := 2) rfl
                  clear hK K
                  refine wpAnyH_ready (rs := [4]) (by kernel_rfl) (by simp) ?_
                  refine AllReadyH.cons rfl (fun K hK => ?_) AllReadyH.nil
                  go_simp
                  refine (sameP HRT.out (show RegP _ _ (inB out) from ⟨out, HAT.out.below (bstep HBR.out HBW.out), fun _ _ => rfl⟩) (fun _ _ => rfl)).mono ?_
                  rintro e wc4 ⟨rfl, hbA⟩
                  replace HBW := Lib.hid (bstep HBW.out hbA)
                  replace HRT := Lib.hid (HRT.out.below hbA)
                  clear hbA
                  go_simp
                  refine hK.out _ _ ?_ (fun hHeld => ?_)
                  · (try dsimp only)
                    exact (K12.out.belowS (bstep HBR.out HBW.out)).cellV (i := 2) rfl
                  clear hK K
                  refine Tr.take_at 5 146 (.bool false) rfl rfl (by kernel_rfl) (by kernel_rfl) (by kernel_rfl) (fun _ _ _ h => h) (Or.inl ⟨by rfl, ?_⟩) (by assumption) ?_
                  · intro W0 hSw
                    (try dsimp only at hSw)
                    go_simp
                  simp only [List.set_cons_zero, List.set_cons_succ]
                  refine Tr.take_at 6 147 (.bool false) rfl rfl (by kernel_rfl) (by kernel_rfl) (by kernel_rfl) (fun _ _ _ h => h) (Or.inl ⟨by rfl, ?_⟩) (by assumption) ?_
                  · intro W0 hSw
                    (try dsimp only at hSw)
                    go_simp
                  simp only [List.set_cons_zero, List.set_cons_succ]
                  refine Tr.take_at 7 148 (.int .i64 (areaL out)) rfl rfl (by kernel_rfl) (by kernel_rfl) (by kernel_rfl) (fun _ _ _ h => h) (Or.inl ⟨by rfl, ?_⟩) (by assumption) ?_
                  · intro W0 hSw
                    (try dsimp only at hSw)
                    go_simp
                  simp only [List.set_cons_zero, List.set_cons_succ]
                  refine Tr.take_at 8 149 (.pointer (some ⟨w11.heap.size, 2, none⟩)) rfl rfl (by kernel_rfl) (by kernel_rfl) (by kernel_rfl) (fun _ _ _ h => h) (Or.inl ⟨by rfl, ?_⟩) (by assumption) ?_
                  · intro W0 hSw
                    (try dsimp only at hSw)
                    go_simp
                  simp only [List.set_cons_zero, List.set_cons_succ]
                  refine Tr.take_at 9 150 (.agg #[.slice A4 q c4]) rfl rfl (by kernel_rfl) (by kernel_rfl) (by kernel_rfl) (fun _ _ _ h => h) (Or.inl ⟨by rfl, ?_⟩) (by assumption) ?_
                  · intro W0 hSw
                    (try dsimp only at hSw)
                    go_simp
                  simp only [List.set_cons_zero, List.set_cons_succ]
                  refine wpAnyH_ready (rs := [10]) (by kernel_rfl) (by simp) ?_
                  refine AllReadyH.cons rfl (fun K hK => ?_) AllReadyH.nil
                  go_simp
                  have har := reg_area (HAT.out.below (bstep HBR.out HBW.out)) (by rw [HNL.out]; omega)
                  refine har.mono ?_
                  clear har
                  rintro e wc10 ⟨rfl, hbA⟩
                  replace HBW := Lib.hid (bstep HBW.out hbA)
                  replace HRT := Lib.hid (HRT.out.below hbA)
                  clear hbA
                  go_simp
                  refine hK.out _ _ ?_ (fun hHeld => ?_)
                  · (try dsimp only)
                    exact (K12.out.belowS (bstep HBR.out HBW.out)).cellV (i := 2) rfl
                  clear hK K
                  refine Tr.take_at 11 152 (.bool false) rfl rfl (by kernel_rfl) (by kernel_rfl) (by kernel_rfl) (fun _ _ _ h => h) (Or.inl ⟨by rfl, ?_⟩) (by assumption) ?_
                  · intro W0 hSw
                    (try dsimp only at hSw)
                    go_simp
                  simp only [List.set_cons_zero, List.set_cons_succ]
                  refine Tr.take_at 12 153 (.bool false) rfl rfl (by kernel_rfl) (by kernel_rfl) (by kernel_rfl) (fun _ _ _ h => h) (Or.inl ⟨by rfl, ?_⟩) (by assumption) ?_
                  · intro W0 hSw
                    (try dsimp only at hSw)
                    go_simp
                  simp only [List.set_cons_zero, List.set_cons_succ]
                  refine wpAnyH_done (by kernel_rfl) ?_ _
                  refine NoPanic.normal ?_
                  go_wp2_with fail
                  go_meet
                  exact ⟨rfl, HBW.out⟩
              obtain ⟨rfl, hbc⟩ := hcut
              have HBZ := Lib.hid (bstep HBT.out (bstep HBR.out hbc))
              clear hbc d2
              go_wp2_with fail
              go_roundw
              case rel => exact ⟨j + 1, by go_num, by omega, HBZ.out⟩
              case measure => simp [intOf]; omega
        · obtain rfl : j = 2 := by omega
          have HBX := Lib.hid (bstep HB8.out HBJ.out)
          obtain ⟨X26, hX26⟩ : ∃ X26, X26 = wr := ⟨_, rfl⟩
          subst hX26
          clear KS
          go_upto_region 27 with fail
          go_cut [17, 18] from 186 (fun s17 s18 wx => ∃ (g17 g18 : Nat) (A3 : Option Addr) (n3 c3 : Nat) (A4 : Option Addr) (n4 c4 : Nat) (A6 : Option Addr) (n6 c6 : Nat), s17 = .pointer (some ⟨g17, 0, none⟩) ∧ s18 = .pointer (some ⟨g18, 0, none⟩) ∧ Blk wx g17 93 #[.int .u32 i, .slice A3 n3 c3, .slice A4 n4 c4] ∧ Blk wx g18 60 #[.slice A6 n6 c6] ∧ RegP wx (.agg #[.slice A3 n3 c3]) (keptP (V i) (U i) 0 0 false) ∧ RegP wx (.agg #[.slice A6 n6 c6]) (lostP (V i) (U i)) ∧ Below X26.heap.size X26 wx)
          case first =>
            as_aux_lemma =>
              have HBW := Lib.hid (show Below X26.heap.size X26 X26.drew from (bre X26).drew)
              refine wp_region_noPanic ?_
              refine wp_region_held_drew (S := (fun w' => w'.cell? ⟨w2.heap.size, 0, none⟩ = some (.slice Aa na ca) ∧ w'.cell? ⟨w2.heap.size, 1, none⟩ = some (.map ma) ∧ w'.cell? ⟨w2.heap.size + 1, 0, none⟩ = some (.slice Ab nb cb) ∧ w'.cell? ⟨w2.heap.size + 1, 1, none⟩ = some (.map mb))) (by kernel_rfl) ?_ (fun hHeld => ?_)
              · (try dsimp only)
                exact ⟨(K5.out.belowS (bstep HBX.out HBW.out)).cellV (i := 0) rfl, (K5.out.belowS (bstep HBX.out HBW.out)).cellV (i := 1) rfl, (K6.out.belowS (bstep HBX.out HBW.out)).cellV (i := 0) rfl, (K6.out.belowS (bstep HBX.out HBW.out)).cellV (i := 1) rfl⟩
              refine Tr.take_at 0 155 (.agg #[.slice Aa na ca, .map ma]) rfl rfl (by kernel_rfl) (by kernel_rfl) (by kernel_rfl) (fun _ _ _ h => h) (Or.inl ⟨by rfl, ?_⟩) (by assumption) ?_
              · intro W0 hSw
                (try dsimp only at hSw)
                go_simp
              simp only [List.set_cons_zero, List.set_cons_succ]
              refine Tr.take_at 1 156 (.agg #[.slice Ab nb cb, .map mb]) rfl rfl (by kernel_rfl) (by kernel_rfl) (by kernel_rfl) (fun _ _ _ h => h) (Or.inl ⟨by rfl, ?_⟩) (by assumption) ?_
              · intro W0 hSw
                (try dsimp only at hSw)
                go_simp
              simp only [List.set_cons_zero, List.set_cons_succ]
              refine Tr.take_at 2 157 (.int .u32 i) rfl rfl (by kernel_rfl) (by kernel_rfl) (by kernel_rfl) (fun _ _ _ h => h) (Or.inl ⟨by rfl, ?_⟩) (by assumption) ?_
              · intro W0 hSw
                (try dsimp only at hSw)
                go_simp
              simp only [List.set_cons_zero, List.set_cons_succ]
              refine Tr.take_at 3 158 (.agg #[.int .i64 0, .int .i64 0, .bool false]) rfl rfl (by kernel_rfl) (by kernel_rfl) (by kernel_rfl) (fun _ _ _ h => h) (Or.inl ⟨by rfl, ?_⟩) (by assumption) ?_
              · intro W0 hSw
                apply y_build
                as_aux_lemma => kernel_rfl
              simp only [List.set_cons_zero, List.set_cons_succ]
              refine Tr.take_at 5 160 (.agg #[.slice Aa na ca, .map ma]) rfl rfl (by kernel_rfl) (by kernel_rfl) (by kernel_rfl) (fun _ _ _ h => h) (Or.inl ⟨by rfl, ?_⟩) (by assumption) ?_
              · intro W0 hSw
                (try dsimp only at hSw)
                go_simp
              simp only [List.set_cons_zero, List.set_cons_succ]
              refine Tr.take_at 6 161 (.agg #[.slice Ab nb cb, .map mb]) rfl rfl (by kernel_rfl) (by kernel_rfl) (by kernel_rfl) (fun _ _ _ h => h) (Or.inl ⟨by rfl, ?_⟩) (by assumption) ?_
              · intro W0 hSw
                (try dsimp only at hSw)
                go_simp
              simp only [List.set_cons_zero, List.set_cons_succ]
              refine Tr.take_at 7 162 (.int .u32 i) rfl rfl (by kernel_rfl) (by kernel_rfl) (by kernel_rfl) (fun _ _ _ h => h) (Or.inl ⟨by rfl, ?_⟩) (by assumption) ?_
              · intro W0 hSw
                (try dsimp only at hSw)
                go_simp
              simp only [List.set_cons_zero, List.set_cons_succ]
              refine wpAnyH_ready (rs := [4, 9, 10]) (by kernel_rfl) (by simp) ?_
              refine AllReadyH.cons rfl (fun K hK => ?_) (AllReadyH.cons rfl (fun K hK => ?_) (AllReadyH.cons rfl (fun K hK => ?_) AllReadyH.nil))
              ·
                go_simp
                refine (one_any i 0 0 false (HA.out.below (bstep HBX.out HBW.out)) (HC.out.below (bstep HBX.out HBW.out)) HI.out (by decide)).mono ?_
                rintro e wc4 ⟨A3, n3, c3, A4, n4, c4, rfl, hk4, hn4, hbA⟩
                have HKP := Lib.hid hk4
                have HNP := Lib.hid hn4
                clear hk4 hn4
                replace HBW := Lib.hid (bstep HBW.out hbA)
                clear hbA
                go_simp
                refine hK.out _ _ ?_ (fun hHeld => ?_)
                · (try dsimp only)
                  exact ⟨(K5.out.belowS (bstep HBX.out HBW.out)).cellV (i := 0) rfl, (K5.out.belowS (bstep HBX.out HBW.out)).cellV (i := 1) rfl, (K6.out.belowS (bstep HBX.out HBW.out)).cellV (i := 0) rfl, (K6.out.belowS (bstep HBX.out HBW.out)).cellV (i := 1) rfl⟩
                clear hK K
                refine wpAnyH_ready (rs := [8, 9, 10]) (by kernel_rfl) (by simp) ?_
                refine AllReadyH.cons rfl (fun K hK => ?_) (AllReadyH.cons rfl (fun K hK => ?_) (AllReadyH.cons rfl (fun K hK => ?_) AllReadyH.nil))
                ·
                  go_simp
                  refine (lostP_any i (HA.out.below (bstep HBX.out HBW.out)) (HC.out.below (bstep HBX.out HBW.out)) HI.out).mono ?_
                  rintro e wc8 ⟨u, rfl, hr, hbA⟩
                  obtain ⟨A6, n6, c6, rfl⟩ := hr.form
                  have HLP := Lib.hid hr
                  clear hr
                  replace HBW := Lib.hid (bstep HBW.out hbA)
                  replace HKP := Lib.hid (HKP.out.below hbA)
                  replace HNP := Lib.hid (HNP.out.below hbA)
                  clear hbA
                  go_simp
                  refine hK.out _ _ ?_ (fun hHeld => ?_)
                  · (try dsimp only)
                    exact ⟨(K5.out.belowS (bstep HBX.out HBW.out)).cellV (i := 0) rfl, (K5.out.belowS (bstep HBX.out HBW.out)).cellV (i := 1) rfl, (K6.out.belowS (bstep HBX.out HBW.out)).cellV (i := 0) rfl, (K6.out.belowS (bstep HBX.out HBW.out)).cellV (i := 1) rfl⟩
                  clear hK K
                  refine wpAnyH_ready (rs := [9, 10]) (by kernel_rfl) (by simp) ?_
                  refine AllReadyH.cons rfl (fun K hK => ?_) (AllReadyH.cons rfl (fun K hK => ?_) AllReadyH.nil)
                  ·
                    go_simp
                    have KA9 := Lib.hid (show Blk (wc8.alloc (.cells #[.int .u32 0, .slice none 0 0, .slice none 0 0] 93)) (wc8.heap.size) 93 #[.int .u32 0, .slice none 0 0, .slice none 0 0] from Blk.new wc8 93 #[.int .u32 0, .slice none 0 0, .slice none 0 0])
                    have HL9 := Lib.hid (show X26.heap.size ≤ wc8.heap.size from HBW.out.size)
                    have hbA : Below wc8.heap.size wc8 ((wc8.alloc (.cells #[.int .u32 0, .slice none 0 0, .slice none 0 0] 93))) := bal (bre wc8) (.cells #[.int .u32 0, .slice none 0 0, .slice none 0 0] 93)
                    replace HBW := Lib.hid (bstep HBW.out hbA)
                    replace HKP := Lib.hid (HKP.out.below hbA)
                    replace HNP := Lib.hid (HNP.out.below hbA)
                    replace HLP := Lib.hid (HLP.out.below hbA)
                    clear hbA
                    refine hK.out _ _ ?_ (fun hHeld => ?_)
                    · (try dsimp only)
                      exact ⟨(K5.out.belowS (bstep HBX.out HBW.out)).cellV (i := 0) rfl, (K5.out.belowS (bstep HBX.out HBW.out)).cellV (i := 1) rfl, (K6.out.belowS (bstep HBX.out HBW.out)).cellV (i := 0) rfl, (K6.out.belowS (bstep HBX.out HBW.out)).cellV (i := 1) rfl⟩
                    clear hK K
                    refine wpAnyH_ready (rs := [10]) (by kernel_rfl) (by simp) ?_
                    refine AllReadyH.cons rfl (fun K hK => ?_) AllReadyH.nil
                    go_simp
                    have HN9_10 := Lib.hid (show wc8.heap.size ≠ wc8.heap.size + 1 from by have h := KA9.out.lt; rw [show ((wc8.alloc (.cells #[.int .u32 0, .slice none 0 0, .slice none 0 0] 93))).heap.size = wc8.heap.size + 1 from (show ((wc8.alloc (.cells #[.int .u32 0, .slice none 0 0, .slice none 0 0] 93))).heap.size = wc8.heap.size + 1 by simp)] at h; exact Nat.ne_of_lt h)
                    have KA10 := Lib.hid (show Blk ((wc8.alloc (.cells #[.int .u32 0, .slice none 0 0, .slice none 0 0] 93)).alloc (.cells #[.slice none 0 0] 60)) (wc8.heap.size + 1) 60 #[.slice none 0 0] from by have h := Blk.new ((wc8.alloc (.cells #[.int .u32 0, .slice none 0 0, .slice none 0 0] 93))) 60 #[.slice none 0 0]; rw [show ((wc8.alloc (.cells #[.int .u32 0, .slice none 0 0, .slice none 0 0] 93))).heap.size = wc8.heap.size + 1 from (show ((wc8.alloc (.cells #[.int .u32 0, .slice none 0 0, .slice none 0 0] 93))).heap.size = wc8.heap.size + 1 by simp)] at h; exact h)
                    have HL10 := Lib.hid (show X26.heap.size ≤ wc8.heap.size + 1 from by have h := HBW.out.size; rw [show ((wc8.alloc (.cells #[.int .u32 0, .slice none 0 0, .slice none 0 0] 93))).heap.size = wc8.heap.size + 1 from (show ((wc8.alloc (.cells #[.int .u32 0, .slice none 0 0, .slice none 0 0] 93))).heap.size = wc8.heap.size + 1 by simp)] at h; exact h)
                    have hbA : Below (wc8.alloc (.cells #[.int .u32 0, .slice none 0 0, .slice none 0 0] 93)).heap.size (wc8.alloc (.cells #[.int .u32 0, .slice none 0 0, .slice none 0 0] 93)) (((wc8.alloc (.cells #[.int .u32 0, .slice none 0 0, .slice none 0 0] 93)).alloc (.cells #[.slice none 0 0] 60))) := bal (bre (wc8.alloc (.cells #[.int .u32 0, .slice none 0 0, .slice none 0 0] 93))) (.cells #[.slice none 0 0] 60)
                    replace HBW := Lib.hid (bstep HBW.out hbA)
                    replace KA9 := Lib.hid (KA9.out.belowS hbA)
                    replace HKP := Lib.hid (HKP.out.below hbA)
                    replace HNP := Lib.hid (HNP.out.below hbA)
                    replace HLP := Lib.hid (HLP.out.below hbA)
                    clear hbA
                    refine hK.out _ _ ?_ (fun hHeld => ?_)
                    · (try dsimp only)
                      exact ⟨(K5.out.belowS (bstep HBX.out HBW.out)).cellV (i := 0) rfl, (K5.out.belowS (bstep HBX.out HBW.out)).cellV (i := 1) rfl, (K6.out.belowS (bstep HBX.out HBW.out)).cellV (i := 0) rfl, (K6.out.belowS (bstep HBX.out HBW.out)).cellV (i := 1) rfl⟩
                    clear hK K
                    refine wpAnyH_ready (rs := [11]) (by kernel_rfl) (by simp) ?_
                    refine AllReadyH.cons rfl (fun K hK => ?_) AllReadyH.nil
                    refine Tr.wanted_plain rfl ?_
                    refine store_mid0 rfl 93 _ _ rfl (wc8.heap.size) 0 #[.int .u32 i, .slice A3 n3 c3, .slice A4 n4 c4] (by rfl) (by rfl) (by have h := there_blk KA9.out; exact h) Tryz.sizeCh (by simp [Value.oneCell']) ?_
                    have xK := put3 (.int .u32 i) (.slice A3 n3 c3) (.slice A4 n4 c4) KA9.out
                    have xB := bsets HBW.out HL9.out (#[.int .u32 i, .slice A3 n3 c3, .slice A4 n4 c4] : Array Value).toList 0
                    have xA10 := KA10.out.farCells (HN9_10.out.symm) (#[.int .u32 i, .slice A3 n3 c3, .slice A4 n4 c4] : Array Value).toList 0
                    have xHKP := (show RegP (World.setCells ((wc8.alloc (.cells #[.int .u32 0, .slice none 0 0, .slice none 0 0] 93)).alloc (.cells #[.slice none 0 0] 60)) (wc8.heap.size) 0 (#[.int .u32 i, .slice A3 n3 c3, .slice A4 n4 c4] : Array Value).toList) _ _ from HKP.out.sets3 KA9.out)
                    have xHNP := (show RegP (World.setCells ((wc8.alloc (.cells #[.int .u32 0, .slice none 0 0, .slice none 0 0] 93)).alloc (.cells #[.slice none 0 0] 60)) (wc8.heap.size) 0 (#[.int .u32 i, .slice A3 n3 c3, .slice A4 n4 c4] : Array Value).toList) _ _ from HNP.out.sets3 KA9.out)
                    have xHLP := (show RegP (World.setCells ((wc8.alloc (.cells #[.int .u32 0, .slice none 0 0, .slice none 0 0] 93)).alloc (.cells #[.slice none 0 0] 60)) (wc8.heap.size) 0 (#[.int .u32 i, .slice A3 n3 c3, .slice A4 n4 c4] : Array Value).toList) _ _ from HLP.out.sets3 KA9.out)
                    obtain ⟨wS11, hwS⟩ : ∃ wS, World.setCells ((wc8.alloc (.cells #[.int .u32 0, .slice none 0 0, .slice none 0 0] 93)).alloc (.cells #[.slice none 0 0] 60)) (wc8.heap.size) 0 (#[.int .u32 i, .slice A3 n3 c3, .slice A4 n4 c4] : Array Value).toList = wS := ⟨_, rfl⟩
                    rw [hwS] at xK xB xA10 xHKP xHNP xHLP ⊢
                    replace HBW := Lib.hid xB
                    replace KA9 := Lib.hid xK
                    replace KA10 := Lib.hid xA10
                    replace HKP := Lib.hid xHKP
                    replace HNP := Lib.hid xHNP
                    replace HLP := Lib.hid xHLP
                    clear hwS xK xB xA10 xHKP xHNP xHLP
                    refine hK.out _ _ ?_ (fun hHeld => ?_)
                    · (try dsimp only)
                      exact ⟨(K5.out.belowS (bstep HBX.out HBW.out)).cellV (i := 0) rfl, (K5.out.belowS (bstep HBX.out HBW.out)).cellV (i := 1) rfl, (K6.out.belowS (bstep HBX.out HBW.out)).cellV (i := 0) rfl, (K6.out.belowS (bstep HBX.out HBW.out)).cellV (i := 1) rfl⟩
                    clear hK K
                    refine wpAnyH_ready (rs := [12]) (by kernel_rfl) (by simp) ?_
                    refine AllReadyH.cons rfl (fun K hK => ?_) AllReadyH.nil
                    refine Tr.wanted_plain rfl ?_
                    refine store_mid0 rfl 60 _ _ rfl (wc8.heap.size + 1) 0 #[.slice A6 n6 c6] (by rfl) (by rfl) (by have h := there_blk KA10.out; exact h) Tryz.sizeRg (by simp [Value.oneCell']) ?_
                    have xK := blk_puts1 (.slice A6 n6 c6) KA10.out
                    have xB := bsets HBW.out HL10.out (#[.slice A6 n6 c6] : Array Value).toList 0
                    have xA9 := KA9.out.farCells (HN9_10.out) (#[.slice A6 n6 c6] : Array Value).toList 0
                    have xHKP := (show RegP (World.setCells (wS11) (wc8.heap.size + 1) 0 (#[.slice A6 n6 c6] : Array Value).toList) _ _ from HKP.out.sets1 KA10.out)
                    have xHNP := (show RegP (World.setCells (wS11) (wc8.heap.size + 1) 0 (#[.slice A6 n6 c6] : Array Value).toList) _ _ from HNP.out.sets1 KA10.out)
                    have xHLP := (show RegP (World.setCells (wS11) (wc8.heap.size + 1) 0 (#[.slice A6 n6 c6] : Array Value).toList) _ _ from HLP.out.sets1 KA10.out)
                    obtain ⟨wS12, hwS⟩ : ∃ wS, World.setCells wS11 (wc8.heap.size + 1) 0 (#[.slice A6 n6 c6] : Array Value).toList = wS := ⟨_, rfl⟩
                    rw [hwS] at xK xB xA9 xHKP xHNP xHLP ⊢
                    replace HBW := Lib.hid xB
                    replace KA10 := Lib.hid xK
                    replace KA9 := Lib.hid xA9
                    replace HKP := Lib.hid xHKP
                    replace HNP := Lib.hid xHNP
                    replace HLP := Lib.hid xHLP
                    clear hwS xK xB xA9 xHKP xHNP xHLP
                    refine hK.out _ _ ?_ (fun hHeld => ?_)
                    · (try dsimp only)
                      exact ⟨(K5.out.belowS (bstep HBX.out HBW.out)).cellV (i := 0) rfl, (K5.out.belowS (bstep HBX.out HBW.out)).cellV (i := 1) rfl, (K6.out.belowS (bstep HBX.out HBW.out)).cellV (i := 0) rfl, (K6.out.belowS (bstep HBX.out HBW.out)).cellV (i := 1) rfl⟩
                    clear hK K
                    refine wpAnyH_done (by kernel_rfl) ?_ _
                    refine NoPanic.normal ?_
                    go_wp2_with fail
                    go_meet
                    exact ⟨_, _, A3, n3, c3, A4, n4, c4, A6, n6, c6, rfl, rfl, KA9.out, KA10.out, HKP.out, HLP.out, HBW.out⟩
                  ·
                    go_simp
                    have KA10 := Lib.hid (show Blk (wc8.alloc (.cells #[.slice none 0 0] 60)) (wc8.heap.size) 60 #[.slice none 0 0] from Blk.new wc8 60 #[.slice none 0 0])
                    have HL10 := Lib.hid (show X26.heap.size ≤ wc8.heap.size from HBW.out.size)
                    have hbA : Below wc8.heap.size wc8 ((wc8.alloc (.cells #[.slice none 0 0] 60))) := bal (bre wc8) (.cells #[.slice none 0 0] 60)
                    replace HBW := Lib.hid (bstep HBW.out hbA)
                    replace HKP := Lib.hid (HKP.out.below hbA)
                    replace HNP := Lib.hid (HNP.out.below hbA)
                    replace HLP := Lib.hid (HLP.out.below hbA)
                    clear hbA
                    refine hK.out _ _ ?_ (fun hHeld => ?_)
                    · (try dsimp only)
                      exact ⟨(K5.out.belowS (bstep HBX.out HBW.out)).cellV (i := 0) rfl, (K5.out.belowS (bstep HBX.out HBW.out)).cellV (i := 1) rfl, (K6.out.belowS (bstep HBX.out HBW.out)).cellV (i := 0) rfl, (K6.out.belowS (bstep HBX.out HBW.out)).cellV (i := 1) rfl⟩
                    clear hK K
                    refine wpAnyH_ready (rs := [9]) (by kernel_rfl) (by simp) ?_
                    refine AllReadyH.cons rfl (fun K hK => ?_) AllReadyH.nil
                    go_simp
                    have HN10_9 := Lib.hid (show wc8.heap.size ≠ wc8.heap.size + 1 from by have h := KA10.out.lt; rw [show ((wc8.alloc (.cells #[.slice none 0 0] 60))).heap.size = wc8.heap.size + 1 from (show ((wc8.alloc (.cells #[.slice none 0 0] 60))).heap.size = wc8.heap.size + 1 by simp)] at h; exact Nat.ne_of_lt h)
                    have KA9 := Lib.hid (show Blk ((wc8.alloc (.cells #[.slice none 0 0] 60)).alloc (.cells #[.int .u32 0, .slice none 0 0, .slice none 0 0] 93)) (wc8.heap.size + 1) 93 #[.int .u32 0, .slice none 0 0, .slice none 0 0] from by have h := Blk.new ((wc8.alloc (.cells #[.slice none 0 0] 60))) 93 #[.int .u32 0, .slice none 0 0, .slice none 0 0]; rw [show ((wc8.alloc (.cells #[.slice none 0 0] 60))).heap.size = wc8.heap.size + 1 from (show ((wc8.alloc (.cells #[.slice none 0 0] 60))).heap.size = wc8.heap.size + 1 by simp)] at h; exact h)
                    have HL9 := Lib.hid (show X26.heap.size ≤ wc8.heap.size + 1 from by have h := HBW.out.size; rw [show ((wc8.alloc (.cells #[.slice none 0 0] 60))).heap.size = wc8.heap.size + 1 from (show ((wc8.alloc (.cells #[.slice none 0 0] 60))).heap.size = wc8.heap.size + 1 by simp)] at h; exact h)
                    have hbA : Below (wc8.alloc (.cells #[.slice none 0 0] 60)).heap.size (wc8.alloc (.cells #[.slice none 0 0] 60)) (((wc8.alloc (.cells #[.slice none 0 0] 60)).alloc (.cells #[.int .u32 0, .slice none 0 0, .slice none 0 0] 93))) := bal (bre (wc8.alloc (.cells #[.slice none 0 0] 60))) (.cells #[.int .u32 0, .slice none 0 0, .slice none 0 0] 93)
                    replace HBW := Lib.hid (bstep HBW.out hbA)
                    replace KA10 := Lib.hid (KA10.out.belowS hbA)
                    replace HKP := Lib.hid (HKP.out.below hbA)
                    replace HNP := Lib.hid (HNP.out.below hbA)
                    replace HLP := Lib.hid (HLP.out.below hbA)
                    clear hbA
                    refine hK.out _ _ ?_ (fun hHeld => ?_)
                    · (try dsimp only)
                      exact ⟨(K5.out.belowS (bstep HBX.out HBW.out)).cellV (i := 0) rfl, (K5.out.belowS (bstep HBX.out HBW.out)).cellV (i := 1) rfl, (K6.out.belowS (bstep HBX.out HBW.out)).cellV (i := 0) rfl, (K6.out.belowS (bstep HBX.out HBW.out)).cellV (i := 1) rfl⟩
                    clear hK K
                    refine wpAnyH_ready (rs := [11]) (by kernel_rfl) (by simp) ?_
                    refine AllReadyH.cons rfl (fun K hK => ?_) AllReadyH.nil
                    refine Tr.wanted_plain rfl ?_
                    refine store_mid0 rfl 93 _ _ rfl (wc8.heap.size + 1) 0 #[.int .u32 i, .slice A3 n3 c3, .slice A4 n4 c4] (by rfl) (by rfl) (by have h := there_blk KA9.out; exact h) Tryz.sizeCh (by simp [Value.oneCell']) ?_
                    have xK := put3 (.int .u32 i) (.slice A3 n3 c3) (.slice A4 n4 c4) KA9.out
                    have xB := bsets HBW.out HL9.out (#[.int .u32 i, .slice A3 n3 c3, .slice A4 n4 c4] : Array Value).toList 0
                    have xA10 := KA10.out.farCells (HN10_9.out) (#[.int .u32 i, .slice A3 n3 c3, .slice A4 n4 c4] : Array Value).toList 0
                    have xHKP := (show RegP (World.setCells ((wc8.alloc (.cells #[.slice none 0 0] 60)).alloc (.cells #[.int .u32 0, .slice none 0 0, .slice none 0 0] 93)) (wc8.heap.size + 1) 0 (#[.int .u32 i, .slice A3 n3 c3, .slice A4 n4 c4] : Array Value).toList) _ _ from HKP.out.sets3 KA9.out)
                    have xHNP := (show RegP (World.setCells ((wc8.alloc (.cells #[.slice none 0 0] 60)).alloc (.cells #[.int .u32 0, .slice none 0 0, .slice none 0 0] 93)) (wc8.heap.size + 1) 0 (#[.int .u32 i, .slice A3 n3 c3, .slice A4 n4 c4] : Array Value).toList) _ _ from HNP.out.sets3 KA9.out)
                    have xHLP := (show RegP (World.setCells ((wc8.alloc (.cells #[.slice none 0 0] 60)).alloc (.cells #[.int .u32 0, .slice none 0 0, .slice none 0 0] 93)) (wc8.heap.size + 1) 0 (#[.int .u32 i, .slice A3 n3 c3, .slice A4 n4 c4] : Array Value).toList) _ _ from HLP.out.sets3 KA9.out)
                    obtain ⟨wS11, hwS⟩ : ∃ wS, World.setCells ((wc8.alloc (.cells #[.slice none 0 0] 60)).alloc (.cells #[.int .u32 0, .slice none 0 0, .slice none 0 0] 93)) (wc8.heap.size + 1) 0 (#[.int .u32 i, .slice A3 n3 c3, .slice A4 n4 c4] : Array Value).toList = wS := ⟨_, rfl⟩
                    rw [hwS] at xK xB xA10 xHKP xHNP xHLP ⊢
                    replace HBW := Lib.hid xB
                    replace KA9 := Lib.hid xK
                    replace KA10 := Lib.hid xA10
                    replace HKP := Lib.hid xHKP
                    replace HNP := Lib.hid xHNP
                    replace HLP := Lib.hid xHLP
                    clear hwS xK xB xA10 xHKP xHNP xHLP
                    refine hK.out _ _ ?_ (fun hHeld => ?_)
                    · (try dsimp only)
                      exact ⟨(K5.out.belowS (bstep HBX.out HBW.out)).cellV (i := 0) rfl, (K5.out.belowS (bstep HBX.out HBW.out)).cellV (i := 1) rfl, (K6.out.belowS (bstep HBX.out HBW.out)).cellV (i := 0) rfl, (K6.out.belowS (bstep HBX.out HBW.out)).cellV (i := 1) rfl⟩
                    clear hK K
                    refine wpAnyH_ready (rs := [12]) (by kernel_rfl) (by simp) ?_
                    refine AllReadyH.cons rfl (fun K hK => ?_) AllReadyH.nil
                    refine Tr.wanted_plain rfl ?_
                    refine store_mid0 rfl 60 _ _ rfl (wc8.heap.size) 0 #[.slice A6 n6 c6] (by rfl) (by rfl) (by have h := there_blk KA10.out; exact h) Tryz.sizeRg (by simp [Value.oneCell']) ?_
                    have xK := blk_puts1 (.slice A6 n6 c6) KA10.out
                    have xB := bsets HBW.out HL10.out (#[.slice A6 n6 c6] : Array Value).toList 0
                    have xA9 := KA9.out.farCells (HN10_9.out.symm) (#[.slice A6 n6 c6] : Array Value).toList 0
                    have xHKP := (show RegP (World.setCells (wS11) (wc8.heap.size) 0 (#[.slice A6 n6 c6] : Array Value).toList) _ _ from HKP.out.sets1 KA10.out)
                    have xHNP := (show RegP (World.setCells (wS11) (wc8.heap.size) 0 (#[.slice A6 n6 c6] : Array Value).toList) _ _ from HNP.out.sets1 KA10.out)
                    have xHLP := (show RegP (World.setCells (wS11) (wc8.heap.size) 0 (#[.slice A6 n6 c6] : Array Value).toList) _ _ from HLP.out.sets1 KA10.out)
                    obtain ⟨wS12, hwS⟩ : ∃ wS, World.setCells wS11 (wc8.heap.size) 0 (#[.slice A6 n6 c6] : Array Value).toList = wS := ⟨_, rfl⟩
                    rw [hwS] at xK xB xA9 xHKP xHNP xHLP ⊢
                    replace HBW := Lib.hid xB
                    replace KA10 := Lib.hid xK
                    replace KA9 := Lib.hid xA9
                    replace HKP := Lib.hid xHKP
                    replace HNP := Lib.hid xHNP
                    replace HLP := Lib.hid xHLP
                    clear hwS xK xB xA9 xHKP xHNP xHLP
                    refine hK.out _ _ ?_ (fun hHeld => ?_)
                    · (try dsimp only)
                      exact ⟨(K5.out.belowS (bstep HBX.out HBW.out)).cellV (i := 0) rfl, (K5.out.belowS (bstep HBX.out HBW.out)).cellV (i := 1) rfl, (K6.out.belowS (bstep HBX.out HBW.out)).cellV (i := 0) rfl, (K6.out.belowS (bstep HBX.out HBW.out)).cellV (i := 1) rfl⟩
                    clear hK K
                    refine wpAnyH_done (by kernel_rfl) ?_ _
                    refine NoPanic.normal ?_
                    go_wp2_with fail
                    go_meet
                    exact ⟨_, _, A3, n3, c3, A4, n4, c4, A6, n6, c6, rfl, rfl, KA9.out, KA10.out, HKP.out, HLP.out, HBW.out⟩
                ·
                  go_simp
                  have KA9 := Lib.hid (show Blk (wc4.alloc (.cells #[.int .u32 0, .slice none 0 0, .slice none 0 0] 93)) (wc4.heap.size) 93 #[.int .u32 0, .slice none 0 0, .slice none 0 0] from Blk.new wc4 93 #[.int .u32 0, .slice none 0 0, .slice none 0 0])
                  have HL9 := Lib.hid (show X26.heap.size ≤ wc4.heap.size from HBW.out.size)
                  have hbA : Below wc4.heap.size wc4 ((wc4.alloc (.cells #[.int .u32 0, .slice none 0 0, .slice none 0 0] 93))) := bal (bre wc4) (.cells #[.int .u32 0, .slice none 0 0, .slice none 0 0] 93)
                  replace HBW := Lib.hid (bstep HBW.out hbA)
                  replace HKP := Lib.hid (HKP.out.below hbA)
                  replace HNP := Lib.hid (HNP.out.below hbA)
                  clear hbA
                  refine hK.out _ _ ?_ (fun hHeld => ?_)
                  · (try dsimp only)
                    exact ⟨(K5.out.belowS (bstep HBX.out HBW.out)).cellV (i := 0) rfl, (K5.out.belowS (bstep HBX.out HBW.out)).cellV (i := 1) rfl, (K6.out.belowS (bstep HBX.out HBW.out)).cellV (i := 0) rfl, (K6.out.belowS (bstep HBX.out HBW.out)).cellV (i := 1) rfl⟩
                  clear hK K
                  refine wpAnyH_ready (rs := [8, 10]) (by kernel_rfl) (by simp) ?_
                  refine AllReadyH.cons rfl (fun K hK => ?_) (AllReadyH.cons rfl (fun K hK => ?_) AllReadyH.nil)
                  ·
                    go_simp
                    refine (lostP_any i (HA.out.below (bstep HBX.out HBW.out)) (HC.out.below (bstep HBX.out HBW.out)) HI.out).mono ?_
                    rintro e wc8 ⟨u, rfl, hr, hbA⟩
                    obtain ⟨A6, n6, c6, rfl⟩ := hr.form
                    have HLP := Lib.hid hr
                    clear hr
                    replace HBW := Lib.hid (bstep HBW.out hbA)
                    replace KA9 := Lib.hid (KA9.out.belowS hbA)
                    replace HKP := Lib.hid (HKP.out.below hbA)
                    replace HNP := Lib.hid (HNP.out.below hbA)
                    clear hbA
                    go_simp
                    refine hK.out _ _ ?_ (fun hHeld => ?_)
                    · (try dsimp only)
                      exact ⟨(K5.out.belowS (bstep HBX.out HBW.out)).cellV (i := 0) rfl, (K5.out.belowS (bstep HBX.out HBW.out)).cellV (i := 1) rfl, (K6.out.belowS (bstep HBX.out HBW.out)).cellV (i := 0) rfl, (K6.out.belowS (bstep HBX.out HBW.out)).cellV (i := 1) rfl⟩
                    clear hK K
                    refine wpAnyH_ready (rs := [10]) (by kernel_rfl) (by simp) ?_
                    refine AllReadyH.cons rfl (fun K hK => ?_) AllReadyH.nil
                    go_simp
                    have HN9_10 := Lib.hid (Nat.ne_of_lt KA9.out.lt)
                    have KA10 := Lib.hid (show Blk (wc8.alloc (.cells #[.slice none 0 0] 60)) (wc8.heap.size) 60 #[.slice none 0 0] from Blk.new wc8 60 #[.slice none 0 0])
                    have HL10 := Lib.hid (show X26.heap.size ≤ wc8.heap.size from HBW.out.size)
                    have hbA : Below wc8.heap.size wc8 ((wc8.alloc (.cells #[.slice none 0 0] 60))) := bal (bre wc8) (.cells #[.slice none 0 0] 60)
                    replace HBW := Lib.hid (bstep HBW.out hbA)
                    replace KA9 := Lib.hid (KA9.out.belowS hbA)
                    replace HKP := Lib.hid (HKP.out.below hbA)
                    replace HNP := Lib.hid (HNP.out.below hbA)
                    replace HLP := Lib.hid (HLP.out.below hbA)
                    clear hbA
                    refine hK.out _ _ ?_ (fun hHeld => ?_)
                    · (try dsimp only)
                      exact ⟨(K5.out.belowS (bstep HBX.out HBW.out)).cellV (i := 0) rfl, (K5.out.belowS (bstep HBX.out HBW.out)).cellV (i := 1) rfl, (K6.out.belowS (bstep HBX.out HBW.out)).cellV (i := 0) rfl, (K6.out.belowS (bstep HBX.out HBW.out)).cellV (i := 1) rfl⟩
                    clear hK K
                    refine wpAnyH_ready (rs := [11]) (by kernel_rfl) (by simp) ?_
                    refine AllReadyH.cons rfl (fun K hK => ?_) AllReadyH.nil
                    refine Tr.wanted_plain rfl ?_
                    refine store_mid0 rfl 93 _ _ rfl (wc4.heap.size) 0 #[.int .u32 i, .slice A3 n3 c3, .slice A4 n4 c4] (by rfl) (by rfl) (by have h := there_blk KA9.out; exact h) Tryz.sizeCh (by simp [Value.oneCell']) ?_
                    have xK := put3 (.int .u32 i) (.slice A3 n3 c3) (.slice A4 n4 c4) KA9.out
                    have xB := bsets HBW.out HL9.out (#[.int .u32 i, .slice A3 n3 c3, .slice A4 n4 c4] : Array Value).toList 0
                    have xA10 := KA10.out.farCells (HN9_10.out.symm) (#[.int .u32 i, .slice A3 n3 c3, .slice A4 n4 c4] : Array Value).toList 0
                    have xHKP := (show RegP (World.setCells (wc8.alloc (.cells #[.slice none 0 0] 60)) (wc4.heap.size) 0 (#[.int .u32 i, .slice A3 n3 c3, .slice A4 n4 c4] : Array Value).toList) _ _ from HKP.out.sets3 KA9.out)
                    have xHNP := (show RegP (World.setCells (wc8.alloc (.cells #[.slice none 0 0] 60)) (wc4.heap.size) 0 (#[.int .u32 i, .slice A3 n3 c3, .slice A4 n4 c4] : Array Value).toList) _ _ from HNP.out.sets3 KA9.out)
                    have xHLP := (show RegP (World.setCells (wc8.alloc (.cells #[.slice none 0 0] 60)) (wc4.heap.size) 0 (#[.int .u32 i, .slice A3 n3 c3, .slice A4 n4 c4] : Array Value).toList) _ _ from HLP.out.sets3 KA9.out)
                    obtain ⟨wS11, hwS⟩ : ∃ wS, World.setCells (wc8.alloc (.cells #[.slice none 0 0] 60)) (wc4.heap.size) 0 (#[.int .u32 i, .slice A3 n3 c3, .slice A4 n4 c4] : Array Value).toList = wS := ⟨_, rfl⟩
                    rw [hwS] at xK xB xA10 xHKP xHNP xHLP ⊢
                    replace HBW := Lib.hid xB
                    replace KA9 := Lib.hid xK
                    replace KA10 := Lib.hid xA10
                    replace HKP := Lib.hid xHKP
                    replace HNP := Lib.hid xHNP
                    replace HLP := Lib.hid xHLP
                    clear hwS xK xB xA10 xHKP xHNP xHLP
                    refine hK.out _ _ ?_ (fun hHeld => ?_)
                    · (try dsimp only)
                      exact ⟨(K5.out.belowS (bstep HBX.out HBW.out)).cellV (i := 0) rfl, (K5.out.belowS (bstep HBX.out HBW.out)).cellV (i := 1) rfl, (K6.out.belowS (bstep HBX.out HBW.out)).cellV (i := 0) rfl, (K6.out.belowS (bstep HBX.out HBW.out)).cellV (i := 1) rfl⟩
                    clear hK K
                    refine wpAnyH_ready (rs := [12]) (by kernel_rfl) (by simp) ?_
                    refine AllReadyH.cons rfl (fun K hK => ?_) AllReadyH.nil
                    refine Tr.wanted_plain rfl ?_
                    refine store_mid0 rfl 60 _ _ rfl (wc8.heap.size) 0 #[.slice A6 n6 c6] (by rfl) (by rfl) (by have h := there_blk KA10.out; exact h) Tryz.sizeRg (by simp [Value.oneCell']) ?_
                    have xK := blk_puts1 (.slice A6 n6 c6) KA10.out
                    have xB := bsets HBW.out HL10.out (#[.slice A6 n6 c6] : Array Value).toList 0
                    have xA9 := KA9.out.farCells (HN9_10.out) (#[.slice A6 n6 c6] : Array Value).toList 0
                    have xHKP := (show RegP (World.setCells (wS11) (wc8.heap.size) 0 (#[.slice A6 n6 c6] : Array Value).toList) _ _ from HKP.out.sets1 KA10.out)
                    have xHNP := (show RegP (World.setCells (wS11) (wc8.heap.size) 0 (#[.slice A6 n6 c6] : Array Value).toList) _ _ from HNP.out.sets1 KA10.out)
                    have xHLP := (show RegP (World.setCells (wS11) (wc8.heap.size) 0 (#[.slice A6 n6 c6] : Array Value).toList) _ _ from HLP.out.sets1 KA10.out)
                    obtain ⟨wS12, hwS⟩ : ∃ wS, World.setCells wS11 (wc8.heap.size) 0 (#[.slice A6 n6 c6] : Array Value).toList = wS := ⟨_, rfl⟩
                    rw [hwS] at xK xB xA9 xHKP xHNP xHLP ⊢
                    replace HBW := Lib.hid xB
                    replace KA10 := Lib.hid xK
                    replace KA9 := Lib.hid xA9
                    replace HKP := Lib.hid xHKP
                    replace HNP := Lib.hid xHNP
                    replace HLP := Lib.hid xHLP
                    clear hwS xK xB xA9 xHKP xHNP xHLP
                    refine hK.out _ _ ?_ (fun hHeld => ?_)
                    · (try dsimp only)
                      exact ⟨(K5.out.belowS (bstep HBX.out HBW.out)).cellV (i := 0) rfl, (K5.out.belowS (bstep HBX.out HBW.out)).cellV (i := 1) rfl, (K6.out.belowS (bstep HBX.out HBW.out)).cellV (i := 0) rfl, (K6.out.belowS (bstep HBX.out HBW.out)).cellV (i := 1) rfl⟩
                    clear hK K
                    refine wpAnyH_done (by kernel_rfl) ?_ _
                    refine NoPanic.normal ?_
                    go_wp2_with fail
                    go_meet
                    exact ⟨_, _, A3, n3, c3, A4, n4, c4, A6, n6, c6, rfl, rfl, KA9.out, KA10.out, HKP.out, HLP.out, HBW.out⟩
                  ·
                    go_simp
                    have HN9_10 := Lib.hid (show wc4.heap.size ≠ wc4.heap.size + 1 from by have h := KA9.out.lt; rw [show ((wc4.alloc (.cells #[.int .u32 0, .slice none 0 0, .slice none 0 0] 93))).heap.size = wc4.heap.size + 1 from (show ((wc4.alloc (.cells #[.int .u32 0, .slice none 0 0, .slice none 0 0] 93))).heap.size = wc4.heap.size + 1 by simp)] at h; exact Nat.ne_of_lt h)
                    have KA10 := Lib.hid (show Blk ((wc4.alloc (.cells #[.int .u32 0, .slice none 0 0, .slice none 0 0] 93)).alloc (.cells #[.slice none 0 0] 60)) (wc4.heap.size + 1) 60 #[.slice none 0 0] from by have h := Blk.new ((wc4.alloc (.cells #[.int .u32 0, .slice none 0 0, .slice none 0 0] 93))) 60 #[.slice none 0 0]; rw [show ((wc4.alloc (.cells #[.int .u32 0, .slice none 0 0, .slice none 0 0] 93))).heap.size = wc4.heap.size + 1 from (show ((wc4.alloc (.cells #[.int .u32 0, .slice none 0 0, .slice none 0 0] 93))).heap.size = wc4.heap.size + 1 by simp)] at h; exact h)
                    have HL10 := Lib.hid (show X26.heap.size ≤ wc4.heap.size + 1 from by have h := HBW.out.size; rw [show ((wc4.alloc (.cells #[.int .u32 0, .slice none 0 0, .slice none 0 0] 93))).heap.size = wc4.heap.size + 1 from (show ((wc4.alloc (.cells #[.int .u32 0, .slice none 0 0, .slice none 0 0] 93))).heap.size = wc4.heap.size + 1 by simp)] at h; exact h)
                    have hbA : Below (wc4.alloc (.cells #[.int .u32 0, .slice none 0 0, .slice none 0 0] 93)).heap.size (wc4.alloc (.cells #[.int .u32 0, .slice none 0 0, .slice none 0 0] 93)) (((wc4.alloc (.cells #[.int .u32 0, .slice none 0 0, .slice none 0 0] 93)).alloc (.cells #[.slice none 0 0] 60))) := bal (bre (wc4.alloc (.cells #[.int .u32 0, .slice none 0 0, .slice none 0 0] 93))) (.cells #[.slice none 0 0] 60)
                    replace HBW := Lib.hid (bstep HBW.out hbA)
                    replace KA9 := Lib.hid (KA9.out.belowS hbA)
                    replace HKP := Lib.hid (HKP.out.below hbA)
                    replace HNP := Lib.hid (HNP.out.below hbA)
                    clear hbA
                    refine hK.out _ _ ?_ (fun hHeld => ?_)
                    · (try dsimp only)
                      exact ⟨(K5.out.belowS (bstep HBX.out HBW.out)).cellV (i := 0) rfl, (K5.out.belowS (bstep HBX.out HBW.out)).cellV (i := 1) rfl, (K6.out.belowS (bstep HBX.out HBW.out)).cellV (i := 0) rfl, (K6.out.belowS (bstep HBX.out HBW.out)).cellV (i := 1) rfl⟩
                    clear hK K
                    refine wpAnyH_ready (rs := [8]) (by kernel_rfl) (by simp) ?_
                    refine AllReadyH.cons rfl (fun K hK => ?_) AllReadyH.nil
                    go_simp
                    refine (lostP_any i (HA.out.below (bstep HBX.out HBW.out)) (HC.out.below (bstep HBX.out HBW.out)) HI.out).mono ?_
                    rintro e wc8 ⟨u, rfl, hr, hbA⟩
                    obtain ⟨A6, n6, c6, rfl⟩ := hr.form
                    have HLP := Lib.hid hr
                    clear hr
                    replace HBW := Lib.hid (bstep HBW.out hbA)
                    replace KA9 := Lib.hid (KA9.out.belowS hbA)
                    replace KA10 := Lib.hid (KA10.out.belowS hbA)
                    replace HKP := Lib.hid (HKP.out.below hbA)
                    replace HNP := Lib.hid (HNP.out.below hbA)
                    clear hbA
                    go_simp
                    refine hK.out _ _ ?_ (fun hHeld => ?_)
                    · (try dsimp only)
                      exact ⟨(K5.out.belowS (bstep HBX.out HBW.out)).cellV (i := 0) rfl, (K5.out.belowS (bstep HBX.out HBW.out)).cellV (i := 1) rfl, (K6.out.belowS (bstep HBX.out HBW.out)).cellV (i := 0) rfl, (K6.out.belowS (bstep HBX.out HBW.out)).cellV (i := 1) rfl⟩
                    clear hK K
                    refine wpAnyH_ready (rs := [11]) (by kernel_rfl) (by simp) ?_
                    refine AllReadyH.cons rfl (fun K hK => ?_) AllReadyH.nil
                    refine Tr.wanted_plain rfl ?_
                    refine store_mid0 rfl 93 _ _ rfl (wc4.heap.size) 0 #[.int .u32 i, .slice A3 n3 c3, .slice A4 n4 c4] (by rfl) (by rfl) (by have h := there_blk KA9.out; exact h) Tryz.sizeCh (by simp [Value.oneCell']) ?_
                    have xK := put3 (.int .u32 i) (.slice A3 n3 c3) (.slice A4 n4 c4) KA9.out
                    have xB := bsets HBW.out HL9.out (#[.int .u32 i, .slice A3 n3 c3, .slice A4 n4 c4] : Array Value).toList 0
                    have xA10 := KA10.out.farCells (HN9_10.out.symm) (#[.int .u32 i, .slice A3 n3 c3, .slice A4 n4 c4] : Array Value).toList 0
                    have xHKP := (show RegP (World.setCells (wc8) (wc4.heap.size) 0 (#[.int .u32 i, .slice A3 n3 c3, .slice A4 n4 c4] : Array Value).toList) _ _ from HKP.out.sets3 KA9.out)
                    have xHNP := (show RegP (World.setCells (wc8) (wc4.heap.size) 0 (#[.int .u32 i, .slice A3 n3 c3, .slice A4 n4 c4] : Array Value).toList) _ _ from HNP.out.sets3 KA9.out)
                    have xHLP := (show RegP (World.setCells (wc8) (wc4.heap.size) 0 (#[.int .u32 i, .slice A3 n3 c3, .slice A4 n4 c4] : Array Value).toList) _ _ from HLP.out.sets3 KA9.out)
                    obtain ⟨wS11, hwS⟩ : ∃ wS, World.setCells wc8 (wc4.heap.size) 0 (#[.int .u32 i, .slice A3 n3 c3, .slice A4 n4 c4] : Array Value).toList = wS := ⟨_, rfl⟩
                    rw [hwS] at xK xB xA10 xHKP xHNP xHLP ⊢
                    replace HBW := Lib.hid xB
                    replace KA9 := Lib.hid xK
                    replace KA10 := Lib.hid xA10
                    replace HKP := Lib.hid xHKP
                    replace HNP := Lib.hid xHNP
                    replace HLP := Lib.hid xHLP
                    clear hwS xK xB xA10 xHKP xHNP xHLP
                    refine hK.out _ _ ?_ (fun hHeld => ?_)
                    · (try dsimp only)
                      exact ⟨(K5.out.belowS (bstep HBX.out HBW.out)).cellV (i := 0) rfl, (K5.out.belowS (bstep HBX.out HBW.out)).cellV (i := 1) rfl, (K6.out.belowS (bstep HBX.out HBW.out)).cellV (i := 0) rfl, (K6.out.belowS (bstep HBX.out HBW.out)).cellV (i := 1) rfl⟩
                    clear hK K
                    refine wpAnyH_ready (rs := [12]) (by kernel_rfl) (by simp) ?_
                    refine AllReadyH.cons rfl (fun K hK => ?_) AllReadyH.nil
                    refine Tr.wanted_plain rfl ?_
                    refine store_mid0 rfl 60 _ _ rfl (wc4.heap.size + 1) 0 #[.slice A6 n6 c6] (by rfl) (by rfl) (by have h := there_blk KA10.out; exact h) Tryz.sizeRg (by simp [Value.oneCell']) ?_
                    have xK := blk_puts1 (.slice A6 n6 c6) KA10.out
                    have xB := bsets HBW.out HL10.out (#[.slice A6 n6 c6] : Array Value).toList 0
                    have xA9 := KA9.out.farCells (HN9_10.out) (#[.slice A6 n6 c6] : Array Value).toList 0
                    have xHKP := (show RegP (World.setCells (wS11) (wc4.heap.size + 1) 0 (#[.slice A6 n6 c6] : Array Value).toList) _ _ from HKP.out.sets1 KA10.out)
                    have xHNP := (show RegP (World.setCells (wS11) (wc4.heap.size + 1) 0 (#[.slice A6 n6 c6] : Array Value).toList) _ _ from HNP.out.sets1 KA10.out)
                    have xHLP := (show RegP (World.setCells (wS11) (wc4.heap.size + 1) 0 (#[.slice A6 n6 c6] : Array Value).toList) _ _ from HLP.out.sets1 KA10.out)
                    obtain ⟨wS12, hwS⟩ : ∃ wS, World.setCells wS11 (wc4.heap.size + 1) 0 (#[.slice A6 n6 c6] : Array Value).toList = wS := ⟨_, rfl⟩
                    rw [hwS] at xK xB xA9 xHKP xHNP xHLP ⊢
                    replace HBW := Lib.hid xB
                    replace KA10 := Lib.hid xK
                    replace KA9 := Lib.hid xA9
                    replace HKP := Lib.hid xHKP
                    replace HNP := Lib.hid xHNP
                    replace HLP := Lib.hid xHLP
                    clear hwS xK xB xA9 xHKP xHNP xHLP
                    refine hK.out _ _ ?_ (fun hHeld => ?_)
                    · (try dsimp only)
                      exact ⟨(K5.out.belowS (bstep HBX.out HBW.out)).cellV (i := 0) rfl, (K5.out.belowS (bstep HBX.out HBW.out)).cellV (i := 1) rfl, (K6.out.belowS (bstep HBX.out HBW.out)).cellV (i := 0) rfl, (K6.out.belowS (bstep HBX.out HBW.out)).cellV (i := 1) rfl⟩
                    clear hK K
                    refine wpAnyH_done (by kernel_rfl) ?_ _
                    refine NoPanic.normal ?_
                    go_wp2_with fail
                    go_meet
                    exact ⟨_, _, A3, n3, c3, A4, n4, c4, A6, n6, c6, rfl, rfl, KA9.out, KA10.out, HKP.out, HLP.out, HBW.out⟩
                ·
                  go_simp
                  have KA10 := Lib.hid (show Blk (wc4.alloc (.cells #[.slice none 0 0] 60)) (wc4.heap.size) 60 #[.slice none 0 0] from Blk.new wc4 60 #[.slice none 0 0])
                  have HL10 := Lib.hid (show X26.heap.size ≤ wc4.heap.size from HBW.out.size)
                  have hbA : Below wc4.heap.size wc4 ((wc4.alloc (.cells #[.slice none 0 0] 60))) := bal (bre wc4) (.cells #[.slice none 0 0] 60)
                  replace HBW := Lib.hid (bstep HBW.out hbA)
                  replace HKP := Lib.hid (HKP.out.below hbA)
                  replace HNP := Lib.hid (HNP.out.below hbA)
                  clear hbA
                  refine hK.out _ _ ?_ (fun hHeld => ?_)
                  · (try dsimp only)
                    exact ⟨(K5.out.belowS (bstep HBX.out HBW.out)).cellV (i := 0) rfl, (K5.out.belowS (bstep HBX.out HBW.out)).cellV (i := 1) rfl, (K6.out.belowS (bstep HBX.out HBW.out)).cellV (i := 0) rfl, (K6.out.belowS (bstep HBX.out HBW.out)).cellV (i := 1) rfl⟩
                  clear hK K
                  refine wpAnyH_ready (rs := [8, 9]) (by kernel_rfl) (by simp) ?_
                  refine AllReadyH.cons rfl (fun K hK => ?_) (AllReadyH.cons rfl (fun K hK => ?_) AllReadyH.nil)
                  ·
                    go_simp
                    refine (lostP_any i (HA.out.below (bstep HBX.out HBW.out)) (HC.out.below (bstep HBX.out HBW.out)) HI.out).mono ?_
                    rintro e wc8 ⟨u, rfl, hr, hbA⟩
                    obtain ⟨A6, n6, c6, rfl⟩ := hr.form
                    have HLP := Lib.hid hr
                    clear hr
                    replace HBW := Lib.hid (bstep HBW.out hbA)
                    replace KA10 := Lib.hid (KA10.out.belowS hbA)
                    replace HKP := Lib.hid (HKP.out.below hbA)
                    replace HNP := Lib.hid (HNP.out.below hbA)
                    clear hbA
                    go_simp
                    refine hK.out _ _ ?_ (fun hHeld => ?_)
                    · (try dsimp only)
                      exact ⟨(K5.out.belowS (bstep HBX.out HBW.out)).cellV (i := 0) rfl, (K5.out.belowS (bstep HBX.out HBW.out)).cellV (i := 1) rfl, (K6.out.belowS (bstep HBX.out HBW.out)).cellV (i := 0) rfl, (K6.out.belowS (bstep HBX.out HBW.out)).cellV (i := 1) rfl⟩
                    clear hK K
                    refine wpAnyH_ready (rs := [9]) (by kernel_rfl) (by simp) ?_
                    refine AllReadyH.cons rfl (fun K hK => ?_) AllReadyH.nil
                    go_simp
                    have HN10_9 := Lib.hid (Nat.ne_of_lt KA10.out.lt)
                    have KA9 := Lib.hid (show Blk (wc8.alloc (.cells #[.int .u32 0, .slice none 0 0, .slice none 0 0] 93)) (wc8.heap.size) 93 #[.int .u32 0, .slice none 0 0, .slice none 0 0] from Blk.new wc8 93 #[.int .u32 0, .slice none 0 0, .slice none 0 0])
                    have HL9 := Lib.hid (show X26.heap.size ≤ wc8.heap.size from HBW.out.size)
                    have hbA : Below wc8.heap.size wc8 ((wc8.alloc (.cells #[.int .u32 0, .slice none 0 0, .slice none 0 0] 93))) := bal (bre wc8) (.cells #[.int .u32 0, .slice none 0 0, .slice none 0 0] 93)
                    replace HBW := Lib.hid (bstep HBW.out hbA)
                    replace KA10 := Lib.hid (KA10.out.belowS hbA)
                    replace HKP := Lib.hid (HKP.out.below hbA)
                    replace HNP := Lib.hid (HNP.out.below hbA)
                    replace HLP := Lib.hid (HLP.out.below hbA)
                    clear hbA
                    refine hK.out _ _ ?_ (fun hHeld => ?_)
                    · (try dsimp only)
                      exact ⟨(K5.out.belowS (bstep HBX.out HBW.out)).cellV (i := 0) rfl, (K5.out.belowS (bstep HBX.out HBW.out)).cellV (i := 1) rfl, (K6.out.belowS (bstep HBX.out HBW.out)).cellV (i := 0) rfl, (K6.out.belowS (bstep HBX.out HBW.out)).cellV (i := 1) rfl⟩
                    clear hK K
                    refine wpAnyH_ready (rs := [11]) (by kernel_rfl) (by simp) ?_
                    refine AllReadyH.cons rfl (fun K hK => ?_) AllReadyH.nil
                    refine Tr.wanted_plain rfl ?_
                    refine store_mid0 rfl 93 _ _ rfl (wc8.heap.size) 0 #[.int .u32 i, .slice A3 n3 c3, .slice A4 n4 c4] (by rfl) (by rfl) (by have h := there_blk KA9.out; exact h) Tryz.sizeCh (by simp [Value.oneCell']) ?_
                    have xK := put3 (.int .u32 i) (.slice A3 n3 c3) (.slice A4 n4 c4) KA9.out
                    have xB := bsets HBW.out HL9.out (#[.int .u32 i, .slice A3 n3 c3, .slice A4 n4 c4] : Array Value).toList 0
                    have xA10 := KA10.out.farCells (HN10_9.out) (#[.int .u32 i, .slice A3 n3 c3, .slice A4 n4 c4] : Array Value).toList 0
                    have xHKP := (show RegP (World.setCells (wc8.alloc (.cells #[.int .u32 0, .slice none 0 0, .slice none 0 0] 93)) (wc8.heap.size) 0 (#[.int .u32 i, .slice A3 n3 c3, .slice A4 n4 c4] : Array Value).toList) _ _ from HKP.out.sets3 KA9.out)
                    have xHNP := (show RegP (World.setCells (wc8.alloc (.cells #[.int .u32 0, .slice none 0 0, .slice none 0 0] 93)) (wc8.heap.size) 0 (#[.int .u32 i, .slice A3 n3 c3, .slice A4 n4 c4] : Array Value).toList) _ _ from HNP.out.sets3 KA9.out)
                    have xHLP := (show RegP (World.setCells (wc8.alloc (.cells #[.int .u32 0, .slice none 0 0, .slice none 0 0] 93)) (wc8.heap.size) 0 (#[.int .u32 i, .slice A3 n3 c3, .slice A4 n4 c4] : Array Value).toList) _ _ from HLP.out.sets3 KA9.out)
                    obtain ⟨wS11, hwS⟩ : ∃ wS, World.setCells (wc8.alloc (.cells #[.int .u32 0, .slice none 0 0, .slice none 0 0] 93)) (wc8.heap.size) 0 (#[.int .u32 i, .slice A3 n3 c3, .slice A4 n4 c4] : Array Value).toList = wS := ⟨_, rfl⟩
                    rw [hwS] at xK xB xA10 xHKP xHNP xHLP ⊢
                    replace HBW := Lib.hid xB
                    replace KA9 := Lib.hid xK
                    replace KA10 := Lib.hid xA10
                    replace HKP := Lib.hid xHKP
                    replace HNP := Lib.hid xHNP
                    replace HLP := Lib.hid xHLP
                    clear hwS xK xB xA10 xHKP xHNP xHLP
                    refine hK.out _ _ ?_ (fun hHeld => ?_)
                    · (try dsimp only)
                      exact ⟨(K5.out.belowS (bstep HBX.out HBW.out)).cellV (i := 0) rfl, (K5.out.belowS (bstep HBX.out HBW.out)).cellV (i := 1) rfl, (K6.out.belowS (bstep HBX.out HBW.out)).cellV (i := 0) rfl, (K6.out.belowS (bstep HBX.out HBW.out)).cellV (i := 1) rfl⟩
                    clear hK K
                    refine wpAnyH_ready (rs := [12]) (by kernel_rfl) (by simp) ?_
                    refine AllReadyH.cons rfl (fun K hK => ?_) AllReadyH.nil
                    refine Tr.wanted_plain rfl ?_
                    refine store_mid0 rfl 60 _ _ rfl (wc4.heap.size) 0 #[.slice A6 n6 c6] (by rfl) (by rfl) (by have h := there_blk KA10.out; exact h) Tryz.sizeRg (by simp [Value.oneCell']) ?_
                    have xK := blk_puts1 (.slice A6 n6 c6) KA10.out
                    have xB := bsets HBW.out HL10.out (#[.slice A6 n6 c6] : Array Value).toList 0
                    have xA9 := KA9.out.farCells (HN10_9.out.symm) (#[.slice A6 n6 c6] : Array Value).toList 0
                    have xHKP := (show RegP (World.setCells (wS11) (wc4.heap.size) 0 (#[.slice A6 n6 c6] : Array Value).toList) _ _ from HKP.out.sets1 KA10.out)
                    have xHNP := (show RegP (World.setCells (wS11) (wc4.heap.size) 0 (#[.slice A6 n6 c6] : Array Value).toList) _ _ from HNP.out.sets1 KA10.out)
                    have xHLP := (show RegP (World.setCells (wS11) (wc4.heap.size) 0 (#[.slice A6 n6 c6] : Array Value).toList) _ _ from HLP.out.sets1 KA10.out)
                    obtain ⟨wS12, hwS⟩ : ∃ wS, World.setCells wS11 (wc4.heap.size) 0 (#[.slice A6 n6 c6] : Array Value).toList = wS := ⟨_, rfl⟩
                    rw [hwS] at xK xB xA9 xHKP xHNP xHLP ⊢
                    replace HBW := Lib.hid xB
                    replace KA10 := Lib.hid xK
                    replace KA9 := Lib.hid xA9
                    replace HKP := Lib.hid xHKP
                    replace HNP := Lib.hid xHNP
                    replace HLP := Lib.hid xHLP
                    clear hwS xK xB xA9 xHKP xHNP xHLP
                    refine hK.out _ _ ?_ (fun hHeld => ?_)
                    · (try dsimp only)
                      exact ⟨(K5.out.belowS (bstep HBX.out HBW.out)).cellV (i := 0) rfl, (K5.out.belowS (bstep HBX.out HBW.out)).cellV (i := 1) rfl, (K6.out.belowS (bstep HBX.out HBW.out)).cellV (i := 0) rfl, (K6.out.belowS (bstep HBX.out HBW.out)).cellV (i := 1) rfl⟩
                    clear hK K
                    refine wpAnyH_done (by kernel_rfl) ?_ _
                    refine NoPanic.normal ?_
                    go_wp2_with fail
                    go_meet
                    exact ⟨_, _, A3, n3, c3, A4, n4, c4, A6, n6, c6, rfl, rfl, KA9.out, KA10.out, HKP.out, HLP.out, HBW.out⟩
                  ·
                    go_simp
                    have HN10_9 := Lib.hid (show wc4.heap.size ≠ wc4.heap.size + 1 from by have h := KA10.out.lt; rw [show ((wc4.alloc (.cells #[.slice none 0 0] 60))).heap.size = wc4.heap.size + 1 from (show ((wc4.alloc (.cells #[.slice none 0 0] 60))).heap.size = wc4.heap.size + 1 by simp)] at h; exact Nat.ne_of_lt h)
                    have KA9 := Lib.hid (show Blk ((wc4.alloc (.cells #[.slice none 0 0] 60)).alloc (.cells #[.int .u32 0, .slice none 0 0, .slice none 0 0] 93)) (wc4.heap.size + 1) 93 #[.int .u32 0, .slice none 0 0, .slice none 0 0] from by have h := Blk.new ((wc4.alloc (.cells #[.slice none 0 0] 60))) 93 #[.int .u32 0, .slice none 0 0, .slice none 0 0]; rw [show ((wc4.alloc (.cells #[.slice none 0 0] 60))).heap.size = wc4.heap.size + 1 from (show ((wc4.alloc (.cells #[.slice none 0 0] 60))).heap.size = wc4.heap.size + 1 by simp)] at h; exact h)
                    have HL9 := Lib.hid (show X26.heap.size ≤ wc4.heap.size + 1 from by have h := HBW.out.size; rw [show ((wc4.alloc (.cells #[.slice none 0 0] 60))).heap.size = wc4.heap.size + 1 from (show ((wc4.alloc (.cells #[.slice none 0 0] 60))).heap.size = wc4.heap.size + 1 by simp)] at h; exact h)
                    have hbA : Below (wc4.alloc (.cells #[.slice none 0 0] 60)).heap.size (wc4.alloc (.cells #[.slice none 0 0] 60)) (((wc4.alloc (.cells #[.slice none 0 0] 60)).alloc (.cells #[.int .u32 0, .slice none 0 0, .slice none 0 0] 93))) := bal (bre (wc4.alloc (.cells #[.slice none 0 0] 60))) (.cells #[.int .u32 0, .slice none 0 0, .slice none 0 0] 93)
                    replace HBW := Lib.hid (bstep HBW.out hbA)
                    replace KA10 := Lib.hid (KA10.out.belowS hbA)
                    replace HKP := Lib.hid (HKP.out.below hbA)
                    replace HNP := Lib.hid (HNP.out.below hbA)
                    clear hbA
                    refine hK.out _ _ ?_ (fun hHeld => ?_)
                    · (try dsimp only)
                      exact ⟨(K5.out.belowS (bstep HBX.out HBW.out)).cellV (i := 0) rfl, (K5.out.belowS (bstep HBX.out HBW.out)).cellV (i := 1) rfl, (K6.out.belowS (bstep HBX.out HBW.out)).cellV (i := 0) rfl, (K6.out.belowS (bstep HBX.out HBW.out)).cellV (i := 1) rfl⟩
                    clear hK K
                    refine wpAnyH_ready (rs := [8]) (by kernel_rfl) (by simp) ?_
                    refine AllReadyH.cons rfl (fun K hK => ?_) AllReadyH.nil
                    go_simp
                    refine (lostP_any i (HA.out.below (bstep HBX.out HBW.out)) (HC.out.below (bstep HBX.out HBW.out)) HI.out).mono ?_
                    rintro e wc8 ⟨u, rfl, hr, hbA⟩
                    obtain ⟨A6, n6, c6, rfl⟩ := hr.form
                    have HLP := Lib.hid hr
                    clear hr
                    replace HBW := Lib.hid (bstep HBW.out hbA)
                    replace KA10 := Lib.hid (KA10.out.belowS hbA)
                    replace KA9 := Lib.hid (KA9.out.belowS hbA)
                    replace HKP := Lib.hid (HKP.out.below hbA)
                    replace HNP := Lib.hid (HNP.out.below hbA)
                    clear hbA
                    go_simp
                    refine hK.out _ _ ?_ (fun hHeld => ?_)
                    · (try dsimp only)
                      exact ⟨(K5.out.belowS (bstep HBX.out HBW.out)).cellV (i := 0) rfl, (K5.out.belowS (bstep HBX.out HBW.out)).cellV (i := 1) rfl, (K6.out.belowS (bstep HBX.out HBW.out)).cellV (i := 0) rfl, (K6.out.belowS (bstep HBX.out HBW.out)).cellV (i := 1) rfl⟩
                    clear hK K
                    refine wpAnyH_ready (rs := [11]) (by kernel_rfl) (by simp) ?_
                    refine AllReadyH.cons rfl (fun K hK => ?_) AllReadyH.nil
                    refine Tr.wanted_plain rfl ?_
                    refine store_mid0 rfl 93 _ _ rfl (wc4.heap.size + 1) 0 #[.int .u32 i, .slice A3 n3 c3, .slice A4 n4 c4] (by rfl) (by rfl) (by have h := there_blk KA9.out; exact h) Tryz.sizeCh (by simp [Value.oneCell']) ?_
                    have xK := put3 (.int .u32 i) (.slice A3 n3 c3) (.slice A4 n4 c4) KA9.out
                    have xB := bsets HBW.out HL9.out (#[.int .u32 i, .slice A3 n3 c3, .slice A4 n4 c4] : Array Value).toList 0
                    have xA10 := KA10.out.farCells (HN10_9.out) (#[.int .u32 i, .slice A3 n3 c3, .slice A4 n4 c4] : Array Value).toList 0
                    have xHKP := (show RegP (World.setCells (wc8) (wc4.heap.size + 1) 0 (#[.int .u32 i, .slice A3 n3 c3, .slice A4 n4 c4] : Array Value).toList) _ _ from HKP.out.sets3 KA9.out)
                    have xHNP := (show RegP (World.setCells (wc8) (wc4.heap.size + 1) 0 (#[.int .u32 i, .slice A3 n3 c3, .slice A4 n4 c4] : Array Value).toList) _ _ from HNP.out.sets3 KA9.out)
                    have xHLP := (show RegP (World.setCells (wc8) (wc4.heap.size + 1) 0 (#[.int .u32 i, .slice A3 n3 c3, .slice A4 n4 c4] : Array Value).toList) _ _ from HLP.out.sets3 KA9.out)
                    obtain ⟨wS11, hwS⟩ : ∃ wS, World.setCells wc8 (wc4.heap.size + 1) 0 (#[.int .u32 i, .slice A3 n3 c3, .slice A4 n4 c4] : Array Value).toList = wS := ⟨_, rfl⟩
                    rw [hwS] at xK xB xA10 xHKP xHNP xHLP ⊢
                    replace HBW := Lib.hid xB
                    replace KA9 := Lib.hid xK
                    replace KA10 := Lib.hid xA10
                    replace HKP := Lib.hid xHKP
                    replace HNP := Lib.hid xHNP
                    replace HLP := Lib.hid xHLP
                    clear hwS xK xB xA10 xHKP xHNP xHLP
                    refine hK.out _ _ ?_ (fun hHeld => ?_)
                    · (try dsimp only)
                      exact ⟨(K5.out.belowS (bstep HBX.out HBW.out)).cellV (i := 0) rfl, (K5.out.belowS (bstep HBX.out HBW.out)).cellV (i := 1) rfl, (K6.out.belowS (bstep HBX.out HBW.out)).cellV (i := 0) rfl, (K6.out.belowS (bstep HBX.out HBW.out)).cellV (i := 1) rfl⟩
                    clear hK K
                    refine wpAnyH_ready (rs := [12]) (by kernel_rfl) (by simp) ?_
                    refine AllReadyH.cons rfl (fun K hK => ?_) AllReadyH.nil
                    refine Tr.wanted_plain rfl ?_
                    refine store_mid0 rfl 60 _ _ rfl (wc4.heap.size) 0 #[.slice A6 n6 c6] (by rfl) (by rfl) (by have h := there_blk KA10.out; exact h) Tryz.sizeRg (by simp [Value.oneCell']) ?_
                    have xK := blk_puts1 (.slice A6 n6 c6) KA10.out
                    have xB := bsets HBW.out HL10.out (#[.slice A6 n6 c6] : Array Value).toList 0
                    have xA9 := KA9.out.farCells (HN10_9.out.symm) (#[.slice A6 n6 c6] : Array Value).toList 0
                    have xHKP := (show RegP (World.setCells (wS11) (wc4.heap.size) 0 (#[.slice A6 n6 c6] : Array Value).toList) _ _ from HKP.out.sets1 KA10.out)
                    have xHNP := (show RegP (World.setCells (wS11) (wc4.heap.size) 0 (#[.slice A6 n6 c6] : Array Value).toList) _ _ from HNP.out.sets1 KA10.out)
                    have xHLP := (show RegP (World.setCells (wS11) (wc4.heap.size) 0 (#[.slice A6 n6 c6] : Array Value).toList) _ _ from HLP.out.sets1 KA10.out)
                    obtain ⟨wS12, hwS⟩ : ∃ wS, World.setCells wS11 (wc4.heap.size) 0 (#[.slice A6 n6 c6] : Array Value).toList = wS := ⟨_, rfl⟩
                    rw [hwS] at xK xB xA9 xHKP xHNP xHLP ⊢
                    replace HBW := Lib.hid xB
                    replace KA10 := Lib.hid xK
                    replace KA9 := Lib.hid xA9
                    replace HKP := Lib.hid xHKP
                    replace HNP := Lib.hid xHNP
                    replace HLP := Lib.hid xHLP
                    clear hwS xK xB xA9 xHKP xHNP xHLP
                    refine hK.out _ _ ?_ (fun hHeld => ?_)
                    · (try dsimp only)
                      exact ⟨(K5.out.belowS (bstep HBX.out HBW.out)).cellV (i := 0) rfl, (K5.out.belowS (bstep HBX.out HBW.out)).cellV (i := 1) rfl, (K6.out.belowS (bstep HBX.out HBW.out)).cellV (i := 0) rfl, (K6.out.belowS (bstep HBX.out HBW.out)).cellV (i := 1) rfl⟩
                    clear hK K
                    refine wpAnyH_done (by kernel_rfl) ?_ _
                    refine NoPanic.normal ?_
                    go_wp2_with fail
                    go_meet
                    exact ⟨_, _, A3, n3, c3, A4, n4, c4, A6, n6, c6, rfl, rfl, KA9.out, KA10.out, HKP.out, HLP.out, HBW.out⟩
              ·
                go_simp
                have KA9 := Lib.hid (show Blk (X26.alloc (.cells #[.int .u32 0, .slice none 0 0, .slice none 0 0] 93)).drew (X26.heap.size) 93 #[.int .u32 0, .slice none 0 0, .slice none 0 0] from Blk.new X26.drew 93 #[.int .u32 0, .slice none 0 0, .slice none 0 0])
                have HL9 := Lib.hid (show X26.heap.size ≤ X26.heap.size from HBW.out.size)
                have hbA : Below X26.drew.heap.size X26.drew ((X26.alloc (.cells #[.int .u32 0, .slice none 0 0, .slice none 0 0] 93)).drew) := bal (bre X26.drew) (.cells #[.int .u32 0, .slice none 0 0, .slice none 0 0] 93)
                replace HBW := Lib.hid (bstep HBW.out hbA)
                clear hbA
                refine hK.out _ _ ?_ (fun hHeld => ?_)
                · (try dsimp only)
                  exact ⟨(K5.out.belowS (bstep HBX.out HBW.out)).cellV (i := 0) rfl, (K5.out.belowS (bstep HBX.out HBW.out)).cellV (i := 1) rfl, (K6.out.belowS (bstep HBX.out HBW.out)).cellV (i := 0) rfl, (K6.out.belowS (bstep HBX.out HBW.out)).cellV (i := 1) rfl⟩
                clear hK K
                refine wpAnyH_ready (rs := [4, 10]) (by kernel_rfl) (by simp) ?_
                refine AllReadyH.cons rfl (fun K hK => ?_) (AllReadyH.cons rfl (fun K hK => ?_) AllReadyH.nil)
                ·
                  go_simp
                  refine (one_any i 0 0 false (HA.out.below (bstep HBX.out HBW.out)) (HC.out.below (bstep HBX.out HBW.out)) HI.out (by decide)).mono ?_
                  rintro e wc4 ⟨A3, n3, c3, A4, n4, c4, rfl, hk4, hn4, hbA⟩
                  have HKP := Lib.hid hk4
                  have HNP := Lib.hid hn4
                  clear hk4 hn4
                  replace HBW := Lib.hid (bstep HBW.out hbA)
                  replace KA9 := Lib.hid (KA9.out.belowS hbA)
                  clear hbA
                  go_simp
                  refine hK.out _ _ ?_ (fun hHeld => ?_)
                  · (try dsimp only)
                    exact ⟨(K5.out.belowS (bstep HBX.out HBW.out)).cellV (i := 0) rfl, (K5.out.belowS (bstep HBX.out HBW.out)).cellV (i := 1) rfl, (K6.out.belowS (bstep HBX.out HBW.out)).cellV (i := 0) rfl, (K6.out.belowS (bstep HBX.out HBW.out)).cellV (i := 1) rfl⟩
                  clear hK K
                  refine wpAnyH_ready (rs := [8, 10]) (by kernel_rfl) (by simp) ?_
                  refine AllReadyH.cons rfl (fun K hK => ?_) (AllReadyH.cons rfl (fun K hK => ?_) AllReadyH.nil)
                  ·
                    go_simp
                    refine (lostP_any i (HA.out.below (bstep HBX.out HBW.out)) (HC.out.below (bstep HBX.out HBW.out)) HI.out).mono ?_
                    rintro e wc8 ⟨u, rfl, hr, hbA⟩
                    obtain ⟨A6, n6, c6, rfl⟩ := hr.form
                    have HLP := Lib.hid hr
                    clear hr
                    replace HBW := Lib.hid (bstep HBW.out hbA)
                    replace KA9 := Lib.hid (KA9.out.belowS hbA)
                    replace HKP := Lib.hid (HKP.out.below hbA)
                    replace HNP := Lib.hid (HNP.out.below hbA)
                    clear hbA
                    go_simp
                    refine hK.out _ _ ?_ (fun hHeld => ?_)
                    · (try dsimp only)
                      exact ⟨(K5.out.belowS (bstep HBX.out HBW.out)).cellV (i := 0) rfl, (K5.out.belowS (bstep HBX.out HBW.out)).cellV (i := 1) rfl, (K6.out.belowS (bstep HBX.out HBW.out)).cellV (i := 0) rfl, (K6.out.belowS (bstep HBX.out HBW.out)).cellV (i := 1) rfl⟩
                    clear hK K
                    refine wpAnyH_ready (rs := [10]) (by kernel_rfl) (by simp) ?_
                    refine AllReadyH.cons rfl (fun K hK => ?_) AllReadyH.nil
                    go_simp
                    have HN9_10 := Lib.hid (Nat.ne_of_lt KA9.out.lt)
                    have KA10 := Lib.hid (show Blk (wc8.alloc (.cells #[.slice none 0 0] 60)) (wc8.heap.size) 60 #[.slice none 0 0] from Blk.new wc8 60 #[.slice none 0 0])
                    have HL10 := Lib.hid (show X26.heap.size ≤ wc8.heap.size from HBW.out.size)
                    have hbA : Below wc8.heap.size wc8 ((wc8.alloc (.cells #[.slice none 0 0] 60))) := bal (bre wc8) (.cells #[.slice none 0 0] 60)
                    replace HBW := Lib.hid (bstep HBW.out hbA)
                    replace KA9 := Lib.hid (KA9.out.belowS hbA)
                    replace HKP := Lib.hid (HKP.out.below hbA)
                    replace HNP := Lib.hid (HNP.out.below hbA)
                    replace HLP := Lib.hid (HLP.out.below hbA)
                    clear hbA
                    refine hK.out _ _ ?_ (fun hHeld => ?_)
                    · (try dsimp only)
                      exact ⟨(K5.out.belowS (bstep HBX.out HBW.out)).cellV (i := 0) rfl, (K5.out.belowS (bstep HBX.out HBW.out)).cellV (i := 1) rfl, (K6.out.belowS (bstep HBX.out HBW.out)).cellV (i := 0) rfl, (K6.out.belowS (bstep HBX.out HBW.out)).cellV (i := 1) rfl⟩
                    clear hK K
                    refine wpAnyH_ready (rs := [11]) (by kernel_rfl) (by simp) ?_
                    refine AllReadyH.cons rfl (fun K hK => ?_) AllReadyH.nil
                    refine Tr.wanted_plain rfl ?_
                    refine store_mid0 rfl 93 _ _ rfl (X26.heap.size) 0 #[.int .u32 i, .slice A3 n3 c3, .slice A4 n4 c4] (by rfl) (by rfl) (by have h := there_blk KA9.out; exact h) Tryz.sizeCh (by simp [Value.oneCell']) ?_
                    have xK := put3 (.int .u32 i) (.slice A3 n3 c3) (.slice A4 n4 c4) KA9.out
                    have xB := bsets HBW.out HL9.out (#[.int .u32 i, .slice A3 n3 c3, .slice A4 n4 c4] : Array Value).toList 0
                    have xA10 := KA10.out.farCells (HN9_10.out.symm) (#[.int .u32 i, .slice A3 n3 c3, .slice A4 n4 c4] : Array Value).toList 0
                    have xHKP := (show RegP (World.setCells (wc8.alloc (.cells #[.slice none 0 0] 60)) (X26.heap.size) 0 (#[.int .u32 i, .slice A3 n3 c3, .slice A4 n4 c4] : Array Value).toList) _ _ from HKP.out.sets3 KA9.out)
                    have xHNP := (show RegP (World.setCells (wc8.alloc (.cells #[.slice none 0 0] 60)) (X26.heap.size) 0 (#[.int .u32 i, .slice A3 n3 c3, .slice A4 n4 c4] : Array Value).toList) _ _ from HNP.out.sets3 KA9.out)
                    have xHLP := (show RegP (World.setCells (wc8.alloc (.cells #[.slice none 0 0] 60)) (X26.heap.size) 0 (#[.int .u32 i, .slice A3 n3 c3, .slice A4 n4 c4] : Array Value).toList) _ _ from HLP.out.sets3 KA9.out)
                    obtain ⟨wS11, hwS⟩ : ∃ wS, World.setCells (wc8.alloc (.cells #[.slice none 0 0] 60)) (X26.heap.size) 0 (#[.int .u32 i, .slice A3 n3 c3, .slice A4 n4 c4] : Array Value).toList = wS := ⟨_, rfl⟩
                    rw [hwS] at xK xB xA10 xHKP xHNP xHLP ⊢
                    replace HBW := Lib.hid xB
                    replace KA9 := Lib.hid xK
                    replace KA10 := Lib.hid xA10
                    replace HKP := Lib.hid xHKP
                    replace HNP := Lib.hid xHNP
                    replace HLP := Lib.hid xHLP
                    clear hwS xK xB xA10 xHKP xHNP xHLP
                    refine hK.out _ _ ?_ (fun hHeld => ?_)
                    · (try dsimp only)
                      exact ⟨(K5.out.belowS (bstep HBX.out HBW.out)).cellV (i := 0) rfl, (K5.out.belowS (bstep HBX.out HBW.out)).cellV (i := 1) rfl, (K6.out.belowS (bstep HBX.out HBW.out)).cellV (i := 0) rfl, (K6.out.belowS (bstep HBX.out HBW.out)).cellV (i := 1) rfl⟩
                    clear hK K
                    refine wpAnyH_ready (rs := [12]) (by kernel_rfl) (by simp) ?_
                    refine AllReadyH.cons rfl (fun K hK => ?_) AllReadyH.nil
                    refine Tr.wanted_plain rfl ?_
                    refine store_mid0 rfl 60 _ _ rfl (wc8.heap.size) 0 #[.slice A6 n6 c6] (by rfl) (by rfl) (by have h := there_blk KA10.out; exact h) Tryz.sizeRg (by simp [Value.oneCell']) ?_
                    have xK := blk_puts1 (.slice A6 n6 c6) KA10.out
                    have xB := bsets HBW.out HL10.out (#[.slice A6 n6 c6] : Array Value).toList 0
                    have xA9 := KA9.out.farCells (HN9_10.out) (#[.slice A6 n6 c6] : Array Value).toList 0
                    have xHKP := (show RegP (World.setCells (wS11) (wc8.heap.size) 0 (#[.slice A6 n6 c6] : Array Value).toList) _ _ from HKP.out.sets1 KA10.out)
                    have xHNP := (show RegP (World.setCells (wS11) (wc8.heap.size) 0 (#[.slice A6 n6 c6] : Array Value).toList) _ _ from HNP.out.sets1 KA10.out)
                    have xHLP := (show RegP (World.setCells (wS11) (wc8.heap.size) 0 (#[.slice A6 n6 c6] : Array Value).toList) _ _ from HLP.out.sets1 KA10.out)
                    obtain ⟨wS12, hwS⟩ : ∃ wS, World.setCells wS11 (wc8.heap.size) 0 (#[.slice A6 n6 c6] : Array Value).toList = wS := ⟨_, rfl⟩
                    rw [hwS] at xK xB xA9 xHKP xHNP xHLP ⊢
                    replace HBW := Lib.hid xB
                    replace KA10 := Lib.hid xK
                    replace KA9 := Lib.hid xA9
                    replace HKP := Lib.hid xHKP
                    replace HNP := Lib.hid xHNP
                    replace HLP := Lib.hid xHLP
                    clear hwS xK xB xA9 xHKP xHNP xHLP
                    refine hK.out _ _ ?_ (fun hHeld => ?_)
                    · (try dsimp only)
                      exact ⟨(K5.out.belowS (bstep HBX.out HBW.out)).cellV (i := 0) rfl, (K5.out.belowS (bstep HBX.out HBW.out)).cellV (i := 1) rfl, (K6.out.belowS (bstep HBX.out HBW.out)).cellV (i := 0) rfl, (K6.out.belowS (bstep HBX.out HBW.out)).cellV (i := 1) rfl⟩
                    clear hK K
                    refine wpAnyH_done (by kernel_rfl) ?_ _
                    refine NoPanic.normal ?_
                    go_wp2_with fail
                    go_meet
                    exact ⟨_, _, A3, n3, c3, A4, n4, c4, A6, n6, c6, rfl, rfl, KA9.out, KA10.out, HKP.out, HLP.out, HBW.out⟩
                  ·
                    go_simp
                    have HN9_10 := Lib.hid (Nat.ne_of_lt KA9.out.lt)
                    have KA10 := Lib.hid (show Blk (wc4.alloc (.cells #[.slice none 0 0] 60)) (wc4.heap.size) 60 #[.slice none 0 0] from Blk.new wc4 60 #[.slice none 0 0])
                    have HL10 := Lib.hid (show X26.heap.size ≤ wc4.heap.size from HBW.out.size)
                    have hbA : Below wc4.heap.size wc4 ((wc4.alloc (.cells #[.slice none 0 0] 60))) := bal (bre wc4) (.cells #[.slice none 0 0] 60)
                    replace HBW := Lib.hid (bstep HBW.out hbA)
                    replace KA9 := Lib.hid (KA9.out.belowS hbA)
                    replace HKP := Lib.hid (HKP.out.below hbA)
                    replace HNP := Lib.hid (HNP.out.below hbA)
                    clear hbA
                    refine hK.out _ _ ?_ (fun hHeld => ?_)
                    · (try dsimp only)
                      exact ⟨(K5.out.belowS (bstep HBX.out HBW.out)).cellV (i := 0) rfl, (K5.out.belowS (bstep HBX.out HBW.out)).cellV (i := 1) rfl, (K6.out.belowS (bstep HBX.out HBW.out)).cellV (i := 0) rfl, (K6.out.belowS (bstep HBX.out HBW.out)).cellV (i := 1) rfl⟩
                    clear hK K
                    refine wpAnyH_ready (rs := [8]) (by kernel_rfl) (by simp) ?_
                    refine AllReadyH.cons rfl (fun K hK => ?_) AllReadyH.nil
                    go_simp
                    refine (lostP_any i (HA.out.below (bstep HBX.out HBW.out)) (HC.out.below (bstep HBX.out HBW.out)) HI.out).mono ?_
                    rintro e wc8 ⟨u, rfl, hr, hbA⟩
                    obtain ⟨A6, n6, c6, rfl⟩ := hr.form
                    have HLP := Lib.hid hr
                    clear hr
                    replace HBW := Lib.hid (bstep HBW.out hbA)
                    replace KA9 := Lib.hid (KA9.out.belowS hbA)
                    replace KA10 := Lib.hid (KA10.out.belowS hbA)
                    replace HKP := Lib.hid (HKP.out.below hbA)
                    replace HNP := Lib.hid (HNP.out.below hbA)
                    clear hbA
                    go_simp
                    refine hK.out _ _ ?_ (fun hHeld => ?_)
                    · (try dsimp only)
                      exact ⟨(K5.out.belowS (bstep HBX.out HBW.out)).cellV (i := 0) rfl, (K5.out.belowS (bstep HBX.out HBW.out)).cellV (i := 1) rfl, (K6.out.belowS (bstep HBX.out HBW.out)).cellV (i := 0) rfl, (K6.out.belowS (bstep HBX.out HBW.out)).cellV (i := 1) rfl⟩
                    clear hK K
                    refine wpAnyH_ready (rs := [11]) (by kernel_rfl) (by simp) ?_
                    refine AllReadyH.cons rfl (fun K hK => ?_) AllReadyH.nil
                    refine Tr.wanted_plain rfl ?_
                    refine store_mid0 rfl 93 _ _ rfl (X26.heap.size) 0 #[.int .u32 i, .slice A3 n3 c3, .slice A4 n4 c4] (by rfl) (by rfl) (by have h := there_blk KA9.out; exact h) Tryz.sizeCh (by simp [Value.oneCell']) ?_
                    have xK := put3 (.int .u32 i) (.slice A3 n3 c3) (.slice A4 n4 c4) KA9.out
                    have xB := bsets HBW.out HL9.out (#[.int .u32 i, .slice A3 n3 c3, .slice A4 n4 c4] : Array Value).toList 0
                    have xA10 := KA10.out.farCells (HN9_10.out.symm) (#[.int .u32 i, .slice A3 n3 c3, .slice A4 n4 c4] : Array Value).toList 0
                    have xHKP := (show RegP (World.setCells (wc8) (X26.heap.size) 0 (#[.int .u32 i, .slice A3 n3 c3, .slice A4 n4 c4] : Array Value).toList) _ _ from HKP.out.sets3 KA9.out)
                    have xHNP := (show RegP (World.setCells (wc8) (X26.heap.size) 0 (#[.int .u32 i, .slice A3 n3 c3, .slice A4 n4 c4] : Array Value).toList) _ _ from HNP.out.sets3 KA9.out)
                    have xHLP := (show RegP (World.setCells (wc8) (X26.heap.size) 0 (#[.int .u32 i, .slice A3 n3 c3, .slice A4 n4 c4] : Array Value).toList) _ _ from HLP.out.sets3 KA9.out)
                    obtain ⟨wS11, hwS⟩ : ∃ wS, World.setCells wc8 (X26.heap.size) 0 (#[.int .u32 i, .slice A3 n3 c3, .slice A4 n4 c4] : Array Value).toList = wS := ⟨_, rfl⟩
                    rw [hwS] at xK xB xA10 xHKP xHNP xHLP ⊢
                    replace HBW := Lib.hid xB
                    replace KA9 := Lib.hid xK
                    replace KA10 := Lib.hid xA10
                    replace HKP := Lib.hid xHKP
                    replace HNP := Lib.hid xHNP
                    replace HLP := Lib.hid xHLP
                    clear hwS xK xB xA10 xHKP xHNP xHLP
                    refine hK.out _ _ ?_ (fun hHeld => ?_)
                    · (try dsimp only)
                      exact ⟨(K5.out.belowS (bstep HBX.out HBW.out)).cellV (i := 0) rfl, (K5.out.belowS (bstep HBX.out HBW.out)).cellV (i := 1) rfl, (K6.out.belowS (bstep HBX.out HBW.out)).cellV (i := 0) rfl, (K6.out.belowS (bstep HBX.out HBW.out)).cellV (i := 1) rfl⟩
                    clear hK K
                    refine wpAnyH_ready (rs := [12]) (by kernel_rfl) (by simp) ?_
                    refine AllReadyH.cons rfl (fun K hK => ?_) AllReadyH.nil
                    refine Tr.wanted_plain rfl ?_
                    refine store_mid0 rfl 60 _ _ rfl (wc4.heap.size) 0 #[.slice A6 n6 c6] (by rfl) (by rfl) (by have h := there_blk KA10.out; exact h) Tryz.sizeRg (by simp [Value.oneCell']) ?_
                    have xK := blk_puts1 (.slice A6 n6 c6) KA10.out
                    have xB := bsets HBW.out HL10.out (#[.slice A6 n6 c6] : Array Value).toList 0
                    have xA9 := KA9.out.farCells (HN9_10.out) (#[.slice A6 n6 c6] : Array Value).toList 0
                    have xHKP := (show RegP (World.setCells (wS11) (wc4.heap.size) 0 (#[.slice A6 n6 c6] : Array Value).toList) _ _ from HKP.out.sets1 KA10.out)
                    have xHNP := (show RegP (World.setCells (wS11) (wc4.heap.size) 0 (#[.slice A6 n6 c6] : Array Value).toList) _ _ from HNP.out.sets1 KA10.out)
                    have xHLP := (show RegP (World.setCells (wS11) (wc4.heap.size) 0 (#[.slice A6 n6 c6] : Array Value).toList) _ _ from HLP.out.sets1 KA10.out)
                    obtain ⟨wS12, hwS⟩ : ∃ wS, World.setCells wS11 (wc4.heap.size) 0 (#[.slice A6 n6 c6] : Array Value).toList = wS := ⟨_, rfl⟩
                    rw [hwS] at xK xB xA9 xHKP xHNP xHLP ⊢
                    replace HBW := Lib.hid xB
                    replace KA10 := Lib.hid xK
                    replace KA9 := Lib.hid xA9
                    replace HKP := Lib.hid xHKP
                    replace HNP := Lib.hid xHNP
                    replace HLP := Lib.hid xHLP
                    clear hwS xK xB xA9 xHKP xHNP xHLP
                    refine hK.out _ _ ?_ (fun hHeld => ?_)
                    · (try dsimp only)
                      exact ⟨(K5.out.belowS (bstep HBX.out HBW.out)).cellV (i := 0) rfl, (K5.out.belowS (bstep HBX.out HBW.out)).cellV (i := 1) rfl, (K6.out.belowS (bstep HBX.out HBW.out)).cellV (i := 0) rfl, (K6.out.belowS (bstep HBX.out HBW.out)).cellV (i := 1) rfl⟩
                    clear hK K
                    refine wpAnyH_done (by kernel_rfl) ?_ _
                    refine NoPanic.normal ?_
                    go_wp2_with fail
                    go_meet
                    exact ⟨_, _, A3, n3, c3, A4, n4, c4, A6, n6, c6, rfl, rfl, KA9.out, KA10.out, HKP.out, HLP.out, HBW.out⟩
                ·
                  go_simp
                  have HN9_10 := Lib.hid (show X26.heap.size ≠ X26.heap.size + 1 from by have h := KA9.out.lt; rw [show ((X26.alloc (.cells #[.int .u32 0, .slice none 0 0, .slice none 0 0] 93)).drew).heap.size = X26.heap.size + 1 from (show ((X26.alloc (.cells #[.int .u32 0, .slice none 0 0, .slice none 0 0] 93))).heap.size = X26.heap.size + 1 by simp)] at h; exact Nat.ne_of_lt h)
                  have KA10 := Lib.hid (show Blk ((X26.alloc (.cells #[.int .u32 0, .slice none 0 0, .slice none 0 0] 93)).alloc (.cells #[.slice none 0 0] 60)).drew (X26.heap.size + 1) 60 #[.slice none 0 0] from by have h := Blk.new ((X26.alloc (.cells #[.int .u32 0, .slice none 0 0, .slice none 0 0] 93)).drew) 60 #[.slice none 0 0]; rw [show ((X26.alloc (.cells #[.int .u32 0, .slice none 0 0, .slice none 0 0] 93)).drew).heap.size = X26.heap.size + 1 from (show ((X26.alloc (.cells #[.int .u32 0, .slice none 0 0, .slice none 0 0] 93))).heap.size = X26.heap.size + 1 by simp)] at h; exact h)
                  have HL10 := Lib.hid (show X26.heap.size ≤ X26.heap.size + 1 from by have h := HBW.out.size; rw [show ((X26.alloc (.cells #[.int .u32 0, .slice none 0 0, .slice none 0 0] 93)).drew).heap.size = X26.heap.size + 1 from (show ((X26.alloc (.cells #[.int .u32 0, .slice none 0 0, .slice none 0 0] 93))).heap.size = X26.heap.size + 1 by simp)] at h; exact h)
                  have hbA : Below (X26.alloc (.cells #[.int .u32 0, .slice none 0 0, .slice none 0 0] 93)).drew.heap.size (X26.alloc (.cells #[.int .u32 0, .slice none 0 0, .slice none 0 0] 93)).drew (((X26.alloc (.cells #[.int .u32 0, .slice none 0 0, .slice none 0 0] 93)).alloc (.cells #[.slice none 0 0] 60)).drew) := bal (bre (X26.alloc (.cells #[.int .u32 0, .slice none 0 0, .slice none 0 0] 93)).drew) (.cells #[.slice none 0 0] 60)
                  replace HBW := Lib.hid (bstep HBW.out hbA)
                  replace KA9 := Lib.hid (KA9.out.belowS hbA)
                  clear hbA
                  refine hK.out _ _ ?_ (fun hHeld => ?_)
                  · (try dsimp only)
                    exact ⟨(K5.out.belowS (bstep HBX.out HBW.out)).cellV (i := 0) rfl, (K5.out.belowS (bstep HBX.out HBW.out)).cellV (i := 1) rfl, (K6.out.belowS (bstep HBX.out HBW.out)).cellV (i := 0) rfl, (K6.out.belowS (bstep HBX.out HBW.out)).cellV (i := 1) rfl⟩
                  clear hK K
                  refine wpAnyH_ready (rs := [4]) (by kernel_rfl) (by simp) ?_
                  refine AllReadyH.cons rfl (fun K hK => ?_) AllReadyH.nil
                  go_simp
                  refine (one_any i 0 0 false (HA.out.below (bstep HBX.out HBW.out)) (HC.out.below (bstep HBX.out HBW.out)) HI.out (by decide)).mono ?_
                  rintro e wc4 ⟨A3, n3, c3, A4, n4, c4, rfl, hk4, hn4, hbA⟩
                  have HKP := Lib.hid hk4
                  have HNP := Lib.hid hn4
                  clear hk4 hn4
                  replace HBW := Lib.hid (bstep HBW.out hbA)
                  replace KA9 := Lib.hid (KA9.out.belowS hbA)
                  replace KA10 := Lib.hid (KA10.out.belowS hbA)
                  clear hbA
                  go_simp
                  refine hK.out _ _ ?_ (fun hHeld => ?_)
                  · (try dsimp only)
                    exact ⟨(K5.out.belowS (bstep HBX.out HBW.out)).cellV (i := 0) rfl, (K5.out.belowS (bstep HBX.out HBW.out)).cellV (i := 1) rfl, (K6.out.belowS (bstep HBX.out HBW.out)).cellV (i := 0) rfl, (K6.out.belowS (bstep HBX.out HBW.out)).cellV (i := 1) rfl⟩
                  clear hK K
                  refine wpAnyH_ready (rs := [8]) (by kernel_rfl) (by simp) ?_
                  refine AllReadyH.cons rfl (fun K hK => ?_) AllReadyH.nil
                  go_simp
                  refine (lostP_any i (HA.out.below (bstep HBX.out HBW.out)) (HC.out.below (bstep HBX.out HBW.out)) HI.out).mono ?_
                  rintro e wc8 ⟨u, rfl, hr, hbA⟩
                  obtain ⟨A6, n6, c6, rfl⟩ := hr.form
                  have HLP := Lib.hid hr
                  clear hr
                  replace HBW := Lib.hid (bstep HBW.out hbA)
                  replace KA9 := Lib.hid (KA9.out.belowS hbA)
                  replace KA10 := Lib.hid (KA10.out.belowS hbA)
                  replace HKP := Lib.hid (HKP.out.below hbA)
                  replace HNP := Lib.hid (HNP.out.below hbA)
                  clear hbA
                  go_simp
                  refine hK.out _ _ ?_ (fun hHeld => ?_)
                  · (try dsimp only)
                    exact ⟨(K5.out.belowS (bstep HBX.out HBW.out)).cellV (i := 0) rfl, (K5.out.belowS (bstep HBX.out HBW.out)).cellV (i := 1) rfl, (K6.out.belowS (bstep HBX.out HBW.out)).cellV (i := 0) rfl, (K6.out.belowS (bstep HBX.out HBW.out)).cellV (i := 1) rfl⟩
                  clear hK K
                  refine wpAnyH_ready (rs := [11]) (by kernel_rfl) (by simp) ?_
                  refine AllReadyH.cons rfl (fun K hK => ?_) AllReadyH.nil
                  refine Tr.wanted_plain rfl ?_
                  refine store_mid0 rfl 93 _ _ rfl (X26.heap.size) 0 #[.int .u32 i, .slice A3 n3 c3, .slice A4 n4 c4] (by rfl) (by rfl) (by have h := there_blk KA9.out; exact h) Tryz.sizeCh (by simp [Value.oneCell']) ?_
                  have xK := put3 (.int .u32 i) (.slice A3 n3 c3) (.slice A4 n4 c4) KA9.out
                  have xB := bsets HBW.out HL9.out (#[.int .u32 i, .slice A3 n3 c3, .slice A4 n4 c4] : Array Value).toList 0
                  have xA10 := KA10.out.farCells (HN9_10.out.symm) (#[.int .u32 i, .slice A3 n3 c3, .slice A4 n4 c4] : Array Value).toList 0
                  have xHKP := (show RegP (World.setCells (wc8) (X26.heap.size) 0 (#[.int .u32 i, .slice A3 n3 c3, .slice A4 n4 c4] : Array Value).toList) _ _ from HKP.out.sets3 KA9.out)
                  have xHNP := (show RegP (World.setCells (wc8) (X26.heap.size) 0 (#[.int .u32 i, .slice A3 n3 c3, .slice A4 n4 c4] : Array Value).toList) _ _ from HNP.out.sets3 KA9.out)
                  have xHLP := (show RegP (World.setCells (wc8) (X26.heap.size) 0 (#[.int .u32 i, .slice A3 n3 c3, .slice A4 n4 c4] : Array Value).toList) _ _ from HLP.out.sets3 KA9.out)
                  obtain ⟨wS11, hwS⟩ : ∃ wS, World.setCells wc8 (X26.heap.size) 0 (#[.int .u32 i, .slice A3 n3 c3, .slice A4 n4 c4] : Array Value).toList = wS := ⟨_, rfl⟩
                  rw [hwS] at xK xB xA10 xHKP xHNP xHLP ⊢
                  replace HBW := Lib.hid xB
                  replace KA9 := Lib.hid xK
                  replace KA10 := Lib.hid xA10
                  replace HKP := Lib.hid xHKP
                  replace HNP := Lib.hid xHNP
                  replace HLP := Lib.hid xHLP
                  clear hwS xK xB xA10 xHKP xHNP xHLP
                  refine hK.out _ _ ?_ (fun hHeld => ?_)
                  · (try dsimp only)
                    exact ⟨(K5.out.belowS (bstep HBX.out HBW.out)).cellV (i := 0) rfl, (K5.out.belowS (bstep HBX.out HBW.out)).cellV (i := 1) rfl, (K6.out.belowS (bstep HBX.out HBW.out)).cellV (i := 0) rfl, (K6.out.belowS (bstep HBX.out HBW.out)).cellV (i := 1) rfl⟩
                  clear hK K
                  refine wpAnyH_ready (rs := [12]) (by kernel_rfl) (by simp) ?_
                  refine AllReadyH.cons rfl (fun K hK => ?_) AllReadyH.nil
                  refine Tr.wanted_plain rfl ?_
                  refine store_mid0 rfl 60 _ _ rfl (X26.heap.size + 1) 0 #[.slice A6 n6 c6] (by rfl) (by rfl) (by have h := there_blk KA10.out; exact h) Tryz.sizeRg (by simp [Value.oneCell']) ?_
                  have xK := blk_puts1 (.slice A6 n6 c6) KA10.out
                  have xB := bsets HBW.out HL10.out (#[.slice A6 n6 c6] : Array Value).toList 0
                  have xA9 := KA9.out.farCells (HN9_10.out) (#[.slice A6 n6 c6] : Array Value).toList 0
                  have xHKP := (show RegP (World.setCells (wS11) (X26.heap.size + 1) 0 (#[.slice A6 n6 c6] : Array Value).toList) _ _ from HKP.out.sets1 KA10.out)
                  have xHNP := (show RegP (World.setCells (wS11) (X26.heap.size + 1) 0 (#[.slice A6 n6 c6] : Array Value).toList) _ _ from HNP.out.sets1 KA10.out)
                  have xHLP := (show RegP (World.setCells (wS11) (X26.heap.size + 1) 0 (#[.slice A6 n6 c6] : Array Value).toList) _ _ from HLP.out.sets1 KA10.out)
                  obtain ⟨wS12, hwS⟩ : ∃ wS, World.setCells wS11 (X26.heap.size + 1) 0 (#[.slice A6 n6 c6] : Array Value).toList = wS := ⟨_, rfl⟩
                  rw [hwS] at xK xB xA9 xHKP xHNP xHLP ⊢
                  replace HBW := Lib.hid xB
                  replace KA10 := Lib.hid xK
                  replace KA9 := Lib.hid xA9
                  replace HKP := Lib.hid xHKP
                  replace HNP := Lib.hid xHNP
                  replace HLP := Lib.hid xHLP
                  clear hwS xK xB xA9 xHKP xHNP xHLP
                  refine hK.out _ _ ?_ (fun hHeld => ?_)
                  · (try dsimp only)
                    exact ⟨(K5.out.belowS (bstep HBX.out HBW.out)).cellV (i := 0) rfl, (K5.out.belowS (bstep HBX.out HBW.out)).cellV (i := 1) rfl, (K6.out.belowS (bstep HBX.out HBW.out)).cellV (i := 0) rfl, (K6.out.belowS (bstep HBX.out HBW.out)).cellV (i := 1) rfl⟩
                  clear hK K
                  refine wpAnyH_done (by kernel_rfl) ?_ _
                  refine NoPanic.normal ?_
                  go_wp2_with fail
                  go_meet
                  exact ⟨_, _, A3, n3, c3, A4, n4, c4, A6, n6, c6, rfl, rfl, KA9.out, KA10.out, HKP.out, HLP.out, HBW.out⟩
              ·
                go_simp
                have KA10 := Lib.hid (show Blk (X26.alloc (.cells #[.slice none 0 0] 60)).drew (X26.heap.size) 60 #[.slice none 0 0] from Blk.new X26.drew 60 #[.slice none 0 0])
                have HL10 := Lib.hid (show X26.heap.size ≤ X26.heap.size from HBW.out.size)
                have hbA : Below X26.drew.heap.size X26.drew ((X26.alloc (.cells #[.slice none 0 0] 60)).drew) := bal (bre X26.drew) (.cells #[.slice none 0 0] 60)
                replace HBW := Lib.hid (bstep HBW.out hbA)
                clear hbA
                refine hK.out _ _ ?_ (fun hHeld => ?_)
                · (try dsimp only)
                  exact ⟨(K5.out.belowS (bstep HBX.out HBW.out)).cellV (i := 0) rfl, (K5.out.belowS (bstep HBX.out HBW.out)).cellV (i := 1) rfl, (K6.out.belowS (bstep HBX.out HBW.out)).cellV (i := 0) rfl, (K6.out.belowS (bstep HBX.out HBW.out)).cellV (i := 1) rfl⟩
                clear hK K
                refine wpAnyH_ready (rs := [4, 9]) (by kernel_rfl) (by simp) ?_
                refine AllReadyH.cons rfl (fun K hK => ?_) (AllReadyH.cons rfl (fun K hK => ?_) AllReadyH.nil)
                ·
                  go_simp
                  refine (one_any i 0 0 false (HA.out.below (bstep HBX.out HBW.out)) (HC.out.below (bstep HBX.out HBW.out)) HI.out (by decide)).mono ?_
                  rintro e wc4 ⟨A3, n3, c3, A4, n4, c4, rfl, hk4, hn4, hbA⟩
                  have HKP := Lib.hid hk4
                  have HNP := Lib.hid hn4
                  clear hk4 hn4
                  replace HBW := Lib.hid (bstep HBW.out hbA)
                  replace KA10 := Lib.hid (KA10.out.belowS hbA)
                  clear hbA
                  go_simp
                  refine hK.out _ _ ?_ (fun hHeld => ?_)
                  · (try dsimp only)
                    exact ⟨(K5.out.belowS (bstep HBX.out HBW.out)).cellV (i := 0) rfl, (K5.out.belowS (bstep HBX.out HBW.out)).cellV (i := 1) rfl, (K6.out.belowS (bstep HBX.out HBW.out)).cellV (i := 0) rfl, (K6.out.belowS (bstep HBX.out HBW.out)).cellV (i := 1) rfl⟩
                  clear hK K
                  refine wpAnyH_ready (rs := [8, 9]) (by kernel_rfl) (by simp) ?_
                  refine AllReadyH.cons rfl (fun K hK => ?_) (AllReadyH.cons rfl (fun K hK => ?_) AllReadyH.nil)
                  ·
                    go_simp
                    refine (lostP_any i (HA.out.below (bstep HBX.out HBW.out)) (HC.out.below (bstep HBX.out HBW.out)) HI.out).mono ?_
                    rintro e wc8 ⟨u, rfl, hr, hbA⟩
                    obtain ⟨A6, n6, c6, rfl⟩ := hr.form
                    have HLP := Lib.hid hr
                    clear hr
                    replace HBW := Lib.hid (bstep HBW.out hbA)
                    replace KA10 := Lib.hid (KA10.out.belowS hbA)
                    replace HKP := Lib.hid (HKP.out.below hbA)
                    replace HNP := Lib.hid (HNP.out.below hbA)
                    clear hbA
                    go_simp
                    refine hK.out _ _ ?_ (fun hHeld => ?_)
                    · (try dsimp only)
                      exact ⟨(K5.out.belowS (bstep HBX.out HBW.out)).cellV (i := 0) rfl, (K5.out.belowS (bstep HBX.out HBW.out)).cellV (i := 1) rfl, (K6.out.belowS (bstep HBX.out HBW.out)).cellV (i := 0) rfl, (K6.out.belowS (bstep HBX.out HBW.out)).cellV (i := 1) rfl⟩
                    clear hK K
                    refine wpAnyH_ready (rs := [9]) (by kernel_rfl) (by simp) ?_
                    refine AllReadyH.cons rfl (fun K hK => ?_) AllReadyH.nil
                    go_simp
                    have HN10_9 := Lib.hid (Nat.ne_of_lt KA10.out.lt)
                    have KA9 := Lib.hid (show Blk (wc8.alloc (.cells #[.int .u32 0, .slice none 0 0, .slice none 0 0] 93)) (wc8.heap.size) 93 #[.int .u32 0, .slice none 0 0, .slice none 0 0] from Blk.new wc8 93 #[.int .u32 0, .slice none 0 0, .slice none 0 0])
                    have HL9 := Lib.hid (show X26.heap.size ≤ wc8.heap.size from HBW.out.size)
                    have hbA : Below wc8.heap.size wc8 ((wc8.alloc (.cells #[.int .u32 0, .slice none 0 0, .slice none 0 0] 93))) := bal (bre wc8) (.cells #[.int .u32 0, .slice none 0 0, .slice none 0 0] 93)
                    replace HBW := Lib.hid (bstep HBW.out hbA)
                    replace KA10 := Lib.hid (KA10.out.belowS hbA)
                    replace HKP := Lib.hid (HKP.out.below hbA)
                    replace HNP := Lib.hid (HNP.out.below hbA)
                    replace HLP := Lib.hid (HLP.out.below hbA)
                    clear hbA
                    refine hK.out _ _ ?_ (fun hHeld => ?_)
                    · (try dsimp only)
                      exact ⟨(K5.out.belowS (bstep HBX.out HBW.out)).cellV (i := 0) rfl, (K5.out.belowS (bstep HBX.out HBW.out)).cellV (i := 1) rfl, (K6.out.belowS (bstep HBX.out HBW.out)).cellV (i := 0) rfl, (K6.out.belowS (bstep HBX.out HBW.out)).cellV (i := 1) rfl⟩
                    clear hK K
                    refine wpAnyH_ready (rs := [11]) (by kernel_rfl) (by simp) ?_
                    refine AllReadyH.cons rfl (fun K hK => ?_) AllReadyH.nil
                    refine Tr.wanted_plain rfl ?_
                    refine store_mid0 rfl 93 _ _ rfl (wc8.heap.size) 0 #[.int .u32 i, .slice A3 n3 c3, .slice A4 n4 c4] (by rfl) (by rfl) (by have h := there_blk KA9.out; exact h) Tryz.sizeCh (by simp [Value.oneCell']) ?_
                    have xK := put3 (.int .u32 i) (.slice A3 n3 c3) (.slice A4 n4 c4) KA9.out
                    have xB := bsets HBW.out HL9.out (#[.int .u32 i, .slice A3 n3 c3, .slice A4 n4 c4] : Array Value).toList 0
                    have xA10 := KA10.out.farCells (HN10_9.out) (#[.int .u32 i, .slice A3 n3 c3, .slice A4 n4 c4] : Array Value).toList 0
                    have xHKP := (show RegP (World.setCells (wc8.alloc (.cells #[.int .u32 0, .slice none 0 0, .slice none 0 0] 93)) (wc8.heap.size) 0 (#[.int .u32 i, .slice A3 n3 c3, .slice A4 n4 c4] : Array Value).toList) _ _ from HKP.out.sets3 KA9.out)
                    have xHNP := (show RegP (World.setCells (wc8.alloc (.cells #[.int .u32 0, .slice none 0 0, .slice none 0 0] 93)) (wc8.heap.size) 0 (#[.int .u32 i, .slice A3 n3 c3, .slice A4 n4 c4] : Array Value).toList) _ _ from HNP.out.sets3 KA9.out)
                    have xHLP := (show RegP (World.setCells (wc8.alloc (.cells #[.int .u32 0, .slice none 0 0, .slice none 0 0] 93)) (wc8.heap.size) 0 (#[.int .u32 i, .slice A3 n3 c3, .slice A4 n4 c4] : Array Value).toList) _ _ from HLP.out.sets3 KA9.out)
                    obtain ⟨wS11, hwS⟩ : ∃ wS, World.setCells (wc8.alloc (.cells #[.int .u32 0, .slice none 0 0, .slice none 0 0] 93)) (wc8.heap.size) 0 (#[.int .u32 i, .slice A3 n3 c3, .slice A4 n4 c4] : Array Value).toList = wS := ⟨_, rfl⟩
                    rw [hwS] at xK xB xA10 xHKP xHNP xHLP ⊢
                    replace HBW := Lib.hid xB
                    replace KA9 := Lib.hid xK
                    replace KA10 := Lib.hid xA10
                    replace HKP := Lib.hid xHKP
                    replace HNP := Lib.hid xHNP
                    replace HLP := Lib.hid xHLP
                    clear hwS xK xB xA10 xHKP xHNP xHLP
                    refine hK.out _ _ ?_ (fun hHeld => ?_)
                    · (try dsimp only)
                      exact ⟨(K5.out.belowS (bstep HBX.out HBW.out)).cellV (i := 0) rfl, (K5.out.belowS (bstep HBX.out HBW.out)).cellV (i := 1) rfl, (K6.out.belowS (bstep HBX.out HBW.out)).cellV (i := 0) rfl, (K6.out.belowS (bstep HBX.out HBW.out)).cellV (i := 1) rfl⟩
                    clear hK K
                    refine wpAnyH_ready (rs := [12]) (by kernel_rfl) (by simp) ?_
                    refine AllReadyH.cons rfl (fun K hK => ?_) AllReadyH.nil
                    refine Tr.wanted_plain rfl ?_
                    refine store_mid0 rfl 60 _ _ rfl (X26.heap.size) 0 #[.slice A6 n6 c6] (by rfl) (by rfl) (by have h := there_blk KA10.out; exact h) Tryz.sizeRg (by simp [Value.oneCell']) ?_
                    have xK := blk_puts1 (.slice A6 n6 c6) KA10.out
                    have xB := bsets HBW.out HL10.out (#[.slice A6 n6 c6] : Array Value).toList 0
                    have xA9 := KA9.out.farCells (HN10_9.out.symm) (#[.slice A6 n6 c6] : Array Value).toList 0
                    have xHKP := (show RegP (World.setCells (wS11) (X26.heap.size) 0 (#[.slice A6 n6 c6] : Array Value).toList) _ _ from HKP.out.sets1 KA10.out)
                    have xHNP := (show RegP (World.setCells (wS11) (X26.heap.size) 0 (#[.slice A6 n6 c6] : Array Value).toList) _ _ from HNP.out.sets1 KA10.out)
                    have xHLP := (show RegP (World.setCells (wS11) (X26.heap.size) 0 (#[.slice A6 n6 c6] : Array Value).toList) _ _ from HLP.out.sets1 KA10.out)
                    obtain ⟨wS12, hwS⟩ : ∃ wS, World.setCells wS11 (X26.heap.size) 0 (#[.slice A6 n6 c6] : Array Value).toList = wS := ⟨_, rfl⟩
                    rw [hwS] at xK xB xA9 xHKP xHNP xHLP ⊢
                    replace HBW := Lib.hid xB
                    replace KA10 := Lib.hid xK
                    replace KA9 := Lib.hid xA9
                    replace HKP := Lib.hid xHKP
                    replace HNP := Lib.hid xHNP
                    replace HLP := Lib.hid xHLP
                    clear hwS xK xB xA9 xHKP xHNP xHLP
                    refine hK.out _ _ ?_ (fun hHeld => ?_)
                    · (try dsimp only)
                      exact ⟨(K5.out.belowS (bstep HBX.out HBW.out)).cellV (i := 0) rfl, (K5.out.belowS (bstep HBX.out HBW.out)).cellV (i := 1) rfl, (K6.out.belowS (bstep HBX.out HBW.out)).cellV (i := 0) rfl, (K6.out.belowS (bstep HBX.out HBW.out)).cellV (i := 1) rfl⟩
                    clear hK K
                    refine wpAnyH_done (by kernel_rfl) ?_ _
                    refine NoPanic.normal ?_
                    go_wp2_with fail
                    go_meet
                    exact ⟨_, _, A3, n3, c3, A4, n4, c4, A6, n6, c6, rfl, rfl, KA9.out, KA10.out, HKP.out, HLP.out, HBW.out⟩
                  ·
                    go_simp
                    have HN10_9 := Lib.hid (Nat.ne_of_lt KA10.out.lt)
                    have KA9 := Lib.hid (show Blk (wc4.alloc (.cells #[.int .u32 0, .slice none 0 0, .slice none 0 0] 93)) (wc4.heap.size) 93 #[.int .u32 0, .slice none 0 0, .slice none 0 0] from Blk.new wc4 93 #[.int .u32 0, .slice none 0 0, .slice none 0 0])
                    have HL9 := Lib.hid (show X26.heap.size ≤ wc4.heap.size from HBW.out.size)
                    have hbA : Below wc4.heap.size wc4 ((wc4.alloc (.cells #[.int .u32 0, .slice none 0 0, .slice none 0 0] 93))) := bal (bre wc4) (.cells #[.int .u32 0, .slice none 0 0, .slice none 0 0] 93)
                    replace HBW := Lib.hid (bstep HBW.out hbA)
                    replace KA10 := Lib.hid (KA10.out.belowS hbA)
                    replace HKP := Lib.hid (HKP.out.below hbA)
                    replace HNP := Lib.hid (HNP.out.below hbA)
                    clear hbA
                    refine hK.out _ _ ?_ (fun hHeld => ?_)
                    · (try dsimp only)
                      exact ⟨(K5.out.belowS (bstep HBX.out HBW.out)).cellV (i := 0) rfl, (K5.out.belowS (bstep HBX.out HBW.out)).cellV (i := 1) rfl, (K6.out.belowS (bstep HBX.out HBW.out)).cellV (i := 0) rfl, (K6.out.belowS (bstep HBX.out HBW.out)).cellV (i := 1) rfl⟩
                    clear hK K
                    refine wpAnyH_ready (rs := [8]) (by kernel_rfl) (by simp) ?_
                    refine AllReadyH.cons rfl (fun K hK => ?_) AllReadyH.nil
                    go_simp
                    refine (lostP_any i (HA.out.below (bstep HBX.out HBW.out)) (HC.out.below (bstep HBX.out HBW.out)) HI.out).mono ?_
                    rintro e wc8 ⟨u, rfl, hr, hbA⟩
                    obtain ⟨A6, n6, c6, rfl⟩ := hr.form
                    have HLP := Lib.hid hr
                    clear hr
                    replace HBW := Lib.hid (bstep HBW.out hbA)
                    replace KA10 := Lib.hid (KA10.out.belowS hbA)
                    replace KA9 := Lib.hid (KA9.out.belowS hbA)
                    replace HKP := Lib.hid (HKP.out.below hbA)
                    replace HNP := Lib.hid (HNP.out.below hbA)
                    clear hbA
                    go_simp
                    refine hK.out _ _ ?_ (fun hHeld => ?_)
                    · (try dsimp only)
                      exact ⟨(K5.out.belowS (bstep HBX.out HBW.out)).cellV (i := 0) rfl, (K5.out.belowS (bstep HBX.out HBW.out)).cellV (i := 1) rfl, (K6.out.belowS (bstep HBX.out HBW.out)).cellV (i := 0) rfl, (K6.out.belowS (bstep HBX.out HBW.out)).cellV (i := 1) rfl⟩
                    clear hK K
                    refine wpAnyH_ready (rs := [11]) (by kernel_rfl) (by simp) ?_
                    refine AllReadyH.cons rfl (fun K hK => ?_) AllReadyH.nil
                    refine Tr.wanted_plain rfl ?_
                    refine store_mid0 rfl 93 _ _ rfl (wc4.heap.size) 0 #[.int .u32 i, .slice A3 n3 c3, .slice A4 n4 c4] (by rfl) (by rfl) (by have h := there_blk KA9.out; exact h) Tryz.sizeCh (by simp [Value.oneCell']) ?_
                    have xK := put3 (.int .u32 i) (.slice A3 n3 c3) (.slice A4 n4 c4) KA9.out
                    have xB := bsets HBW.out HL9.out (#[.int .u32 i, .slice A3 n3 c3, .slice A4 n4 c4] : Array Value).toList 0
                    have xA10 := KA10.out.farCells (HN10_9.out) (#[.int .u32 i, .slice A3 n3 c3, .slice A4 n4 c4] : Array Value).toList 0
                    have xHKP := (show RegP (World.setCells (wc8) (wc4.heap.size) 0 (#[.int .u32 i, .slice A3 n3 c3, .slice A4 n4 c4] : Array Value).toList) _ _ from HKP.out.sets3 KA9.out)
                    have xHNP := (show RegP (World.setCells (wc8) (wc4.heap.size) 0 (#[.int .u32 i, .slice A3 n3 c3, .slice A4 n4 c4] : Array Value).toList) _ _ from HNP.out.sets3 KA9.out)
                    have xHLP := (show RegP (World.setCells (wc8) (wc4.heap.size) 0 (#[.int .u32 i, .slice A3 n3 c3, .slice A4 n4 c4] : Array Value).toList) _ _ from HLP.out.sets3 KA9.out)
                    obtain ⟨wS11, hwS⟩ : ∃ wS, World.setCells wc8 (wc4.heap.size) 0 (#[.int .u32 i, .slice A3 n3 c3, .slice A4 n4 c4] : Array Value).toList = wS := ⟨_, rfl⟩
                    rw [hwS] at xK xB xA10 xHKP xHNP xHLP ⊢
                    replace HBW := Lib.hid xB
                    replace KA9 := Lib.hid xK
                    replace KA10 := Lib.hid xA10
                    replace HKP := Lib.hid xHKP
                    replace HNP := Lib.hid xHNP
                    replace HLP := Lib.hid xHLP
                    clear hwS xK xB xA10 xHKP xHNP xHLP
                    refine hK.out _ _ ?_ (fun hHeld => ?_)
                    · (try dsimp only)
                      exact ⟨(K5.out.belowS (bstep HBX.out HBW.out)).cellV (i := 0) rfl, (K5.out.belowS (bstep HBX.out HBW.out)).cellV (i := 1) rfl, (K6.out.belowS (bstep HBX.out HBW.out)).cellV (i := 0) rfl, (K6.out.belowS (bstep HBX.out HBW.out)).cellV (i := 1) rfl⟩
                    clear hK K
                    refine wpAnyH_ready (rs := [12]) (by kernel_rfl) (by simp) ?_
                    refine AllReadyH.cons rfl (fun K hK => ?_) AllReadyH.nil
                    refine Tr.wanted_plain rfl ?_
                    refine store_mid0 rfl 60 _ _ rfl (X26.heap.size) 0 #[.slice A6 n6 c6] (by rfl) (by rfl) (by have h := there_blk KA10.out; exact h) Tryz.sizeRg (by simp [Value.oneCell']) ?_
                    have xK := blk_puts1 (.slice A6 n6 c6) KA10.out
                    have xB := bsets HBW.out HL10.out (#[.slice A6 n6 c6] : Array Value).toList 0
                    have xA9 := KA9.out.farCells (HN10_9.out.symm) (#[.slice A6 n6 c6] : Array Value).toList 0
                    have xHKP := (show RegP (World.setCells (wS11) (X26.heap.size) 0 (#[.slice A6 n6 c6] : Array Value).toList) _ _ from HKP.out.sets1 KA10.out)
                    have xHNP := (show RegP (World.setCells (wS11) (X26.heap.size) 0 (#[.slice A6 n6 c6] : Array Value).toList) _ _ from HNP.out.sets1 KA10.out)
                    have xHLP := (show RegP (World.setCells (wS11) (X26.heap.size) 0 (#[.slice A6 n6 c6] : Array Value).toList) _ _ from HLP.out.sets1 KA10.out)
                    obtain ⟨wS12, hwS⟩ : ∃ wS, World.setCells wS11 (X26.heap.size) 0 (#[.slice A6 n6 c6] : Array Value).toList = wS := ⟨_, rfl⟩
                    rw [hwS] at xK xB xA9 xHKP xHNP xHLP ⊢
                    replace HBW := Lib.hid xB
                    replace KA10 := Lib.hid xK
                    replace KA9 := Lib.hid xA9
                    replace HKP := Lib.hid xHKP
                    replace HNP := Lib.hid xHNP
                    replace HLP := Lib.hid xHLP
                    clear hwS xK xB xA9 xHKP xHNP xHLP
                    refine hK.out _ _ ?_ (fun hHeld => ?_)
                    · (try dsimp only)
                      exact ⟨(K5.out.belowS (bstep HBX.out HBW.out)).cellV (i := 0) rfl, (K5.out.belowS (bstep HBX.out HBW.out)).cellV (i := 1) rfl, (K6.out.belowS (bstep HBX.out HBW.out)).cellV (i := 0) rfl, (K6.out.belowS (bstep HBX.out HBW.out)).cellV (i := 1) rfl⟩
                    clear hK K
                    refine wpAnyH_done (by kernel_rfl) ?_ _
                    refine NoPanic.normal ?_
                    go_wp2_with fail
                    go_meet
                    exact ⟨_, _, A3, n3, c3, A4, n4, c4, A6, n6, c6, rfl, rfl, KA9.out, KA10.out, HKP.out, HLP.out, HBW.out⟩
                ·
                  go_simp
                  have HN10_9 := Lib.hid (show X26.heap.size ≠ X26.heap.size + 1 from by have h := KA10.out.lt; rw [show ((X26.alloc (.cells #[.slice none 0 0] 60)).drew).heap.size = X26.heap.size + 1 from (show ((X26.alloc (.cells #[.slice none 0 0] 60))).heap.size = X26.heap.size + 1 by simp)] at h; exact Nat.ne_of_lt h)
                  have KA9 := Lib.hid (show Blk ((X26.alloc (.cells #[.slice none 0 0] 60)).alloc (.cells #[.int .u32 0, .slice none 0 0, .slice none 0 0] 93)).drew (X26.heap.size + 1) 93 #[.int .u32 0, .slice none 0 0, .slice none 0 0] from by have h := Blk.new ((X26.alloc (.cells #[.slice none 0 0] 60)).drew) 93 #[.int .u32 0, .slice none 0 0, .slice none 0 0]; rw [show ((X26.alloc (.cells #[.slice none 0 0] 60)).drew).heap.size = X26.heap.size + 1 from (show ((X26.alloc (.cells #[.slice none 0 0] 60))).heap.size = X26.heap.size + 1 by simp)] at h; exact h)
                  have HL9 := Lib.hid (show X26.heap.size ≤ X26.heap.size + 1 from by have h := HBW.out.size; rw [show ((X26.alloc (.cells #[.slice none 0 0] 60)).drew).heap.size = X26.heap.size + 1 from (show ((X26.alloc (.cells #[.slice none 0 0] 60))).heap.size = X26.heap.size + 1 by simp)] at h; exact h)
                  have hbA : Below (X26.alloc (.cells #[.slice none 0 0] 60)).drew.heap.size (X26.alloc (.cells #[.slice none 0 0] 60)).drew (((X26.alloc (.cells #[.slice none 0 0] 60)).alloc (.cells #[.int .u32 0, .slice none 0 0, .slice none 0 0] 93)).drew) := bal (bre (X26.alloc (.cells #[.slice none 0 0] 60)).drew) (.cells #[.int .u32 0, .slice none 0 0, .slice none 0 0] 93)
                  replace HBW := Lib.hid (bstep HBW.out hbA)
                  replace KA10 := Lib.hid (KA10.out.belowS hbA)
                  clear hbA
                  refine hK.out _ _ ?_ (fun hHeld => ?_)
                  · (try dsimp only)
                    exact ⟨(K5.out.belowS (bstep HBX.out HBW.out)).cellV (i := 0) rfl, (K5.out.belowS (bstep HBX.out HBW.out)).cellV (i := 1) rfl, (K6.out.belowS (bstep HBX.out HBW.out)).cellV (i := 0) rfl, (K6.out.belowS (bstep HBX.out HBW.out)).cellV (i := 1) rfl⟩
                  clear hK K
                  refine wpAnyH_ready (rs := [4]) (by kernel_rfl) (by simp) ?_
                  refine AllReadyH.cons rfl (fun K hK => ?_) AllReadyH.nil
                  go_simp
                  refine (one_any i 0 0 false (HA.out.below (bstep HBX.out HBW.out)) (HC.out.below (bstep HBX.out HBW.out)) HI.out (by decide)).mono ?_
                  rintro e wc4 ⟨A3, n3, c3, A4, n4, c4, rfl, hk4, hn4, hbA⟩
                  have HKP := Lib.hid hk4
                  have HNP := Lib.hid hn4
                  clear hk4 hn4
                  replace HBW := Lib.hid (bstep HBW.out hbA)
                  replace KA10 := Lib.hid (KA10.out.belowS hbA)
                  replace KA9 := Lib.hid (KA9.out.belowS hbA)
                  clear hbA
                  go_simp
                  refine hK.out _ _ ?_ (fun hHeld => ?_)
                  · (try dsimp only)
                    exact ⟨(K5.out.belowS (bstep HBX.out HBW.out)).cellV (i := 0) rfl, (K5.out.belowS (bstep HBX.out HBW.out)).cellV (i := 1) rfl, (K6.out.belowS (bstep HBX.out HBW.out)).cellV (i := 0) rfl, (K6.out.belowS (bstep HBX.out HBW.out)).cellV (i := 1) rfl⟩
                  clear hK K
                  refine wpAnyH_ready (rs := [8]) (by kernel_rfl) (by simp) ?_
                  refine AllReadyH.cons rfl (fun K hK => ?_) AllReadyH.nil
                  go_simp
                  refine (lostP_any i (HA.out.below (bstep HBX.out HBW.out)) (HC.out.below (bstep HBX.out HBW.out)) HI.out).mono ?_
                  rintro e wc8 ⟨u, rfl, hr, hbA⟩
                  obtain ⟨A6, n6, c6, rfl⟩ := hr.form
                  have HLP := Lib.hid hr
                  clear hr
                  replace HBW := Lib.hid (bstep HBW.out hbA)
                  replace KA10 := Lib.hid (KA10.out.belowS hbA)
                  replace KA9 := Lib.hid (KA9.out.belowS hbA)
                  replace HKP := Lib.hid (HKP.out.below hbA)
                  replace HNP := Lib.hid (HNP.out.below hbA)
                  clear hbA
                  go_simp
                  refine hK.out _ _ ?_ (fun hHeld => ?_)
                  · (try dsimp only)
                    exact ⟨(K5.out.belowS (bstep HBX.out HBW.out)).cellV (i := 0) rfl, (K5.out.belowS (bstep HBX.out HBW.out)).cellV (i := 1) rfl, (K6.out.belowS (bstep HBX.out HBW.out)).cellV (i := 0) rfl, (K6.out.belowS (bstep HBX.out HBW.out)).cellV (i := 1) rfl⟩
                  clear hK K
                  refine wpAnyH_ready (rs := [11]) (by kernel_rfl) (by simp) ?_
                  refine AllReadyH.cons rfl (fun K hK => ?_) AllReadyH.nil
                  refine Tr.wanted_plain rfl ?_
                  refine store_mid0 rfl 93 _ _ rfl (X26.heap.size + 1) 0 #[.int .u32 i, .slice A3 n3 c3, .slice A4 n4 c4] (by rfl) (by rfl) (by have h := there_blk KA9.out; exact h) Tryz.sizeCh (by simp [Value.oneCell']) ?_
                  have xK := put3 (.int .u32 i) (.slice A3 n3 c3) (.slice A4 n4 c4) KA9.out
                  have xB := bsets HBW.out HL9.out (#[.int .u32 i, .slice A3 n3 c3, .slice A4 n4 c4] : Array Value).toList 0
                  have xA10 := KA10.out.farCells (HN10_9.out) (#[.int .u32 i, .slice A3 n3 c3, .slice A4 n4 c4] : Array Value).toList 0
                  have xHKP := (show RegP (World.setCells (wc8) (X26.heap.size + 1) 0 (#[.int .u32 i, .slice A3 n3 c3, .slice A4 n4 c4] : Array Value).toList) _ _ from HKP.out.sets3 KA9.out)
                  have xHNP := (show RegP (World.setCells (wc8) (X26.heap.size + 1) 0 (#[.int .u32 i, .slice A3 n3 c3, .slice A4 n4 c4] : Array Value).toList) _ _ from HNP.out.sets3 KA9.out)
                  have xHLP := (show RegP (World.setCells (wc8) (X26.heap.size + 1) 0 (#[.int .u32 i, .slice A3 n3 c3, .slice A4 n4 c4] : Array Value).toList) _ _ from HLP.out.sets3 KA9.out)
                  obtain ⟨wS11, hwS⟩ : ∃ wS, World.setCells wc8 (X26.heap.size + 1) 0 (#[.int .u32 i, .slice A3 n3 c3, .slice A4 n4 c4] : Array Value).toList = wS := ⟨_, rfl⟩
                  rw [hwS] at xK xB xA10 xHKP xHNP xHLP ⊢
                  replace HBW := Lib.hid xB
                  replace KA9 := Lib.hid xK
                  replace KA10 := Lib.hid xA10
                  replace HKP := Lib.hid xHKP
                  replace HNP := Lib.hid xHNP
                  replace HLP := Lib.hid xHLP
                  clear hwS xK xB xA10 xHKP xHNP xHLP
                  refine hK.out _ _ ?_ (fun hHeld => ?_)
                  · (try dsimp only)
                    exact ⟨(K5.out.belowS (bstep HBX.out HBW.out)).cellV (i := 0) rfl, (K5.out.belowS (bstep HBX.out HBW.out)).cellV (i := 1) rfl, (K6.out.belowS (bstep HBX.out HBW.out)).cellV (i := 0) rfl, (K6.out.belowS (bstep HBX.out HBW.out)).cellV (i := 1) rfl⟩
                  clear hK K
                  refine wpAnyH_ready (rs := [12]) (by kernel_rfl) (by simp) ?_
                  refine AllReadyH.cons rfl (fun K hK => ?_) AllReadyH.nil
                  refine Tr.wanted_plain rfl ?_
                  refine store_mid0 rfl 60 _ _ rfl (X26.heap.size) 0 #[.slice A6 n6 c6] (by rfl) (by rfl) (by have h := there_blk KA10.out; exact h) Tryz.sizeRg (by simp [Value.oneCell']) ?_
                  have xK := blk_puts1 (.slice A6 n6 c6) KA10.out
                  have xB := bsets HBW.out HL10.out (#[.slice A6 n6 c6] : Array Value).toList 0
                  have xA9 := KA9.out.farCells (HN10_9.out.symm) (#[.slice A6 n6 c6] : Array Value).toList 0
                  have xHKP := (show RegP (World.setCells (wS11) (X26.heap.size) 0 (#[.slice A6 n6 c6] : Array Value).toList) _ _ from HKP.out.sets1 KA10.out)
                  have xHNP := (show RegP (World.setCells (wS11) (X26.heap.size) 0 (#[.slice A6 n6 c6] : Array Value).toList) _ _ from HNP.out.sets1 KA10.out)
                  have xHLP := (show RegP (World.setCells (wS11) (X26.heap.size) 0 (#[.slice A6 n6 c6] : Array Value).toList) _ _ from HLP.out.sets1 KA10.out)
                  obtain ⟨wS12, hwS⟩ : ∃ wS, World.setCells wS11 (X26.heap.size) 0 (#[.slice A6 n6 c6] : Array Value).toList = wS := ⟨_, rfl⟩
                  rw [hwS] at xK xB xA9 xHKP xHNP xHLP ⊢
                  replace HBW := Lib.hid xB
                  replace KA10 := Lib.hid xK
                  replace KA9 := Lib.hid xA9
                  replace HKP := Lib.hid xHKP
                  replace HNP := Lib.hid xHNP
                  replace HLP := Lib.hid xHLP
                  clear hwS xK xB xA9 xHKP xHNP xHLP
                  refine hK.out _ _ ?_ (fun hHeld => ?_)
                  · (try dsimp only)
                    exact ⟨(K5.out.belowS (bstep HBX.out HBW.out)).cellV (i := 0) rfl, (K5.out.belowS (bstep HBX.out HBW.out)).cellV (i := 1) rfl, (K6.out.belowS (bstep HBX.out HBW.out)).cellV (i := 0) rfl, (K6.out.belowS (bstep HBX.out HBW.out)).cellV (i := 1) rfl⟩
                  clear hK K
                  refine wpAnyH_done (by kernel_rfl) ?_ _
                  refine NoPanic.normal ?_
                  go_wp2_with fail
                  go_meet
                  exact ⟨_, _, A3, n3, c3, A4, n4, c4, A6, n6, c6, rfl, rfl, KA9.out, KA10.out, HKP.out, HLP.out, HBW.out⟩
          obtain ⟨g17, g18, A3, n3, c3, A4, n4, c4, A6, n6, c6, rfl, rfl, hk17, hk18, hr3, hr6, hbc⟩ := hcut
          have K17 := Lib.hid hk17
          have K18 := Lib.hid hk18
          have HKP := Lib.hid hr3
          have HLP := Lib.hid hr6
          have HSU := Lib.hid (show Small (U i) from HC.out.small i)
          have HSV := Lib.hid (show Small (V i) from HA.out.small i)
          replace HBX := Lib.hid (bstep HBX.out hbc)
          clear hk17 hk18 hr3 hr6 hbc
          obtain ⟨X27, hX27⟩ : ∃ X27, X27 = wc := ⟨_, rfl⟩
          subst hX27
          go_upto_region 28 with fail
          go_cut [180] from 186 (fun s180 wx => s180 = .bool false ∧ Below X27.heap.size X27 wx)
          case first =>
            as_aux_lemma =>
              have HBW := Lib.hid (show Below X27.heap.size X27 X27.drew from (bre X27).drew)
              refine wp_region_noPanic ?_
              refine wp_region_held_drew (S := (fun w' => w'.cell? ⟨g17, 1, none⟩ = some (.slice A3 n3 c3) ∧ w'.cell? ⟨g18, 0, none⟩ = some (.slice A6 n6 c6) ∧ w'.cell? ⟨w2.heap.size, 0, none⟩ = some (.slice Aa na ca) ∧ w'.cell? ⟨w2.heap.size, 1, none⟩ = some (.map ma))) (by kernel_rfl) ?_ (fun hHeld => ?_)
              · (try dsimp only)
                exact ⟨(K17.out.belowS HBW.out).cellV (i := 1) rfl, (K18.out.belowS HBW.out).cellV (i := 0) rfl, (K5.out.belowS (bstep HBX.out HBW.out)).cellV (i := 0) rfl, (K5.out.belowS (bstep HBX.out HBW.out)).cellV (i := 1) rfl⟩
              refine Tr.take_at 0 164 (.pointer (some ⟨g17, 1, none⟩)) rfl rfl (by kernel_rfl) (by kernel_rfl) (by kernel_rfl) (fun _ _ _ h => h) (Or.inl ⟨by rfl, ?_⟩) (by assumption) ?_
              · intro W0 hSw
                (try dsimp only at hSw)
                go_simp
              simp only [List.set_cons_zero, List.set_cons_succ]
              refine Tr.take_at 1 165 (.agg #[.slice A3 n3 c3]) rfl rfl (by kernel_rfl) (by kernel_rfl) (by kernel_rfl) (fun _ _ _ h => h) (Or.inl ⟨by rfl, ?_⟩) (by assumption) ?_
              · intro W0 hSw
                (try dsimp only at hSw)
                go_simp
              simp only [List.set_cons_zero, List.set_cons_succ]
              refine Tr.take_at 2 166 (.agg #[.slice A6 n6 c6]) rfl rfl (by kernel_rfl) (by kernel_rfl) (by kernel_rfl) (fun _ _ _ h => h) (Or.inl ⟨by rfl, ?_⟩) (by assumption) ?_
              · intro W0 hSw
                (try dsimp only at hSw)
                go_simp
              simp only [List.set_cons_zero, List.set_cons_succ]
              refine Tr.take_at 4 168 (.agg #[.slice Aa na ca, .map ma]) rfl rfl (by kernel_rfl) (by kernel_rfl) (by kernel_rfl) (fun _ _ _ h => h) (Or.inl ⟨by rfl, ?_⟩) (by assumption) ?_
              · intro W0 hSw
                (try dsimp only at hSw)
                go_simp
              simp only [List.set_cons_zero, List.set_cons_succ]
              refine Tr.take_at 5 169 (.int .u32 i) rfl rfl (by kernel_rfl) (by kernel_rfl) (by kernel_rfl) (fun _ _ _ h => h) (Or.inl ⟨by rfl, ?_⟩) (by assumption) ?_
              · intro W0 hSw
                (try dsimp only at hSw)
                go_simp
              simp only [List.set_cons_zero, List.set_cons_succ]
              refine wpAnyH_ready (rs := [3]) (by kernel_rfl) (by simp) ?_
              refine AllReadyH.cons rfl (fun K hK => ?_) AllReadyH.nil
              go_simp
              refine (unionP (HKP.out.below HBW.out) (HLP.out.below HBW.out) HSU.out.kept HSV.out.lost).mono ?_
              rintro e wc3 ⟨u, rfl, hr, hbA⟩
              obtain ⟨A103, n103, c103, rfl⟩ := hr.form
              have HM3 := Lib.hid hr
              clear hr
              replace HBW := Lib.hid (bstep HBW.out hbA)
              clear hbA
              go_simp
              refine hK.out _ _ ?_ (fun hHeld => ?_)
              · (try dsimp only)
                exact ⟨(K17.out.belowS HBW.out).cellV (i := 1) rfl, (K18.out.belowS HBW.out).cellV (i := 0) rfl, (K5.out.belowS (bstep HBX.out HBW.out)).cellV (i := 0) rfl, (K5.out.belowS (bstep HBX.out HBW.out)).cellV (i := 1) rfl⟩
              clear hK K
              refine wpAnyH_ready (rs := [6]) (by kernel_rfl) (by simp) ?_
              refine AllReadyH.cons rfl (fun K hK => ?_) AllReadyH.nil
              go_simp
              refine (HA.out.call _ (bstep HBX.out HBW.out) i HI.out).mono ?_
              rintro e wc6 ⟨u, rfl, hr, hbA⟩
              obtain ⟨A106, n106, c106, rfl⟩ := hr.form
              have HM6 := Lib.hid hr
              clear hr
              replace HBW := Lib.hid (bstep HBW.out hbA)
              replace HM3 := Lib.hid (HM3.out.below hbA)
              clear hbA
              go_simp
              refine hK.out _ _ ?_ (fun hHeld => ?_)
              · (try dsimp only)
                exact ⟨(K17.out.belowS HBW.out).cellV (i := 1) rfl, (K18.out.belowS HBW.out).cellV (i := 0) rfl, (K5.out.belowS (bstep HBX.out HBW.out)).cellV (i := 0) rfl, (K5.out.belowS (bstep HBX.out HBW.out)).cellV (i := 1) rfl⟩
              clear hK K
              refine wpAnyH_ready (rs := [7]) (by kernel_rfl) (by simp) ?_
              refine AllReadyH.cons rfl (fun K hK => ?_) AllReadyH.nil
              go_simp
              refine (sameP HM3.out HM6.out (kl_all (V i) (U i))).mono ?_
              rintro e wc7 ⟨rfl, hbA⟩
              replace HBW := Lib.hid (bstep HBW.out hbA)
              replace HM3 := Lib.hid (HM3.out.below hbA)
              replace HM6 := Lib.hid (HM6.out.below hbA)
              clear hbA
              go_simp
              refine hK.out _ _ ?_ (fun hHeld => ?_)
              · (try dsimp only)
                exact ⟨(K17.out.belowS HBW.out).cellV (i := 1) rfl, (K18.out.belowS HBW.out).cellV (i := 0) rfl, (K5.out.belowS (bstep HBX.out HBW.out)).cellV (i := 0) rfl, (K5.out.belowS (bstep HBX.out HBW.out)).cellV (i := 1) rfl⟩
              clear hK K
              refine Tr.take_at 8 172 (.bool false) rfl rfl (by kernel_rfl) (by kernel_rfl) (by kernel_rfl) (fun _ _ _ h => h) (Or.inl ⟨by rfl, ?_⟩) (by assumption) ?_
              · intro W0 hSw
                (try dsimp only at hSw)
                go_simp
              simp only [List.set_cons_zero, List.set_cons_succ]
              refine Tr.take_at 9 173 (.bool false) rfl rfl (by kernel_rfl) (by kernel_rfl) (by kernel_rfl) (fun _ _ _ h => h) (Or.inl ⟨by rfl, ?_⟩) (by assumption) ?_
              · intro W0 hSw
                (try dsimp only at hSw)
                go_simp
              simp only [List.set_cons_zero, List.set_cons_succ]
              refine Tr.take_at 10 174 (.pointer (some ⟨g17, 1, none⟩)) rfl rfl (by kernel_rfl) (by kernel_rfl) (by kernel_rfl) (fun _ _ _ h => h) (Or.inl ⟨by rfl, ?_⟩) (by assumption) ?_
              · intro W0 hSw
                (try dsimp only at hSw)
                go_simp
              simp only [List.set_cons_zero, List.set_cons_succ]
              refine Tr.take_at 11 175 (.agg #[.slice A3 n3 c3]) rfl rfl (by kernel_rfl) (by kernel_rfl) (by kernel_rfl) (fun _ _ _ h => h) (Or.inl ⟨by rfl, ?_⟩) (by assumption) ?_
              · intro W0 hSw
                (try dsimp only at hSw)
                go_simp
              simp only [List.set_cons_zero, List.set_cons_succ]
              refine Tr.take_at 12 176 (.agg #[.slice A6 n6 c6]) rfl rfl (by kernel_rfl) (by kernel_rfl) (by kernel_rfl) (fun _ _ _ h => h) (Or.inl ⟨by rfl, ?_⟩) (by assumption) ?_
              · intro W0 hSw
                (try dsimp only at hSw)
                go_simp
              simp only [List.set_cons_zero, List.set_cons_succ]
              refine wpAnyH_ready (rs := [13]) (by kernel_rfl) (by simp) ?_
              refine AllReadyH.cons rfl (fun K hK => ?_) AllReadyH.nil
              go_simp
              refine (meetP (HKP.out.below HBW.out) (HLP.out.below HBW.out) HSU.out.kept.box HSV.out.lost.box).mono ?_
              rintro e wc13 ⟨u, rfl, hr, hbA⟩
              obtain ⟨A113, n113, c113, rfl⟩ := hr.form
              have HM13 := Lib.hid hr
              clear hr
              replace HBW := Lib.hid (bstep HBW.out hbA)
              replace HM3 := Lib.hid (HM3.out.below hbA)
              replace HM6 := Lib.hid (HM6.out.below hbA)
              clear hbA
              go_simp
              refine hK.out _ _ ?_ (fun hHeld => ?_)
              · (try dsimp only)
                exact ⟨(K17.out.belowS HBW.out).cellV (i := 1) rfl, (K18.out.belowS HBW.out).cellV (i := 0) rfl, (K5.out.belowS (bstep HBX.out HBW.out)).cellV (i := 0) rfl, (K5.out.belowS (bstep HBX.out HBW.out)).cellV (i := 1) rfl⟩
              clear hK K
              refine wpAnyH_ready (rs := [14]) (by kernel_rfl) (by simp) ?_
              refine AllReadyH.cons rfl (fun K hK => ?_) AllReadyH.nil
              go_simp
              refine (emptyP_yes HM13.out (kl_none (V i) (U i))).mono ?_
              rintro e wc14 ⟨rfl, hbA⟩
              replace HBW := Lib.hid (bstep HBW.out hbA)
              replace HM3 := Lib.hid (HM3.out.below hbA)
              replace HM6 := Lib.hid (HM6.out.below hbA)
              replace HM13 := Lib.hid (HM13.out.below hbA)
              clear hbA
              go_simp
              refine hK.out _ _ ?_ (fun hHeld => ?_)
              · (try dsimp only)
                exact ⟨(K17.out.belowS HBW.out).cellV (i := 1) rfl, (K18.out.belowS HBW.out).cellV (i := 0) rfl, (K5.out.belowS (bstep HBX.out HBW.out)).cellV (i := 0) rfl, (K5.out.belowS (bstep HBX.out HBW.out)).cellV (i := 1) rfl⟩
              clear hK K
              refine Tr.take_at 15 179 (.bool false) rfl rfl (by kernel_rfl) (by kernel_rfl) (by kernel_rfl) (fun _ _ _ h => h) (Or.inl ⟨by rfl, ?_⟩) (by assumption) ?_
              · intro W0 hSw
                (try dsimp only at hSw)
                go_simp
              simp only [List.set_cons_zero, List.set_cons_succ]
              refine Tr.take_at 16 180 (.bool false) rfl rfl (by kernel_rfl) (by kernel_rfl) (by kernel_rfl) (fun _ _ _ h => h) (Or.inl ⟨by rfl, ?_⟩) (by assumption) ?_
              · intro W0 hSw
                (try dsimp only at hSw)
                go_simp
              simp only [List.set_cons_zero, List.set_cons_succ]
              refine wpAnyH_done (by kernel_rfl) ?_ _
              refine NoPanic.normal ?_
              go_wp2_with fail
              go_meet
              exact ⟨rfl, HBW.out⟩
          obtain ⟨rfl, hbc⟩ := hcut
          replace HBX := Lib.hid (bstep HBX.out hbc)
          clear hbc
          go_wp2_with fail
          go_roundw
          case rel => exact ⟨k + 1, by go_num, by omega, HBX.out⟩
          case measure => simp [intOf]; omega
    · obtain rfl : k = n + 1 := by omega
      have k1 : ¬ (((n + 1 : Nat) : Int) < (n : Int) + 1) := by omega
      go_wp2_with fail
      refine (awake32_any _).mono ?_
      rintro e wz ⟨rfl, hbz⟩
      have HBZ := Lib.hid (bstep (bstep HB.out HBK.out) hbz)
      clear hbz
      go_wp2_with fail
      go_ret
      exact ⟨rfl, HBZ.out⟩
end Go.Proofs.YtbkkecijcijhdaaGreat
end
