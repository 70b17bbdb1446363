/-
  The walk of a place's Resize.
-/
import Derived.Test.YtbfefkhejknmoaaGreatDoorCh32
import Derived.Test.YtbfefkhejknmoaaGreatDoorCh33
import Derived.Test.YtbfefkhejknmoaaGreatDoorCh34
namespace Go.Proofs.YtbfefkhejknmoaaGreatDoor
open Go.RowKit Go.Maps Go.Shelf

/-- a box that may be set. -/
def okBX (b : BX) : Prop := (-32768 ≤ b.X ∧ b.X ≤ 32767) ∧ (-32768 ≤ b.Y ∧ b.Y ≤ 32767) ∧ (1 ≤ b.W ∧ b.W ≤ 128) ∧ (1 ≤ b.H ∧ b.H ≤ 128) ∧ gravC b.G = 0
def okBs (bs : Bxs) : Prop := ∀ i b, bs i = some b → okBX b
def atR (r : RC) (b : BX) : BX := { b with X := r.X, Y := r.Y, W := r.W, H := r.H }
def moveK (was r : RC) (k : BX) : BX := { k with X := k.X + shX k.G was r, Y := k.Y + shY k.G was r }
def mvB (bs : Bxs) (w : Int) : Bool := match bs w with | some k => !decide (k.G = 0) | none => false
def badB (bs : Bxs) (was r : RC) (w : Int) : Bool := mvB bs w && !(coordB (moveK was r ((bs w).getD zBX)).X && coordB (moveK was r ((bs w).getD zBX)).Y)
/-- the boxes, some of the kids moved. -/
def resB (bs : Bxs) (was r : RC) (id : Int) (b' : BX) (ks : List Int) : Bxs := fun i => if i ∈ ks ∧ mvB bs i = true then (bs i).map (moveK was r) else if i = id then some b' else bs i
def resC (bs : Bxs) (ns : Nodes) (id : Int) (r : RC) : Int :=
  if id = 1 then 23 else match bs id with
  | none => 6
  | some b => if hasN ns id = false then 6 else if (coordB r.X && coordB r.Y) = false then 1 else if (sideB r.W && sideB r.H) = false then 17 else if rcOf b = r then 0 else if (kidsOf ns id).any (badB bs (rcOf b) r) = true then 1 else 0
def resBs (bs : Bxs) (ns : Nodes) (id : Int) (r : RC) : Bxs :=
  if resC bs ns id r = 0 then (match bs id with | none => bs | some b => if rcOf b = r then bs else resB bs (rcOf b) r id (atR r b) (kidsOf ns id)) else bs
/-- how a call ends. -/
def ResEnd (w : World) (n : Nat) (bs : Bxs) (code : Int) (e : Ending) (w' : World) : Prop := ∃ pv', e = .returned (.tuple #[pv', .int .i64 code]) ∧ PlaceIs w' pv' n bs ∧ Below w.heap.size w w'
theorem resEnd_keep {w w' : World} {n : Nat} {bs : Bxs} {mb : Option Nat} {code : Int} {ns : Nodes} {id : Int} {r : RC} (hm : MapOpt Tryz.prog 27 .u32 w mb n bs.f) (hb : Below w.heap.size w w') (hc : resC bs ns id r = code) (h0 : code ≠ 0) :
    ResEnd w n (resBs bs ns id r) (resC bs ns id r) (.returned (.tuple #[.agg #[.map mb], .int .i64 code])) w' := by
  refine ⟨_, by rw [hc], ⟨mb, rfl, ?_⟩, hb⟩
  unfold resBs
  rw [hc, if_neg h0]
  exact hm.below hb
theorem resEnd_same {w w' : World} {n : Nat} {bs : Bxs} {mb : Option Nat} {ns : Nodes} {id : Int} {r : RC} {b : BX} (hm : MapOpt Tryz.prog 27 .u32 w mb n bs.f) (hb : Below w.heap.size w w') (hc : resC bs ns id r = 0) (hbs : bs id = some b) (h0 : rcOf b = r) :
    ResEnd w n (resBs bs ns id r) (resC bs ns id r) (.returned (.tuple #[.agg #[.map mb], .int .i64 0])) w' := by
  refine ⟨_, by rw [hc], ⟨mb, rfl, ?_⟩, hb⟩
  unfold resBs
  rw [hc, if_pos rfl, hbs]
  dsimp only
  rw [if_pos h0]
  exact hm.below hb
theorem resEnd_new {w w' : World} {n : Nat} {bs : Bxs} {mb' : Nat} {ns : Nodes} {id : Int} {r : RC} {b : BX} (hm : MapIs Tryz.prog 27 .u32 w' mb' n (resB bs (rcOf b) r id (atR r b) (kidsOf ns id)).f) (hb : Below w.heap.size w w') (hc : resC bs ns id r = 0) (hbs : bs id = some b) (h0 : rcOf b ≠ r) :
    ResEnd w n (resBs bs ns id r) (resC bs ns id r) (.returned (.tuple #[.agg #[.map (some mb')], .int .i64 0])) w' := by
  refine ⟨_, by rw [hc], ⟨some mb', rfl, .inr ⟨_, rfl, ?_⟩⟩, hb⟩
  unfold resBs
  rw [hc, if_pos rfl, hbs]
  dsimp only
  rw [if_neg h0]
  exact hm
theorem resB_nil (bs : Bxs) (was r : RC) (id : Int) (b' : BX) : resB bs was r id b' [] = fun j => if j = id then some b' else bs j := by
  funext i
  simp [resB]
theorem resB_no {bs : Bxs} {was r : RC} {id : Int} {b' : BX} {ks : List Int} {x : Int} (h : mvB bs x = false) : resB bs was r id b' (ks ++ [x]) = resB bs was r id b' ks := by
  funext i
  unfold resB
  by_cases e : i = x
  · subst e
    simp [h]
  · simp [e]
theorem resB_yes {bs : Bxs} {was r : RC} {id : Int} {b' : BX} {ks : List Int} {x : Int} {k : BX} (h : mvB bs x = true) (hk : bs x = some k) : resB bs was r id b' (ks ++ [x]) = fun j => if j = x then some (moveK was r k) else resB bs was r id b' ks j := by
  funext i
  unfold resB
  by_cases e : i = x
  · subst e
    simp [h, hk]
  · simp [e]
theorem resB_some {bs : Bxs} {was r : RC} {id : Int} {b' : BX} {ks : List Int} {x : Int} {k : BX} (hk : bs x = some k) : ((resB bs was r id b' ks).f x).isSome = true := by
  unfold Bxs.f resB
  split
  · rw [hk]; rfl
  · split
    · rfl
    · rw [hk]; rfl
theorem halfX_bd (g : Int) : 0 ≤ halfX g ∧ halfX g ≤ 2 := by
  have key : ∀ k, 0 ≤ (halvesL.getD k (0, 0)).1 ∧ (halvesL.getD k (0, 0)).1 ≤ 2 := fun k => by
    by_cases hk : k < 10
    · have : k = 0 ∨ k = 1 ∨ k = 2 ∨ k = 3 ∨ k = 4 ∨ k = 5 ∨ k = 6 ∨ k = 7 ∨ k = 8 ∨ k = 9 := by omega
      rcases this with rfl | rfl | rfl | rfl | rfl | rfl | rfl | rfl | rfl | rfl <;> decide
    · rw [List.getD, List.getElem?_eq_none (by simp [halvesL]; omega)]
      decide
  exact key _
theorem partI_bd {n c : Int} (h : -127 ≤ n ∧ n ≤ 127) : -127 ≤ partI n c ∧ partI n c ≤ 127 := by
  unfold partI
  split
  · omega
  · split <;> omega
theorem sh_bd {g : Int} {was r : RC} (hw : was.win) (hr : r.win) : (-300000 ≤ shX g was r ∧ shX g was r ≤ 300000) ∧ (-300000 ≤ shY g was r ∧ shY g was r ≤ 300000) := by
  obtain ⟨⟨hx1, hx2⟩, ⟨hy1, hy2⟩, ⟨hw1, hw2⟩, hh1, hh2⟩ := hw
  obtain ⟨⟨nx1, nx2⟩, ⟨ny1, ny2⟩, ⟨nw1, nw2⟩, nh1, nh2⟩ := hr
  have p1 := partI_bd (n := r.W - was.W) (c := halfX g) (by omega)
  have p2 := partI_bd (n := r.H - was.H) (c := halfY g) (by omega)
  unfold shX shY
  constructor
  · split
    · omega
    · split <;> omega
  · split
    · omega
    · split <;> omega
theorem okBX_win {b : BX} (h : okBX b) : (rcOf b).win := by
  obtain ⟨hx, hy, hw, hh, _⟩ := h
  unfold RC.win rcOf
  dsimp only
  omega
theorem coord_iff {n : Int} : coordB n = true ↔ -32768 ≤ n ∧ n ≤ 32767 := by simp [coordB]
theorem side_iff {n : Int} : sideB n = true ↔ 1 ≤ n ∧ n ≤ 128 := by simp [sideB]
theorem rc_beq (a b c d a' b' c' d' : Int) : (a == a' && b == b' && c == c' && d == d') = decide ((⟨a, b, c, d⟩ : RC) = ⟨a', b', c', d'⟩) := by
  rw [Bool.eq_iff_iff]
  simp [and_assoc]

attribute [local go_sem ↓] run_eql_rc
set_option maxRecDepth 100000 in
set_option maxHeartbeats 4000000 in
theorem resize_any (pv tv : Value) (n : Nat) (bs : Bxs) (ns : Nodes) (mk mu : Option Nat) (nk : Nat) (fk : Int → Option Value) (id : Int) (r : RC) (w : World) (hid : 0 ≤ id ∧ id ≤ 4294967295) (hp : PlaceIs w pv n bs) (hn : n ≤ 1000) (h : TreeIs w tv ns mk mu nk fk) (hok : TreeOk ns) (hbs : okBs bs) (hH : Halves w) :
    Calls Tryz.prog 12 #[pv, tv, .int .u32 id, .agg #[.int .i64 r.X, .int .i64 r.Y, .int .i64 r.W, .int .i64 r.H]] w fun e w' => ResEnd w n (resBs bs ns id r) (resC bs ns id r) e w' := by
  obtain ⟨mb, rfl, hm⟩ := hp
  have hv := h.shape
  subst hv
  have HT := Lib.hid h
  have HM := Lib.hid hm
  have HOK := Lib.hid hok
  have HBS := Lib.hid hbs
  have HH := Lib.hid hH
  have hw0 := hH.1
  have HWF := Lib.hid (u32_wf hid)
  replace HBE := Lib.hid (bal (bal (bal (bal (bre w) (.cells #[.map mb] 38)) (.cells #[.map mk, .map mu] 35)) (.cells #[.int .i64 r.X, .int .i64 r.Y, .int .i64 r.W, .int .i64 r.H] 29)) (.cells #[.map none] 38))
  obtain ⟨WA, hWA⟩ : ∃ WA, ((((w.alloc (.cells #[.map mb] 38)).alloc (.cells #[.map mk, .map mu] 35)).alloc (.cells #[.int .i64 r.X, .int .i64 r.Y, .int .i64 r.W, .int .i64 r.H] 29)).alloc (.cells #[.map none] 38)) = WA := ⟨_, rfl⟩
  have a4 := ((((Blk.new w 38 #[.map mb]).alloc (.cells #[.map mk, .map mu] 35)).alloc (.cells #[.int .i64 r.X, .int .i64 r.Y, .int .i64 r.W, .int .i64 r.H] 29)).alloc (.cells #[.map none] 38))
  have a5 := ((blk_new2 w (.cells #[.map mb] 38) 35 #[.map mk, .map mu]).alloc (.cells #[.int .i64 r.X, .int .i64 r.Y, .int .i64 r.W, .int .i64 r.H] 29)).alloc (.cells #[.map none] 38)
  have a7 := (blk_new3 w (.cells #[.map mb] 38) (.cells #[.map mk, .map mu] 35) 29 #[.int .i64 r.X, .int .i64 r.Y, .int .i64 r.W, .int .i64 r.H]).alloc (.cells #[.map none] 38)
  have a8 := blk_new2 ((w.alloc (.cells #[.map mb] 38)).alloc (.cells #[.map mk, .map mu] 35)) (.cells #[.int .i64 r.X, .int .i64 r.Y, .int .i64 r.W, .int .i64 r.H] 29) 38 #[.map none]
  have asz := congrArg (fun W => W.heap.size) hWA
  simp only [World.size_alloc] at asz a8
  have HWA := Lib.hid hWA
  have ASZ := Lib.hid asz
  have A4 := Lib.hid a4
  have A5 := Lib.hid a5
  have A7 := Lib.hid a7
  have A8 := Lib.hid a8
  clear hWA asz a4 a5 a7 a8 h hm
  go_enter Tryz.func12, Tryz.ntmps12
  by_cases h1 : id = 1
  · subst h1
    go_wp2_with fail
    exact bodyPost_ret (v := .tuple #[.agg #[.map mb], .int .i64 23]) (by simp [results, Tryz.results12, go_sem]) rfl (resEnd_keep HM.out (by repeat (first | exact bre _ | refine bal ?_ _ | refine bset ?_ (by simp) _ | refine bset ?_ (by simp; omega) _)) (by simp [resC]) (by decide))
  · have d1 : (id == 1) = false := by simp [h1]
    have H1 := Lib.hid h1
    clear h1
    obtain ⟨b0, hb0⟩ : ∃ b0, (bs id).getD zBX = b0 := ⟨_, rfl⟩
    have HGV := Lib.hid (show (bs.f id).getD zBX.v = b0.v from (bxv_getD (bs id)).trans (by rw [hb0]))
    obtain ⟨s, hs⟩ : ∃ s, (bs id).isSome = s := ⟨_, rfl⟩
    have HSV := Lib.hid (show (bs.f id).isSome = s by rw [← hs]; simp [Bxs.f])
    have HS := Lib.hid hs
    have HB0 := Lib.hid hb0
    clear hb0 hs
    go_upto_region 4 with (at_lookup; refine opt_look_ok rfl _ _ 36 rfl 27 46 .u32 Tryz.underlying27 Tryz.underlying36 zBX.v (Tryz.zeroBox _) mb n bs.f (by go_simp) (HM.out.below HBE.out) id (by go_simp) HWF.out ?_; rw [HGV.out, HSV.out]; unfold BX.v)
    have hbe := HBE.out
    have a4 := A4.out
    have a5 := A5.out
    have a7 := A7.out
    have a8 := A8.out
    have asz := ASZ.out
    rw [HWA.out] at hbe a4 a5 a7 a8 ⊢
    have b4 := a4.alloc (.cells #[.int .i64 b0.X, .int .i64 b0.Y, .int .i64 b0.W, .int .i64 b0.H, .bool b0.M, .int .i64 b0.G, .int .i64 b0.B, .bool b0.S, .slice b0.A b0.n b0.c] 46)
    have b5 := a5.alloc (.cells #[.int .i64 b0.X, .int .i64 b0.Y, .int .i64 b0.W, .int .i64 b0.H, .bool b0.M, .int .i64 b0.G, .int .i64 b0.B, .bool b0.S, .slice b0.A b0.n b0.c] 46)
    have b7 := a7.alloc (.cells #[.int .i64 b0.X, .int .i64 b0.Y, .int .i64 b0.W, .int .i64 b0.H, .bool b0.M, .int .i64 b0.G, .int .i64 b0.B, .bool b0.S, .slice b0.A b0.n b0.c] 46)
    have b8 := a8.alloc (.cells #[.int .i64 b0.X, .int .i64 b0.Y, .int .i64 b0.W, .int .i64 b0.H, .bool b0.M, .int .i64 b0.G, .int .i64 b0.B, .bool b0.S, .slice b0.A b0.n b0.c] 46)
    have b10 := Blk.new WA 46 #[.int .i64 b0.X, .int .i64 b0.Y, .int .i64 b0.W, .int .i64 b0.H, .bool b0.M, .int .i64 b0.G, .int .i64 b0.B, .bool b0.S, .slice b0.A b0.n b0.c]
    have hbb := bal hbe (.cells #[.int .i64 b0.X, .int .i64 b0.Y, .int .i64 b0.W, .int .i64 b0.H, .bool b0.M, .int .i64 b0.G, .int .i64 b0.B, .bool b0.S, .slice b0.A b0.n b0.c] 46)
    rw [← asz] at b10
    obtain ⟨WB, hWB⟩ : ∃ WB, WA.alloc (.cells #[.int .i64 b0.X, .int .i64 b0.Y, .int .i64 b0.W, .int .i64 b0.H, .bool b0.M, .int .i64 b0.G, .int .i64 b0.B, .bool b0.S, .slice b0.A b0.n b0.c] 46) = WB := ⟨_, rfl⟩
    rw [hWB] at hbb b4 b5 b7 b8 b10 ⊢
    replace HBE := Lib.hid hbb
    replace K4 := Lib.hid b4
    replace K5 := Lib.hid b5
    replace K7 := Lib.hid b7
    replace K8 := Lib.hid b8
    replace K10 := Lib.hid b10
    clear hbe a4 a5 a7 a8 asz hWB hbb b4 b5 b7 b8 b10
    have p4 := K4.out.cellV (i := 0) (v := .map mb) rfl
    have q8 := K8.out.cellV (i := 0) (v := .map none) rfl
    have f8 := K8.out.frozen 0
    have l8 := K8.out.lt
    have t0 := K5.out.cellV (i := 0) (v := .map mk) rfl
    have t1 := K5.out.cellV (i := 1) (v := .map mu) rfl
    cases s
    · go_wp2_with fail
      have r0 := (K8.out.set_ 0 (.map mb)).cellV (i := 0) (v := .map mb) rfl
      have hno : bs id = none := by
        have := HS.out
        cases hb : bs id with
        | none => rfl
        | some b => rw [hb] at this; cases this
      exact bodyPost_ret (v := .tuple #[.agg #[.map mb], .int .i64 6]) (by simp [results, Tryz.results12, go_sem, r0]) rfl (resEnd_keep HM.out (bset HBE.out (by show w.heap.size ≤ w.heap.size + 1 + 1 + 1; omega) _) (by unfold resC; rw [if_neg H1.out, hno]) (by decide))
    · have HBI := Lib.hid (show bs id = some b0 by
        have h1 := HS.out
        have h2 := HB0.out
        cases hb : bs id with
        | none => rw [hb] at h1; cases h1
        | some b => rw [hb] at h2; exact congrArg some h2)
      go_wp2_with fail
      with_reducible refine (has_any _ ns mk mu nk fk _ _ hid (HT.out.below HBE.out)).mono ?_
      rintro e w1 ⟨rfl, hb1⟩
      replace HBE := Lib.hid (bstep HBE.out hb1)
      replace K4 := Lib.hid (K4.out.belowS hb1)
      replace K5 := Lib.hid (K5.out.belowS hb1)
      replace K7 := Lib.hid (K7.out.belowS hb1)
      replace K8 := Lib.hid (K8.out.belowS hb1)
      replace K10 := Lib.hid (K10.out.belowS hb1)
      clear p4 q8 f8 l8 t0 t1 hb1
      have p4 := K4.out.cellV (i := 0) (v := .map mb) rfl
      have q8 := K8.out.cellV (i := 0) (v := .map none) rfl
      have f8 := K8.out.frozen 0
      have l8 := K8.out.lt
      as_aux_lemma =>
        cases hi : hasN ns id
        · have HI := Lib.hid hi
          clear hi
          go_wp2_with fail
          have r0 := (K8.out.set_ 0 (.map mb)).cellV (i := 0) (v := .map mb) rfl
          exact bodyPost_ret (v := .tuple #[.agg #[.map mb], .int .i64 6]) (by simp [results, Tryz.results12, go_sem, r0]) rfl (resEnd_keep HM.out (bset HBE.out (by show w.heap.size ≤ w.heap.size + 1 + 1 + 1; omega) _) (by unfold resC; rw [if_neg H1.out, HBI.out]; dsimp only; rw [if_pos HI.out]) (by decide))
        · have HI := Lib.hid hi
          clear hi
          have s0 := K7.out.cellV (i := 0) (v := .int .i64 r.X) rfl
          have s1 := K7.out.cellV (i := 1) (v := .int .i64 r.Y) rfl
          have s2 := K7.out.cellV (i := 2) (v := .int .i64 r.W) rfl
          have s3 := K7.out.cellV (i := 3) (v := .int .i64 r.H) rfl
          have hpre : resC bs ns id r = (if (coordB r.X && coordB r.Y) = false then 1 else if (sideB r.W && sideB r.H) = false then 17 else if rcOf b0 = r then 0 else if (kidsOf ns id).any (badB bs (rcOf b0) r) = true then 1 else 0) := by
            unfold resC
            rw [if_neg H1.out, HBI.out]
            dsimp only
            rw [if_neg (by rw [HI.out]; decide)]
          replace HPRE := Lib.hid hpre
          clear hpre
          as_aux_lemma =>
            cases hcx : coordB r.X
            · have HX := Lib.hid hcx
              clear hcx
              go_wp2_with (go_at_call 37; refine (coord_any _ _).mono ?_; rintro e w' ⟨rfl, rfl⟩; rw [HX.out])
              have r0 := (K8.out.set_ 0 (.map mb)).cellV (i := 0) (v := .map mb) rfl
              exact bodyPost_ret (v := .tuple #[.agg #[.map mb], .int .i64 1]) (by simp [results, Tryz.results12, go_sem, r0]) rfl (resEnd_keep HM.out (bset HBE.out (by show w.heap.size ≤ w.heap.size + 1 + 1 + 1; omega) _) (by rw [HPRE.out, HX.out]; rfl) (by decide))
            · have HX := Lib.hid hcx
              clear hcx
              cases hcy : coordB r.Y
              · have HY := Lib.hid hcy
                clear hcy
                go_wp2_with (first | (go_at_call 37; refine (coord_any _ _).mono ?_; rintro e w' ⟨rfl, rfl⟩; first | rw [HX.out] | rw [HY.out]))
                have r0 := (K8.out.set_ 0 (.map mb)).cellV (i := 0) (v := .map mb) rfl
                exact bodyPost_ret (v := .tuple #[.agg #[.map mb], .int .i64 1]) (by simp [results, Tryz.results12, go_sem, r0]) rfl (resEnd_keep HM.out (bset HBE.out (by show w.heap.size ≤ w.heap.size + 1 + 1 + 1; omega) _) (by rw [HPRE.out, HX.out, HY.out]; rfl) (by decide))
              · have HY := Lib.hid hcy
                clear hcy
                cases hsw : sideB r.W
                · have HW := Lib.hid hsw
                  clear hsw
                  go_wp2_with (first | (go_at_call 37; refine (coord_any _ _).mono ?_; rintro e w' ⟨rfl, rfl⟩; first | rw [HX.out] | rw [HY.out]) | (go_at_call 38; refine (side_any _ _).mono ?_; rintro e w' ⟨rfl, rfl⟩; rw [HW.out]))
                  have r0 := (K8.out.set_ 0 (.map mb)).cellV (i := 0) (v := .map mb) rfl
                  exact bodyPost_ret (v := .tuple #[.agg #[.map mb], .int .i64 17]) (by simp [results, Tryz.results12, go_sem, r0]) rfl (resEnd_keep HM.out (bset HBE.out (by show w.heap.size ≤ w.heap.size + 1 + 1 + 1; omega) _) (by rw [HPRE.out, HX.out, HY.out, HW.out]; rfl) (by decide))
                · have HW := Lib.hid hsw
                  clear hsw
                  cases hsh : sideB r.H
                  · have HHH := Lib.hid hsh
                    clear hsh
                    go_wp2_with (first | (go_at_call 37; refine (coord_any _ _).mono ?_; rintro e w' ⟨rfl, rfl⟩; first | rw [HX.out] | rw [HY.out]) | (go_at_call 38; refine (side_any _ _).mono ?_; rintro e w' ⟨rfl, rfl⟩; first | rw [HW.out] | rw [HHH.out]))
                    have r0 := (K8.out.set_ 0 (.map mb)).cellV (i := 0) (v := .map mb) rfl
                    exact bodyPost_ret (v := .tuple #[.agg #[.map mb], .int .i64 17]) (by simp [results, Tryz.results12, go_sem, r0]) rfl (resEnd_keep HM.out (bset HBE.out (by show w.heap.size ≤ w.heap.size + 1 + 1 + 1; omega) _) (by rw [HPRE.out, HX.out, HY.out, HW.out, HHH.out]; rfl) (by decide))
                  · have HHH := Lib.hid hsh
                    clear hsh
                    replace HPRE := Lib.hid (show resC bs ns id r = (if rcOf b0 = r then 0 else if (kidsOf ns id).any (badB bs (rcOf b0) r) = true then 1 else 0) by
                      rw [HPRE.out, HX.out, HY.out, HW.out, HHH.out]
                      rfl)
                    have v0 := K10.out.cellV (i := 0) (v := .int .i64 b0.X) rfl
                    have v1 := K10.out.cellV (i := 1) (v := .int .i64 b0.Y) rfl
                    have v2 := K10.out.cellV (i := 2) (v := .int .i64 b0.W) rfl
                    have v3 := K10.out.cellV (i := 3) (v := .int .i64 b0.H) rfl
                    have v4 := K10.out.cellV (i := 4) (v := .bool b0.M) rfl
                    have v5 := K10.out.cellV (i := 5) (v := .int .i64 b0.G) rfl
                    have v6 := K10.out.cellV (i := 6) (v := .int .i64 b0.B) rfl
                    have v7 := K10.out.cellV (i := 7) (v := .bool b0.S) rfl
                    have v8 := K10.out.cellV (i := 8) (v := .slice b0.A b0.n b0.c) rfl
                    go_upto_region 11 with (first
                      | (go_at_call 37; refine (coord_any _ _).mono ?_; rintro e w' ⟨rfl, rfl⟩; first | rw [HX.out] | rw [HY.out])
                      | (go_at_call 38; refine (side_any _ _).mono ?_; rintro e w' ⟨rfl, rfl⟩; first | rw [HW.out] | rw [HHH.out])
                      | (go_at_call 39; refine (rect_any b0 _).mono ?_; rintro e w2 ⟨rfl, hb2⟩; have HB2 := Lib.hid hb2; clear hb2))
                    have hbe := bal (bstep HBE.out HB2.out) (.cells #[.int .i64 b0.X, .int .i64 b0.Y, .int .i64 b0.W, .int .i64 b0.H] 29)
                    have b4 := (K4.out.belowS HB2.out).alloc (.cells #[.int .i64 b0.X, .int .i64 b0.Y, .int .i64 b0.W, .int .i64 b0.H] 29)
                    have b5 := (K5.out.belowS HB2.out).alloc (.cells #[.int .i64 b0.X, .int .i64 b0.Y, .int .i64 b0.W, .int .i64 b0.H] 29)
                    have b7 := (K7.out.belowS HB2.out).alloc (.cells #[.int .i64 b0.X, .int .i64 b0.Y, .int .i64 b0.W, .int .i64 b0.H] 29)
                    have b8 := (K8.out.belowS HB2.out).alloc (.cells #[.int .i64 b0.X, .int .i64 b0.Y, .int .i64 b0.W, .int .i64 b0.H] 29)
                    have b10 := (K10.out.belowS HB2.out).alloc (.cells #[.int .i64 b0.X, .int .i64 b0.Y, .int .i64 b0.W, .int .i64 b0.H] 29)
                    have b12 := Blk.new w2 29 #[.int .i64 b0.X, .int .i64 b0.Y, .int .i64 b0.W, .int .i64 b0.H]
                    have l2 := (K10.out.belowS HB2.out).lt
                    obtain ⟨WC, hWC⟩ : ∃ WC, w2.alloc (.cells #[.int .i64 b0.X, .int .i64 b0.Y, .int .i64 b0.W, .int .i64 b0.H] 29) = WC := ⟨_, rfl⟩
                    have hsc := congrArg (fun W => W.heap.size) hWC
                    simp only [World.size_alloc] at hsc
                    rw [hWC] at hbe b4 b5 b7 b8 b10 b12 ⊢
                    have HSC := Lib.hid hsc
                    replace HBE := Lib.hid hbe
                    replace K4 := Lib.hid b4
                    replace K5 := Lib.hid b5
                    replace K7 := Lib.hid b7
                    replace K8 := Lib.hid b8
                    replace K10 := Lib.hid b10
                    replace K12 := Lib.hid b12
                    clear p4 q8 f8 l8 s0 s1 s2 s3 v0 v1 v2 v3 v4 v5 v6 v7 v8 hbe b4 b5 b7 b8 b10 b12 hWC hsc HB2
                    have p4 := K4.out.cellV (i := 0) (v := .map mb) rfl
                    have q8 := K8.out.cellV (i := 0) (v := .map none) rfl
                    have f8 := K8.out.frozen 0
                    have l8 := K8.out.lt
                    have s0 := K7.out.cellV (i := 0) (v := .int .i64 r.X) rfl
                    have s1 := K7.out.cellV (i := 1) (v := .int .i64 r.Y) rfl
                    have s2 := K7.out.cellV (i := 2) (v := .int .i64 r.W) rfl
                    have s3 := K7.out.cellV (i := 3) (v := .int .i64 r.H) rfl
                    have u0 := K12.out.cellV (i := 0) (v := .int .i64 b0.X) rfl
                    have u1 := K12.out.cellV (i := 1) (v := .int .i64 b0.Y) rfl
                    have u2 := K12.out.cellV (i := 2) (v := .int .i64 b0.W) rfl
                    have u3 := K12.out.cellV (i := 3) (v := .int .i64 b0.H) rfl
                    as_aux_lemma =>
                      by_cases heq : rcOf b0 = r
                      · have de : (b0.X == r.X && b0.Y == r.Y && b0.W == r.W && b0.H == r.H) = true := by rw [rc_beq]; exact decide_eq_true (show (⟨b0.X, b0.Y, b0.W, b0.H⟩ : RC) = ⟨r.X, r.Y, r.W, r.H⟩ from heq)
                        have HEQ := Lib.hid heq
                        clear heq
                        go_wp2_with fail
                        have r0 := (K8.out.set_ 0 (.map mb)).cellV (i := 0) (v := .map mb) rfl
                        exact bodyPost_ret (v := .tuple #[.agg #[.map mb], .int .i64 0]) (by simp [results, Tryz.results12, go_sem, r0]) rfl (resEnd_same HM.out (bset HBE.out (by show w.heap.size ≤ w.heap.size + 1 + 1 + 1; omega) _) (by rw [HPRE.out, if_pos HEQ.out]) HBI.out HEQ.out)
                      · have de : (b0.X == r.X && b0.Y == r.Y && b0.W == r.W && b0.H == r.H) = false := by rw [rc_beq]; exact decide_eq_false (show ¬ (⟨b0.X, b0.Y, b0.W, b0.H⟩ : RC) = ⟨r.X, r.Y, r.W, r.H⟩ from heq)
                        have HEQ := Lib.hid heq
                        clear heq
                        as_aux_lemma =>
                          have HBE9 := HBE
                          obtain ⟨mb1, rfl, hmi⟩ : ∃ mb1, mb = some mb1 ∧ MapIs Tryz.prog 27 .u32 w mb1 n bs.f := by
                            rcases HM.out with ⟨_, _, hf⟩ | ⟨mb1, rfl, h⟩
                            · have := hf id
                              simp [Bxs.f, HBI.out] at this
                            · exact ⟨mb1, rfl, h⟩
                          have HMI := Lib.hid hmi
                          have HBE := HBE9
                          clear HBE9
                          clear hmi
                          go_wp2_with fail
                          with_reducible refine (ptwin_any mb1 n bs _ (by first | exact HMI.out.below HBE.out)).mono ?_
                          rintro e w3 ⟨mb3, rfl, hb3l, hm3, hb3⟩
                          have l12 := K12.out.lt
                          have hm4 := hm3.alloc (.cells #[.map (some mb3)] 38)
                          have hm3l := hm3.lt
                          have hbe := bal (bstep HBE.out hb3) (.cells #[.map (some mb3)] 38)
                          have b4 := (K4.out.belowS hb3).alloc (.cells #[.map (some mb3)] 38)
                          have b5 := (K5.out.belowS hb3).alloc (.cells #[.map (some mb3)] 38)
                          have b7 := (K7.out.belowS hb3).alloc (.cells #[.map (some mb3)] 38)
                          have b8 := (K8.out.belowS hb3).alloc (.cells #[.map (some mb3)] 38)
                          have b10 := (K10.out.belowS hb3).alloc (.cells #[.map (some mb3)] 38)
                          have b12 := (K12.out.belowS hb3).alloc (.cells #[.map (some mb3)] 38)
                          have b13 := Blk.new w3 38 #[.map (some mb3)]
                          go_upto_region 14 with fail
                          obtain ⟨WD, hWD⟩ : ∃ WD, w3.alloc (.cells #[.map (some mb3)] 38) = WD := ⟨_, rfl⟩
                          rw [hWD] at hm4 hbe b4 b5 b7 b8 b10 b12 b13 ⊢
                          replace HBE := Lib.hid hbe
                          have HM4 := Lib.hid hm4
                          replace K4 := Lib.hid b4
                          replace K5 := Lib.hid b5
                          replace K7 := Lib.hid b7
                          replace K8 := Lib.hid b8
                          replace K10 := Lib.hid b10
                          replace K12 := Lib.hid b12
                          replace K13 := Lib.hid b13
                          have HB3L := Lib.hid hb3l
                          have HM3L := Lib.hid hm3l
                          have HL12 := Lib.hid l12
                          clear p4 q8 f8 l8 s0 s1 s2 s3 u0 u1 u2 u3 de hm3 hm4 hbe b4 b5 b7 b8 b10 b12 b13 hWD hb3
                          have s0 := K7.out.cellV (i := 0) (v := .int .i64 r.X) rfl
                          have s1 := K7.out.cellV (i := 1) (v := .int .i64 r.Y) rfl
                          have s2 := K7.out.cellV (i := 2) (v := .int .i64 r.W) rfl
                          have s3 := K7.out.cellV (i := 3) (v := .int .i64 r.H) rfl
                          have v0 := K10.out.cellV (i := 0) (v := .int .i64 b0.X) rfl
                          have v1 := K10.out.cellV (i := 1) (v := .int .i64 b0.Y) rfl
                          have v2 := K10.out.cellV (i := 2) (v := .int .i64 b0.W) rfl
                          have v3 := K10.out.cellV (i := 3) (v := .int .i64 b0.H) rfl
                          have g0 := K10.out.frozen 0
                          have g1 := K10.out.frozen 1
                          have g2 := K10.out.frozen 2
                          have g3 := K10.out.frozen 3
                          go_region
                          have hl12 := HL12.out
                          have hb3l := HB3L.out
                          have hm3l := HM3L.out
                          have b4 := (((((K4.out.far (p := ⟨w.heap.size + 1 + 1 + 1 + 1, 0, none⟩) (by show _ ≠ _; simp only; omega) (.int .i64 r.X)).far (p := ⟨w.heap.size + 1 + 1 + 1 + 1, 1, none⟩) (by show _ ≠ _; simp only; omega) (.int .i64 r.Y)).far (p := ⟨w.heap.size + 1 + 1 + 1 + 1, 2, none⟩) (by show _ ≠ _; simp only; omega) (.int .i64 r.W)).far (p := ⟨w.heap.size + 1 + 1 + 1 + 1, 3, none⟩) (by show _ ≠ _; simp only; omega) (.int .i64 r.H)).drewT)
                          have b5 := (((((K5.out.far (p := ⟨w.heap.size + 1 + 1 + 1 + 1, 0, none⟩) (by show _ ≠ _; simp only; omega) (.int .i64 r.X)).far (p := ⟨w.heap.size + 1 + 1 + 1 + 1, 1, none⟩) (by show _ ≠ _; simp only; omega) (.int .i64 r.Y)).far (p := ⟨w.heap.size + 1 + 1 + 1 + 1, 2, none⟩) (by show _ ≠ _; simp only; omega) (.int .i64 r.W)).far (p := ⟨w.heap.size + 1 + 1 + 1 + 1, 3, none⟩) (by show _ ≠ _; simp only; omega) (.int .i64 r.H)).drewT)
                          have b7 := (((((K7.out.far (p := ⟨w.heap.size + 1 + 1 + 1 + 1, 0, none⟩) (by show _ ≠ _; simp only; omega) (.int .i64 r.X)).far (p := ⟨w.heap.size + 1 + 1 + 1 + 1, 1, none⟩) (by show _ ≠ _; simp only; omega) (.int .i64 r.Y)).far (p := ⟨w.heap.size + 1 + 1 + 1 + 1, 2, none⟩) (by show _ ≠ _; simp only; omega) (.int .i64 r.W)).far (p := ⟨w.heap.size + 1 + 1 + 1 + 1, 3, none⟩) (by show _ ≠ _; simp only; omega) (.int .i64 r.H)).drewT)
                          have b8 := (((((K8.out.far (p := ⟨w.heap.size + 1 + 1 + 1 + 1, 0, none⟩) (by show _ ≠ _; simp only; omega) (.int .i64 r.X)).far (p := ⟨w.heap.size + 1 + 1 + 1 + 1, 1, none⟩) (by show _ ≠ _; simp only; omega) (.int .i64 r.Y)).far (p := ⟨w.heap.size + 1 + 1 + 1 + 1, 2, none⟩) (by show _ ≠ _; simp only; omega) (.int .i64 r.W)).far (p := ⟨w.heap.size + 1 + 1 + 1 + 1, 3, none⟩) (by show _ ≠ _; simp only; omega) (.int .i64 r.H)).drewT)
                          have b12 := (((((K12.out.far (p := ⟨w.heap.size + 1 + 1 + 1 + 1, 0, none⟩) (by show _ ≠ _; simp only; omega) (.int .i64 r.X)).far (p := ⟨w.heap.size + 1 + 1 + 1 + 1, 1, none⟩) (by show _ ≠ _; simp only; omega) (.int .i64 r.Y)).far (p := ⟨w.heap.size + 1 + 1 + 1 + 1, 2, none⟩) (by show _ ≠ _; simp only; omega) (.int .i64 r.W)).far (p := ⟨w.heap.size + 1 + 1 + 1 + 1, 3, none⟩) (by show _ ≠ _; simp only; omega) (.int .i64 r.H)).drewT)
                          have b13 := (((((K13.out.far (p := ⟨w.heap.size + 1 + 1 + 1 + 1, 0, none⟩) (by show _ ≠ _; simp only; omega) (.int .i64 r.X)).far (p := ⟨w.heap.size + 1 + 1 + 1 + 1, 1, none⟩) (by show _ ≠ _; simp only; omega) (.int .i64 r.Y)).far (p := ⟨w.heap.size + 1 + 1 + 1 + 1, 2, none⟩) (by show _ ≠ _; simp only; omega) (.int .i64 r.W)).far (p := ⟨w.heap.size + 1 + 1 + 1 + 1, 3, none⟩) (by show _ ≠ _; simp only; omega) (.int .i64 r.H)).drewT)
                          have b10 : Blk ((((WD.setCell ⟨w.heap.size + 1 + 1 + 1 + 1, 0, none⟩ (.int .i64 r.X)).setCell ⟨w.heap.size + 1 + 1 + 1 + 1, 1, none⟩ (.int .i64 r.Y)).setCell ⟨w.heap.size + 1 + 1 + 1 + 1, 2, none⟩ (.int .i64 r.W)).setCell ⟨w.heap.size + 1 + 1 + 1 + 1, 3, none⟩ (.int .i64 r.H)).drew (w.heap.size + 1 + 1 + 1 + 1) 46 #[.int .i64 r.X, .int .i64 r.Y, .int .i64 r.W, .int .i64 r.H, .bool b0.M, .int .i64 b0.G, .int .i64 b0.B, .bool b0.S, .slice b0.A b0.n b0.c] := ((((K10.out.set_ 0 (.int .i64 r.X)).set_ 1 (.int .i64 r.Y)).set_ 2 (.int .i64 r.W)).set_ 3 (.int .i64 r.H)).drewT
                          have hm5 := ((((HM4.out.setCell (a := ⟨w.heap.size + 1 + 1 + 1 + 1, 0, none⟩) (by show _ ≠ _; simp only; omega) (.int .i64 r.X)).setCell (a := ⟨w.heap.size + 1 + 1 + 1 + 1, 1, none⟩) (by show _ ≠ _; simp only; omega) (.int .i64 r.Y)).setCell (a := ⟨w.heap.size + 1 + 1 + 1 + 1, 2, none⟩) (by show _ ≠ _; simp only; omega) (.int .i64 r.W)).setCell (a := ⟨w.heap.size + 1 + 1 + 1 + 1, 3, none⟩) (by show _ ≠ _; simp only; omega) (.int .i64 r.H)).drew
                          have hbe := (bset (p := ⟨w.heap.size + 1 + 1 + 1 + 1, 3, none⟩) (bset (p := ⟨w.heap.size + 1 + 1 + 1 + 1, 2, none⟩) (bset (p := ⟨w.heap.size + 1 + 1 + 1 + 1, 1, none⟩) (bset (p := ⟨w.heap.size + 1 + 1 + 1 + 1, 0, none⟩) HBE.out (by show w.heap.size ≤ w.heap.size + 1 + 1 + 1 + 1; omega) (.int .i64 r.X)) (by show w.heap.size ≤ w.heap.size + 1 + 1 + 1 + 1; omega) (.int .i64 r.Y)) (by show w.heap.size ≤ w.heap.size + 1 + 1 + 1 + 1; omega) (.int .i64 r.W)) (by show w.heap.size ≤ w.heap.size + 1 + 1 + 1 + 1; omega) (.int .i64 r.H)).drew
                          clear s0 s1 s2 s3 v0 v1 v2 v3 g0 g1 g2 g3
                          obtain ⟨WE, hWE⟩ : ∃ WE, ((((WD.setCell ⟨w.heap.size + 1 + 1 + 1 + 1, 0, none⟩ (.int .i64 r.X)).setCell ⟨w.heap.size + 1 + 1 + 1 + 1, 1, none⟩ (.int .i64 r.Y)).setCell ⟨w.heap.size + 1 + 1 + 1 + 1, 2, none⟩ (.int .i64 r.W)).setCell ⟨w.heap.size + 1 + 1 + 1 + 1, 3, none⟩ (.int .i64 r.H)).drew = WE := ⟨_, rfl⟩
                          rw [hWE] at b4 b5 b7 b8 b10 b12 b13 hm5 hbe ⊢
                          replace HBE := Lib.hid hbe
                          have HM5 := Lib.hid hm5
                          replace K4 := Lib.hid b4
                          replace K5 := Lib.hid b5
                          replace K7 := Lib.hid b7
                          replace K8 := Lib.hid b8
                          replace K10 := Lib.hid b10
                          replace K12 := Lib.hid b12
                          replace K13 := Lib.hid b13
                          have HPUT := Lib.hid (bs_put bs id (atR r b0))
                          clear b4 b5 b7 b8 b10 b12 b13 hm5 hbe hWE
                          have p13 := K13.out.cellV (i := 0) (v := .map (some mb3)) rfl
                          have v0 := K10.out.cellV (i := 0) (v := .int .i64 r.X) rfl
                          have v1 := K10.out.cellV (i := 1) (v := .int .i64 r.Y) rfl
                          have v2 := K10.out.cellV (i := 2) (v := .int .i64 r.W) rfl
                          have v3 := K10.out.cellV (i := 3) (v := .int .i64 r.H) rfl
                          have v4 := K10.out.cellV (i := 4) (v := .bool b0.M) rfl
                          have v5 := K10.out.cellV (i := 5) (v := .int .i64 b0.G) rfl
                          have v6 := K10.out.cellV (i := 6) (v := .int .i64 b0.B) rfl
                          have v7 := K10.out.cellV (i := 7) (v := .bool b0.S) rfl
                          have v8 := K10.out.cellV (i := 8) (v := .slice b0.A b0.n b0.c) rfl
                          go_upto_region 16 with (at_mapUpdate; refine map_put rfl _ _ _ 36 rfl 27 46 .u32 Tryz.underlying27 Tryz.underlying36 mb3 n bs.f (by go_simp) HM5.out (by simp only [maxLen]; omega) id (atR r b0).v (by go_simp) (by go_simp; rfl) HWF.out ?_; rw [HSV.out]; intro w6 hm6 hg6; rw [if_pos rfl, HPUT.out] at hm6; have HM6 := Lib.hid hm6; have HG6 := Lib.hid hg6; clear hm6 hg6; go_frame)
                          have hl12 := HL12.out
                          replace K4 := Lib.hid (K4.out.grown HG6.out (by intro e; injection e with e; omega))
                          replace K5 := Lib.hid (K5.out.grown HG6.out (by intro e; injection e with e; omega))
                          replace K7 := Lib.hid (K7.out.grown HG6.out (by intro e; injection e with e; omega))
                          replace K8 := Lib.hid (K8.out.grown HG6.out (by intro e; injection e with e; omega))
                          replace K12 := Lib.hid (K12.out.grown HG6.out (by intro e; injection e with e; omega))
                          replace K13 := Lib.hid (K13.out.grown HG6.out (by intro e; injection e with e; omega))
                          replace HBE := Lib.hid (HBE.out.grown HG6.out HBE.out.size (fun q e => by cases e; have := HBE.out.size; omega))
                          clear p13 v0 v1 v2 v3 v4 v5 v6 v7 v8
                          have t0 := K5.out.cellV (i := 0) (v := .map mk) rfl
                          have t1 := K5.out.cellV (i := 1) (v := .map mu) rfl
                          go_wp2_with fail
                          with_reducible refine (kids_any _ ns mk mu nk fk id _ hid (HT.out.below HBE.out)).mono ?_
                          rintro e w7 ⟨u, rfl, hou, hb7⟩
                          obtain ⟨A, c, rfl, hc⟩ := own_form hou
                          replace HOU := Lib.hid hou
                          replace HBE := Lib.hid (bstep HBE.out hb7)
                          replace K4 := Lib.hid (K4.out.belowS hb7)
                          replace K7 := Lib.hid (K7.out.belowS hb7)
                          replace K8 := Lib.hid (K8.out.belowS hb7)
                          replace K12 := Lib.hid (K12.out.belowS hb7)
                          replace K13 := Lib.hid (K13.out.belowS hb7)
                          have hml := HM6.out.lt
                          have HM7 := Lib.hid (HM6.out.below hb7)
                          have hkl := kids_len HT.out.few id
                          obtain ⟨l, hl⟩ : ∃ l, kidsOf ns id = l := ⟨_, rfl⟩
                          have HL := Lib.hid hl
                          have HND := Lib.hid (show l.Nodup by rw [← hl]; exact kids_nodup HOK.out id)
                          have HLO := Lib.hid (show ∀ x ∈ l, 0 ≤ x ∧ x ≤ 4294967295 from fun x hx => kids_ok HT.out.ok (by rw [hl]; exact hx))
                          replace HPRE := Lib.hid (show resC bs ns id r = (if l.any (badB bs (⟨b0.X, b0.Y, b0.W, b0.H⟩ : RC) r) = true then 1 else 0) by rw [HPRE.out, if_neg HEQ.out, hl]; rfl)
                          rw [hl] at HOU hc hkl ⊢
                          obtain ⟨n', hn'⟩ : ∃ n', l.length = n' := ⟨_, rfl⟩
                          rw [hn'] at HOU hc hkl ⊢
                          have HN' := Lib.hid hn'
                          have HWW := Lib.hid (show (⟨b0.X, b0.Y, b0.W, b0.H⟩ : RC).win from okBX_win (HBS.out id b0 HBI.out))
                          have HRW := Lib.hid (show r.win by
                            have h1 := coord_iff.1 HX.out
                            have h2 := coord_iff.1 HY.out
                            have h3 := side_iff.1 HW.out
                            have h4 := side_iff.1 HHH.out
                            unfold RC.win
                            omega)
                          clear t0 t1 hou hb7 hl hn'
                          go_wp2_with fail
                          as_aux_lemma =>
                            go_loopw [92, 15, 16, 17, 18, 19, 9] (fun i _ _ _ _ _ _ wr => ∃ k : Nat, i = .int .i64 k ∧ k ≤ n' ∧ (l.take k).any (badB bs (⟨b0.X, b0.Y, b0.W, b0.H⟩ : RC) r) = false ∧ MapIs Tryz.prog 27 .u32 wr mb3 n (resB bs (⟨b0.X, b0.Y, b0.W, b0.H⟩ : RC) r id (atR r b0) (l.take k)).f ∧ w7.grownBy wr (some mb3)) (fun i _ _ _ _ _ _ _ => n' - (intOf i).toNat)
                            case atStart => exact ⟨0, rfl, by omega, rfl, by rw [List.take_zero, resB_nil]; exact HM7.out, ⟨rfl, rfl, rfl, Nat.le_refl _, fun _ _ _ => rfl⟩⟩
                            case round =>
                              as_aux_lemma =>
                                obtain ⟨k, rfl, hk, hany, hmap, hgw⟩ := hrel
                                have HANY := Lib.hid hany
                                replace HMP := Lib.hid hmap
                                replace HG := Lib.hid hgw
                                replace HBW := Lib.hid (HBE.out.grown hgw HBE.out.size (fun q e => by cases e; have := HBE.out.size; have := HB3L.out; omega))
                                replace K4 := Lib.hid (K4.out.grown hgw (by intro e; injection e with e; omega))
                                replace K7 := Lib.hid (K7.out.grown hgw (by intro e; injection e with e; omega))
                                replace K8 := Lib.hid (K8.out.grown hgw (by intro e; injection e with e; omega))
                                replace K12 := Lib.hid (K12.out.grown hgw (by intro e; injection e with e; omega))
                                replace K13 := Lib.hid (K13.out.grown hgw (by intro e; injection e with e; omega))
                                have HL4 := Lib.hid K4.out.lt
                                have HL8 := Lib.hid K8.out.lt
                                have HL13 := Lib.hid K13.out.lt
                                have HLM := Lib.hid hmap.lt
                                have HLS := Lib.hid hgw.size
                                have hsz := hgw.size
                                have hown := HOU.out.kept hgw (.inr (fun e => by have := own_ge HOU.out _ e; have := HG6.out.size; have := HM5.out.lt; omega))
                                have HOW := Lib.hid hown
                                clear hany hmap hgw hown
                                by_cases hlt : k < n'
                                · obtain ⟨x, hx⟩ : ∃ x, l[k]? = some x := ⟨_, List.getElem?_eq_getElem (by rw [HN'.out]; exact hlt)⟩
                                  have hxb := HLO.out x (List.mem_of_getElem? hx)
                                  have HXM := Lib.hid (List.mem_of_getElem? hx)
                                  have HWX := Lib.hid (u32_wf hxb)
                                  have HTK := Lib.hid (take_snoc' hx)
                                  obtain ⟨b, off, rfl, hbl, hcl⟩ := (Rd.of_own HOW.out).2 (by omega)
                                  have hcell := hcl k _ (U32_at hx)
                                  have p4 := K4.out.cellV (i := 0) (v := .map (some mb1)) rfl
                                  have k1 : (k : Int) < (n' : Int) := by omega
                                  have k0 : (0 : Int) ≤ (k : Int) := by omega
                                  obtain ⟨bk, hbk⟩ : ∃ bk, (bs x).getD zBX = bk := ⟨_, rfl⟩
                                  have HGK := Lib.hid (show (bs.f x).getD zBX.v = bk.v from (bxv_getD (bs x)).trans (by rw [hbk]))
                                  obtain ⟨s, hs⟩ : ∃ s, (bs x).isSome = s := ⟨_, rfl⟩
                                  have HSK := Lib.hid (show (bs.f x).isSome = s by rw [← hs]; simp [Bxs.f])
                                  have HSS := Lib.hid hs
                                  have HBK := Lib.hid hbk
                                  have hgk : gravC bk.G = 0 ∧ (-32768 ≤ bk.X ∧ bk.X ≤ 32767) ∧ (-32768 ≤ bk.Y ∧ bk.Y ≤ 32767) := by
                                    rw [← hbk]
                                    cases hb : bs x with
                                    | none => exact ⟨by decide, by decide, by decide⟩
                                    | some b =>
                                      have := HBS.out x b hb
                                      exact ⟨this.2.2.2.2, this.1, this.2.1⟩
                                  obtain ⟨hgk0, hbx1, hby1⟩ := hgk
                                  have HGR := Lib.hid hgk0
                                  obtain ⟨mvv, hmvv⟩ : ∃ mvv, (!(decide (bk.G = 0))) = mvv := ⟨_, rfl⟩
                                  have HMV := Lib.hid hmvv
                                  have hshb := sh_bd (g := bk.G) HWW.out HRW.out
                                  obtain ⟨sx, hsx⟩ : ∃ sx, shX bk.G (⟨b0.X, b0.Y, b0.W, b0.H⟩ : RC) r = sx := ⟨_, rfl⟩
                                  obtain ⟨sy, hsy⟩ : ∃ sy, shY bk.G (⟨b0.X, b0.Y, b0.W, b0.H⟩ : RC) r = sy := ⟨_, rfl⟩
                                  rw [hsx, hsy] at hshb
                                  have HSX := Lib.hid hsx
                                  have HSY := Lib.hid hsy
                                  clear hx hcl hbk hs hgk0 hmvv hsx hsy
                                  go_upto_region 20 with (at_lookup; refine opt_look_ok rfl _ _ 36 rfl 27 46 .u32 Tryz.underlying27 Tryz.underlying36 zBX.v (Tryz.zeroBox _) (some mb1) n bs.f (by go_simp) (HM.out.below HBW.out) x (by go_simp) HWX.out ?_; rw [HGK.out, HSK.out]; unfold BX.v)
                                  obtain ⟨WF, hWF⟩ : ∃ WF, wr.alloc (.cells #[.int .i64 bk.X, .int .i64 bk.Y, .int .i64 bk.W, .int .i64 bk.H, .bool bk.M, .int .i64 bk.G, .int .i64 bk.B, .bool bk.S, .slice bk.A bk.n bk.c] 46) = WF := ⟨_, rfl⟩
                                  have b4 := K4.out.alloc (.cells #[.int .i64 bk.X, .int .i64 bk.Y, .int .i64 bk.W, .int .i64 bk.H, .bool bk.M, .int .i64 bk.G, .int .i64 bk.B, .bool bk.S, .slice bk.A bk.n bk.c] 46)
                                  have b7 := K7.out.alloc (.cells #[.int .i64 bk.X, .int .i64 bk.Y, .int .i64 bk.W, .int .i64 bk.H, .bool bk.M, .int .i64 bk.G, .int .i64 bk.B, .bool bk.S, .slice bk.A bk.n bk.c] 46)
                                  have b8 := K8.out.alloc (.cells #[.int .i64 bk.X, .int .i64 bk.Y, .int .i64 bk.W, .int .i64 bk.H, .bool bk.M, .int .i64 bk.G, .int .i64 bk.B, .bool bk.S, .slice bk.A bk.n bk.c] 46)
                                  have b12 := K12.out.alloc (.cells #[.int .i64 bk.X, .int .i64 bk.Y, .int .i64 bk.W, .int .i64 bk.H, .bool bk.M, .int .i64 bk.G, .int .i64 bk.B, .bool bk.S, .slice bk.A bk.n bk.c] 46)
                                  have b13 := K13.out.alloc (.cells #[.int .i64 bk.X, .int .i64 bk.Y, .int .i64 bk.W, .int .i64 bk.H, .bool bk.M, .int .i64 bk.G, .int .i64 bk.B, .bool bk.S, .slice bk.A bk.n bk.c] 46)
                                  have b16 := Blk.new wr 46 #[.int .i64 bk.X, .int .i64 bk.Y, .int .i64 bk.W, .int .i64 bk.H, .bool bk.M, .int .i64 bk.G, .int .i64 bk.B, .bool bk.S, .slice bk.A bk.n bk.c]
                                  have hmf := HMP.out.alloc (.cells #[.int .i64 bk.X, .int .i64 bk.Y, .int .i64 bk.W, .int .i64 bk.H, .bool bk.M, .int .i64 bk.G, .int .i64 bk.B, .bool bk.S, .slice bk.A bk.n bk.c] 46)
                                  have hgf := HG.out.andThen (World.grownBy_alloc wr (.cells #[.int .i64 bk.X, .int .i64 bk.Y, .int .i64 bk.W, .int .i64 bk.H, .bool bk.M, .int .i64 bk.G, .int .i64 bk.B, .bool bk.S, .slice bk.A bk.n bk.c] 46) none) (fun j hj => by cases hj)
                                  have hbf := bal HBW.out (.cells #[.int .i64 bk.X, .int .i64 bk.Y, .int .i64 bk.W, .int .i64 bk.H, .bool bk.M, .int .i64 bk.G, .int .i64 bk.B, .bool bk.S, .slice bk.A bk.n bk.c] 46)
                                  rw [hWF] at b4 b7 b8 b12 b13 b16 hmf hgf hbf ⊢
                                  replace K4 := Lib.hid b4
                                  replace K7 := Lib.hid b7
                                  replace K8 := Lib.hid b8
                                  replace K12 := Lib.hid b12
                                  replace K13 := Lib.hid b13
                                  replace K16 := Lib.hid b16
                                  replace HMP := Lib.hid hmf
                                  replace HG := Lib.hid hgf
                                  replace HBW := Lib.hid hbf
                                  clear p4 hcell b4 b7 b8 b12 b13 b16 hmf hgf hbf hWF
                                  have c5 := K16.out.cellV (i := 5) (v := .int .i64 bk.G) rfl
                                  have s0 := K7.out.cellV (i := 0) (v := .int .i64 r.X) rfl
                                  have s1 := K7.out.cellV (i := 1) (v := .int .i64 r.Y) rfl
                                  have s2 := K7.out.cellV (i := 2) (v := .int .i64 r.W) rfl
                                  have s3 := K7.out.cellV (i := 3) (v := .int .i64 r.H) rfl
                                  have u0 := K12.out.cellV (i := 0) (v := .int .i64 b0.X) rfl
                                  have u1 := K12.out.cellV (i := 1) (v := .int .i64 b0.Y) rfl
                                  have u2 := K12.out.cellV (i := 2) (v := .int .i64 b0.W) rfl
                                  have u3 := K12.out.cellV (i := 3) (v := .int .i64 b0.H) rfl
                                  go_wp2_with fail
                                  refine (shift_any bk.G (⟨b0.X, b0.Y, b0.W, b0.H⟩ : RC) r _ HGR.out HWW.out HRW.out (HH.out.below HBW.out hw0)).mono ?_
                                  rintro e w8 ⟨rfl, hb8⟩
                                  rw [HMV.out, HSX.out, HSY.out]
                                  replace K4 := Lib.hid ((K4.out.belowS hb8).alloc (.cells #[.int .i64 sx, .int .i64 sy] 59))
                                  replace K8 := Lib.hid ((K8.out.belowS hb8).alloc (.cells #[.int .i64 sx, .int .i64 sy] 59))
                                  replace K13 := Lib.hid ((K13.out.belowS hb8).alloc (.cells #[.int .i64 sx, .int .i64 sy] 59))
                                  have l16 := (K16.out.belowS hb8).lt
                                  replace K16 := Lib.hid ((K16.out.belowS hb8).alloc (.cells #[.int .i64 sx, .int .i64 sy] 59))
                                  replace K18 := Lib.hid (Blk.new w8 59 #[.int .i64 sx, .int .i64 sy])
                                  replace HMP := Lib.hid ((HMP.out.below hb8).alloc (.cells #[.int .i64 sx, .int .i64 sy] 59))
                                  replace HG := Lib.hid ((HG.out.andThen (show WF.grownBy w8 none from ⟨hb8.os, hb8.tape, hb8.output, hb8.size, fun i hi _ => hb8.block i hi⟩) (fun j hj => by cases hj)).andThen (World.grownBy_alloc w8 (.cells #[.int .i64 sx, .int .i64 sy] 59) none) (fun j hj => by cases hj))
                                  replace HBW := Lib.hid (bal (bstep HBW.out hb8) (.cells #[.int .i64 sx, .int .i64 sy] 59))
                                  clear hb8 c5 s0 s1 s2 s3 u0 u1 u2 u3
                                  have hmvB : mvB bs x = (s && mvv) := by
                                    unfold mvB
                                    have h1 := HSS.out
                                    have h2 := HBK.out
                                    cases hb : bs x with
                                    | none => rw [hb] at h1; rw [← h1]; simp
                                    | some b => rw [hb] at h1 h2; simp only [Option.getD_some] at h2; rw [h2, ← h1]; show (!(decide (bk.G = 0))) = _; rw [HMV.out]; rfl
                                  have HMVB := Lib.hid hmvB
                                  clear hmvB
                                  by_cases hsm : s = true ∧ mvv = true
                                  ·
                                    as_aux_lemma =>
                                      obtain ⟨rfl, rfl⟩ := hsm
                                      have hbkx : bs x = some bk := by
                                        have h1 := HSS.out
                                        have h2 := HBK.out
                                        cases hb : bs x with
                                        | none => rw [hb] at h1; cases h1
                                        | some b => rw [hb] at h2; exact congrArg some h2
                                      have HBX := Lib.hid hbkx
                                      clear hbkx
                                      go_upto_region 22 with fail
                                      obtain ⟨WG, hWG⟩ : ∃ WG, w8.alloc (.cells #[.int .i64 sx, .int .i64 sy] 59) = WG := ⟨_, rfl⟩
                                      have b4 := K4.out
                                      have b8 := K8.out
                                      have b13 := K13.out
                                      have b16 := K16.out
                                      have b18 := K18.out
                                      have hmf := HMP.out
                                      have hgf := HG.out
                                      have hbf := HBW.out
                                      rw [hWG] at b4 b8 b13 b16 b18 hmf hgf hbf ⊢
                                      replace K4 := Lib.hid b4
                                      replace K8 := Lib.hid b8
                                      replace K13 := Lib.hid b13
                                      replace K16 := Lib.hid b16
                                      replace K18 := Lib.hid b18
                                      replace HMP := Lib.hid hmf
                                      replace HG := Lib.hid hgf
                                      replace HBW := Lib.hid hbf
                                      clear b4 b8 b13 b16 b18 hmf hgf hbf hWG
                                      have x0 := K16.out.cellV (i := 0) (v := .int .i64 bk.X) rfl
                                      have x1 := K16.out.cellV (i := 1) (v := .int .i64 bk.Y) rfl
                                      have y0 := K18.out.cellV (i := 0) (v := .int .i64 sx) rfl
                                      have y1 := K18.out.cellV (i := 1) (v := .int .i64 sy) rfl
                                      have g0 := K16.out.frozen 0
                                      have g1 := K16.out.frozen 1
                                      go_region
                                      have hl4 := HL4.out
                                      have hl8 := HL8.out
                                      have hl13 := HL13.out
                                      have hlm := HLM.out
                                      have hls := HLS.out
                                      have hbz := HBE.out.size
                                      have b4 := ((K4.out.far (p := ⟨wr.heap.size, 0, none⟩) (by show _ ≠ _; simp only; omega) (.int .i64 (bk.X + sx))).far (p := ⟨wr.heap.size, 1, none⟩) (by show _ ≠ _; simp only; omega) (.int .i64 (bk.Y + sy))).drewT
                                      have b8 := ((K8.out.far (p := ⟨wr.heap.size, 0, none⟩) (by show _ ≠ _; simp only; omega) (.int .i64 (bk.X + sx))).far (p := ⟨wr.heap.size, 1, none⟩) (by show _ ≠ _; simp only; omega) (.int .i64 (bk.Y + sy))).drewT
                                      have b13 := ((K13.out.far (p := ⟨wr.heap.size, 0, none⟩) (by show _ ≠ _; simp only; omega) (.int .i64 (bk.X + sx))).far (p := ⟨wr.heap.size, 1, none⟩) (by show _ ≠ _; simp only; omega) (.int .i64 (bk.Y + sy))).drewT
                                      have b16 : Blk ((WG.setCell ⟨wr.heap.size, 0, none⟩ (.int .i64 (bk.X + sx))).setCell ⟨wr.heap.size, 1, none⟩ (.int .i64 (bk.Y + sy))).drew wr.heap.size 46 #[.int .i64 (bk.X + sx), .int .i64 (bk.Y + sy), .int .i64 bk.W, .int .i64 bk.H, .bool bk.M, .int .i64 bk.G, .int .i64 bk.B, .bool bk.S, .slice bk.A bk.n bk.c] := ((K16.out.set_ 0 (.int .i64 (bk.X + sx))).set_ 1 (.int .i64 (bk.Y + sy))).drewT
                                      have hmf := ((HMP.out.setCell (a := ⟨wr.heap.size, 0, none⟩) (by show _ ≠ _; simp only; omega) (.int .i64 (bk.X + sx))).setCell (a := ⟨wr.heap.size, 1, none⟩) (by show _ ≠ _; simp only; omega) (.int .i64 (bk.Y + sy))).drew
                                      have hgf := ((HG.out.andThen (grown_setCell WG ⟨wr.heap.size, 0, none⟩ (.int .i64 (bk.X + sx))) (fun j hj => .inl (by cases hj; show w7.heap.size ≤ wr.heap.size; omega))).andThen (grown_setCell _ ⟨wr.heap.size, 1, none⟩ (.int .i64 (bk.Y + sy))) (fun j hj => .inl (by cases hj; show w7.heap.size ≤ wr.heap.size; omega))).andThen (grown_drew _ none) (fun j hj => by cases hj)
                                      have hbf := (bset (p := ⟨wr.heap.size, 1, none⟩) (bset (p := ⟨wr.heap.size, 0, none⟩) HBW.out (by show w.heap.size ≤ wr.heap.size; omega) (.int .i64 (bk.X + sx))) (by show w.heap.size ≤ wr.heap.size; omega) (.int .i64 (bk.Y + sy))).drew
                                      clear x0 x1 y0 y1 g0 g1
                                      obtain ⟨WH, hWH⟩ : ∃ WH, ((WG.setCell ⟨wr.heap.size, 0, none⟩ (.int .i64 (bk.X + sx))).setCell ⟨wr.heap.size, 1, none⟩ (.int .i64 (bk.Y + sy))).drew = WH := ⟨_, rfl⟩
                                      rw [hWH] at b4 b8 b13 b16 hmf hgf hbf ⊢
                                      replace K4 := Lib.hid b4
                                      replace K8 := Lib.hid b8
                                      replace K13 := Lib.hid b13
                                      replace K16 := Lib.hid b16
                                      replace HMP := Lib.hid hmf
                                      replace HG := Lib.hid hgf
                                      replace HBW := Lib.hid hbf
                                      clear b4 b8 b13 b16 hmf hgf hbf hWH
                                      have x0 := K16.out.cellV (i := 0) (v := .int .i64 (bk.X + sx)) rfl
                                      have x1 := K16.out.cellV (i := 1) (v := .int .i64 (bk.Y + sy)) rfl
                                      have x2 := K16.out.cellV (i := 2) (v := .int .i64 bk.W) rfl
                                      have x3 := K16.out.cellV (i := 3) (v := .int .i64 bk.H) rfl
                                      have x4 := K16.out.cellV (i := 4) (v := .bool bk.M) rfl
                                      have x5 := K16.out.cellV (i := 5) (v := .int .i64 bk.G) rfl
                                      have x6 := K16.out.cellV (i := 6) (v := .int .i64 bk.B) rfl
                                      have x7 := K16.out.cellV (i := 7) (v := .bool bk.S) rfl
                                      have x8 := K16.out.cellV (i := 8) (v := .slice bk.A bk.n bk.c) rfl
                                      have p4 := K4.out.cellV (i := 0) (v := .map (some mb1)) rfl
                                      have q8 := K8.out.cellV (i := 0) (v := .map none) rfl
                                      have f8 := K8.out.frozen 0
                                      have l8 := K8.out.lt
                                      have p13 := K13.out.cellV (i := 0) (v := .map (some mb3)) rfl
                                      have hmvv : mvB bs x = true := by rw [HMVB.out]; rfl
                                      have HMT := Lib.hid hmvv
                                      clear hmvv
                                      obtain ⟨nx, hnx⟩ : ∃ nx, bk.X + sx = nx := ⟨_, rfl⟩
                                      obtain ⟨ny, hny⟩ : ∃ ny, bk.Y + sy = ny := ⟨_, rfl⟩
                                      have HMK := Lib.hid (show moveK (⟨b0.X, b0.Y, b0.W, b0.H⟩ : RC) r bk = ⟨nx, ny, bk.W, bk.H, bk.M, bk.G, bk.B, bk.S, bk.A, bk.n, bk.c⟩ by
                                        unfold moveK
                                        rw [HSX.out, HSY.out, hnx, hny])
                                      rw [hnx] at x0
                                      rw [hny] at x1
                                      have HNX := Lib.hid hnx
                                      have HNY := Lib.hid hny
                                      clear hnx hny
                                      have HBAD := Lib.hid (show badB bs (⟨b0.X, b0.Y, b0.W, b0.H⟩ : RC) r x = !(coordB nx && coordB ny) by
                                        unfold badB
                                        rw [HMT.out, HBX.out]
                                        simp only [Option.getD_some, Bool.true_and]
                                        rw [HMK.out])
                                      as_aux_lemma =>
                                        by_cases hgood : coordB nx = true ∧ coordB ny = true
                                        · obtain ⟨hg1, hg2⟩ := hgood
                                          have HG1 := Lib.hid hg1
                                          have HG2 := Lib.hid hg2
                                          have HPK := Lib.hid (bs_put (resB bs (⟨b0.X, b0.Y, b0.W, b0.H⟩ : RC) r id (atR r b0) (l.take k)) x ⟨nx, ny, bk.W, bk.H, bk.M, bk.G, bk.B, bk.S, bk.A, bk.n, bk.c⟩)
                                          clear hg1 hg2
                                          go_wp2_with (first
                                            | (go_at_call 37; refine (coord_any _ _).mono ?_; rintro e w' ⟨rfl, rfl⟩; first | rw [HG1.out] | rw [HG2.out])
                                            | (at_mapUpdate; refine map_put rfl _ _ _ 36 rfl 27 46 .u32 Tryz.underlying27 Tryz.underlying36 mb3 n (resB bs (⟨b0.X, b0.Y, b0.W, b0.H⟩ : RC) r id (atR r b0) (l.take k)).f (by go_simp) HMP.out (by simp only [maxLen]; omega) x (.agg #[.int .i64 nx, .int .i64 ny, .int .i64 bk.W, .int .i64 bk.H, .bool bk.M, .int .i64 bk.G, .int .i64 bk.B, .bool bk.S, .slice bk.A bk.n bk.c]) (by go_simp) (by go_simp) HWX.out ?_; rw [resB_some HBX.out]; intro w16 hm16 hg16; have HM16 := Lib.hid hm16; have HG16 := Lib.hid hg16; clear hm16 hg16; go_frame))
                                          go_roundw
                                          case rel =>
                                            refine ⟨k + 1, by go_num, by omega, ?_, ?_, HG.out.andThen HG16.out (fun j hj => .inr hj)⟩
                                            · rw [HTK.out, List.any_append, HANY.out]
                                              simp [HBAD.out, HG1.out, HG2.out]
                                            · rw [HTK.out, resB_yes HMT.out HBX.out, HMK.out, ← HPK.out]
                                              have := HM16.out
                                              rw [if_pos rfl] at this
                                              exact this
                                          case measure => simp [intOf]; omega
                                        · have hor : coordB nx = false ∨ (coordB nx = true ∧ coordB ny = false) := by
                                            cases h1 : coordB nx <;> cases h2 : coordB ny <;> simp [h1, h2] at hgood ⊢
                                          have HBADT := Lib.hid (show resC bs ns id r = 1 by
                                            rw [HPRE.out, if_pos]
                                            rw [List.any_eq_true]
                                            refine ⟨x, HXM.out, ?_⟩
                                            rw [HBAD.out]
                                            rcases hor with h1 | ⟨h1, h2⟩
                                            · rw [h1]; rfl
                                            · rw [h1, h2]; rfl)
                                          clear hgood
                                          rcases hor with h1 | ⟨h1, h2⟩
                                          · have HG1 := Lib.hid h1
                                            clear h1
                                            go_upto_region 24 with (go_at_call 37; refine (coord_any _ _).mono ?_; rintro e w' ⟨rfl, rfl⟩; rw [HG1.out])
                                            repeat (first | go_values | go_skip | go_guarded | go_step | go_upon)
                                            have r0 := (K8.out.set_ 0 (.map (some mb1))).cellV (i := 0) (v := .map (some mb1)) rfl
                                            exact bodyPost_ret (v := .tuple #[.agg #[.map (some mb1)], .int .i64 1]) (by simp [results, Tryz.results12, go_sem, r0]) rfl (resEnd_keep HM.out (bset HBW.out (by show w.heap.size ≤ w.heap.size + 1 + 1 + 1; omega) _) HBADT.out (by decide))
                                          · have HG1 := Lib.hid h1
                                            have HG2 := Lib.hid h2
                                            clear h1 h2
                                            go_upto_region 24 with (go_at_call 37; refine (coord_any _ _).mono ?_; rintro e w' ⟨rfl, rfl⟩; first | rw [HG1.out] | rw [HG2.out])
                                            repeat (first | go_values | go_skip | go_guarded | go_step | go_upon)
                                            have r0 := (K8.out.set_ 0 (.map (some mb1))).cellV (i := 0) (v := .map (some mb1)) rfl
                                            exact bodyPost_ret (v := .tuple #[.agg #[.map (some mb1)], .int .i64 1]) (by simp [results, Tryz.results12, go_sem, r0]) rfl (resEnd_keep HM.out (bset HBW.out (by show w.heap.size ≤ w.heap.size + 1 + 1 + 1; omega) _) HBADT.out (by decide))
                                  · have hor : s = false ∨ (s = true ∧ mvv = false) := by
                                      cases s <;> cases mvv <;> simp at hsm ⊢
                                    clear hsm
                                    rcases hor with rfl | ⟨rfl, rfl⟩
                                    all_goals
                                      go_wp2_with fail
                                      go_roundw
                                      case rel =>
                                        have hno : mvB bs x = false := by rw [HMVB.out]; rfl
                                        refine ⟨k + 1, by go_num, by omega, ?_, ?_, HG.out⟩
                                        · rw [HTK.out, List.any_append, HANY.out]
                                          simp [badB, hno]
                                        · rw [HTK.out, resB_no hno]
                                          exact HMP.out
                                      case measure => simp [intOf]; omega
                                · obtain rfl : k = n' := by omega
                                  have p13 := K13.out.cellV (i := 0) (v := .map (some mb3)) rfl
                                  have q8 := K8.out.cellV (i := 0) (v := .map none) rfl
                                  have f8 := K8.out.frozen 0
                                  have l8 := K8.out.lt
                                  go_upto_region 27 with fail
                                  repeat (first | go_values | go_skip | go_guarded | go_step | go_upon)
                                  have r0 := (K8.out.set_ 0 (.map (some mb3))).cellV (i := 0) (v := .map (some mb3)) rfl
                                  have ht : l.take k = l := List.take_of_length_le (by rw [HN'.out]; exact Nat.le_refl _)
                                  have hm9 := HMP.out
                                  rw [ht, ← HL.out] at hm9
                                  have hc0 : resC bs ns id r = 0 := by
                                    have := HANY.out
                                    rw [ht] at this
                                    rw [HPRE.out, this]
                                    rfl
                                  have hl8 := HL8.out
                                  have hl12 := HL12.out
                                  have hb3l := HB3L.out
                                  exact bodyPost_ret (v := .tuple #[.agg #[.map (some mb3)], .int .i64 0]) (by simp [results, Tryz.results12, go_sem, r0]) rfl (resEnd_new (hm9.setCell (a := ⟨w.heap.size + 1 + 1 + 1, 0, none⟩) (by show _ ≠ _; simp only; omega) _) (bset HBW.out (by show w.heap.size ≤ w.heap.size + 1 + 1 + 1; omega) _) hc0 HBI.out HEQ.out)
end Go.Proofs.YtbfefkhejknmoaaGreatDoor
