/-
  The walk of glazierlaw32.Views: two scenes over one tree, and their views.
-/
import Derived.Test.YtbkkecijcijhdaaGreatZD29
import Derived.Test.YtbkkecijcijhdaaGreatZD28
import Derived.Test.YtbkkecijcijhdaaGreatZD32
section
namespace Go.Proofs.YtbkkecijcijhdaaGreat
open Go.RowKit Go.Maps Go.Shelf

set_option maxRecDepth 100000 in
theorem id32_any (n : Nat) (w : World) (h : n ≤ 1000) : Calls Tryz.prog 49 #[.int .i64 n] w fun e w' => e = .returned (.int .u32 (idW ((n : Int) - 1))) ∧ Below w.heap.size w w' := by
  by_cases h0 : n = 0
  · subst h0
    go_enter Tryz.func49, Tryz.ntmps49
    go_wp2_with fail
    go_ret
    exact ⟨rfl, bre w⟩
  · have e : idW ((n : Int) - 1) = 1048576 + (n : Int) := by unfold idW; rw [if_neg (by omega)]; omega
    have e1 : IntKind.i64.wrap (1048576 + (n : Int)) = 1048576 + (n : Int) := IntWalk.i64_in _ (by omega)
    have e2 : IntKind.u32.wrap (1048576 + (n : Int)) = 1048576 + (n : Int) := IntWalk.u32_in _ (by omega)
    have h1 : ¬ (n : Int) = 0 := by omega
    rw [e]
    go_enter Tryz.func49, Tryz.ntmps49
    go_wp2_with fail
    go_ret
    exact ⟨rfl, bre w⟩
theorem id32_s (n : Nat) (m : Int) (hm : m = (n : Int) - 1) (w : World) (h : n ≤ 1000) : Calls Tryz.prog 49 #[.int .i64 n] w fun e w' => e = .returned (.int .u32 (idW m)) ∧ Below w.heap.size w w' := by
  subst hm
  exact id32_any n w h
/-- a spot's box. -/
def SpW.bx (s : SpW) : BX := ⟨s.X, s.Y, s.W % 8 + 1, s.H % 8 + 1, s.M, 0, 0, false, none, 0, 0⟩
set_option maxRecDepth 100000 in
set_option maxHeartbeats 4000000 in
theorem box32_any (s : SpW) (w : World) (hs : s.ok) : Calls Tryz.prog 96 #[.agg #[.int .i8 s.X, .int .i8 s.Y, .int .u8 s.W, .int .u8 s.H, .bool s.M]] w fun e w' => e = .returned s.bx.v ∧ Below w.heap.size w w' := by
  obtain ⟨⟨hx, hy⟩, hw, hh⟩ := hs
  have c1 : IntKind.i64.wrap s.X = s.X := IntWalk.i64_in _ (by omega)
  have c2 : IntKind.i64.wrap s.Y = s.Y := IntWalk.i64_in _ (by omega)
  obtain ⟨a, ha⟩ : ∃ a, s.W % 8 = a := ⟨_, rfl⟩
  obtain ⟨b, hb⟩ : ∃ b, s.H % 8 = b := ⟨_, rfl⟩
  have ha2 : 0 ≤ a ∧ a ≤ 7 := by omega
  have hb2 : 0 ≤ b ∧ b ≤ 7 := by omega
  have t1 : s.W.tmod 8 = a := by rw [Int.tmod_eq_emod_of_nonneg (by omega)]; exact ha
  have t2 : s.H.tmod 8 = b := by rw [Int.tmod_eq_emod_of_nonneg (by omega)]; exact hb
  have w1 : IntKind.i64.wrap a = a := IntWalk.i64_in _ (by omega)
  have w2 : IntKind.i64.wrap b = b := IntWalk.i64_in _ (by omega)
  have v1 : IntKind.i64.wrap (a + 1) = a + 1 := IntWalk.i64_in _ (by omega)
  have v2 : IntKind.i64.wrap (b + 1) = b + 1 := IntWalk.i64_in _ (by omega)
  have HV := Lib.hid (show s.bx.v = .agg #[.int .i64 s.X, .int .i64 s.Y, .int .i64 (a + 1), .int .i64 (b + 1), .bool s.M, .int .i64 0, .int .i64 0, .bool false, .slice none 0 0] by unfold SpW.bx BX.v; rw [ha, hb])
  have xK1 := (Blk.new w 175 #[.int .i8 s.X, .int .i8 s.Y, .int .u8 s.W, .int .u8 s.H, .bool s.M]).alloc (.cells #[.int .i64 0, .int .i64 0, .int .i64 0, .int .i64 0, .bool false, .int .i64 0, .int .i64 0, .bool false, .slice none 0 0] 156)
  have xK2 := blk_new2 w (.cells #[.int .i8 s.X, .int .i8 s.Y, .int .u8 s.W, .int .u8 s.H, .bool s.M] 175) 156 #[.int .i64 0, .int .i64 0, .int .i64 0, .int .i64 0, .bool false, .int .i64 0, .int .i64 0, .bool false, .slice none 0 0]
  have HBZ := Lib.hid (bal (bal (bre w) (.cells #[.int .i8 s.X, .int .i8 s.Y, .int .u8 s.W, .int .u8 s.H, .bool s.M] 175)) (.cells #[.int .i64 0, .int .i64 0, .int .i64 0, .int .i64 0, .bool false, .int .i64 0, .int .i64 0, .bool false, .slice none 0 0] 156))
  have q0 := xK1.cellV (i := 0) (v := .int .i8 s.X) rfl
  have q1 := xK1.cellV (i := 1) (v := .int .i8 s.Y) rfl
  have q2 := xK1.cellV (i := 2) (v := .int .u8 s.W) rfl
  have q3 := xK1.cellV (i := 3) (v := .int .u8 s.H) rfl
  have q4 := xK1.cellV (i := 4) (v := .bool s.M) rfl
  have K2 := Lib.hid xK2
  clear xK1 xK2 ha hb
  go_enter Tryz.func96, Tryz.ntmps96
  go_upto_region 1 with fail
  obtain ⟨X0, hX0⟩ : ∃ X0, (w.alloc (.cells #[.int .i8 s.X, .int .i8 s.Y, .int .u8 s.W, .int .u8 s.H, .bool s.M] 175)).alloc (.cells #[.int .i64 0, .int .i64 0, .int .i64 0, .int .i64 0, .bool false, .int .i64 0, .int .i64 0, .bool false, .slice none 0 0] 156) = X0 := ⟨_, rfl⟩
  rw [hX0] at K2 HBZ q0 q1 q2 q3 q4 ⊢
  clear hX0
  apply wp_region_lit
  iterate 54 (first | go_step | go_upon)
  refine wpList_bld rfl #[.int .i64 s.X, .int .i64 s.Y, .int .i64 (a + 1), .int .i64 (b + 1), .bool s.M, .int .i64 0, .int .i64 0, .bool false, .slice none 0 0] (by as_aux_lemma => kernel_rfl) ?_
  clear q0 q1 q2 q3 q4
  have z0 := K2.out.cellV (i := 0) (v := .int .i64 0) rfl
  have z1 := K2.out.cellV (i := 1) (v := .int .i64 0) rfl
  have z2 := K2.out.cellV (i := 2) (v := .int .i64 0) rfl
  have z3 := K2.out.cellV (i := 3) (v := .int .i64 0) rfl
  have z4 := K2.out.cellV (i := 4) (v := .bool false) rfl
  have z5 := K2.out.cellV (i := 5) (v := .int .i64 0) rfl
  have z6 := K2.out.cellV (i := 6) (v := .int .i64 0) rfl
  have z7 := K2.out.cellV (i := 7) (v := .bool false) rfl
  have z8 := K2.out.cellV (i := 8) (v := .slice none 0 0) rfl
  have f0 := K2.out.frozen 0
  have f1 := K2.out.frozen 1
  have f2 := K2.out.frozen 2
  have f3 := K2.out.frozen 3
  have f4 := K2.out.frozen 4
  have f5 := K2.out.frozen 5
  have f6 := K2.out.frozen 6
  have f7 := K2.out.frozen 7
  have f8 := K2.out.frozen 8
  have l2 := K2.out.lt
  go_wp2_with fail
  have hk := blk_put9 (.int .i64 s.X) (.int .i64 s.Y) (.int .i64 (a + 1)) (.int .i64 (b + 1)) (.bool s.M) (.int .i64 0) (.int .i64 0) (.bool false) (.slice none 0 0) K2.out
  have hb := bsets HBZ.out (show w.heap.size ≤ w.heap.size + 1 by omega) (#[.int .i64 s.X, .int .i64 s.Y, .int .i64 (a + 1), .int .i64 (b + 1), .bool s.M, .int .i64 0, .int .i64 0, .bool false, .slice none 0 0] : Array Value).toList 0
  have r0 := hk.cellV (i := 0) (v := .int .i64 s.X) rfl
  have r1 := hk.cellV (i := 1) (v := .int .i64 s.Y) rfl
  have r2 := hk.cellV (i := 2) (v := .int .i64 (a + 1)) rfl
  have r3 := hk.cellV (i := 3) (v := .int .i64 (b + 1)) rfl
  have r4 := hk.cellV (i := 4) (v := .bool s.M) rfl
  have r5 := hk.cellV (i := 5) (v := .int .i64 0) rfl
  have r6 := hk.cellV (i := 6) (v := .int .i64 0) rfl
  have r7 := hk.cellV (i := 7) (v := .bool false) rfl
  have r8 := hk.cellV (i := 8) (v := .slice none 0 0) rfl
  exact bodyPost_ret (v := .agg #[.int .i64 s.X, .int .i64 s.Y, .int .i64 (a + 1), .int .i64 (b + 1), .bool s.M, .int .i64 0, .int .i64 0, .bool false, .slice none 0 0]) (by simp [results, Tryz.results96, go_sem, r0, r1, r2, r3, r4, r5, r6, r7, r8]) rfl ⟨by rw [HV.out], hb⟩
/-- what is held while windows are made. -/
structure MX (w : World) (g5 g6 g8 : Nat) (la lb : List DW) (k : Nat) (mk mu mp mq : Option Nat) (nk : Nat) (fk : Int → Option Value) (bs bt : Bxs) : Prop where
  k5 : Blk w g5 34 #[.map mk, .map mu]
  k6 : Blk w g6 37 #[.map mp]
  k8 : Blk w g8 37 #[.map mq]
  tree : TreeIs w (.agg #[.map mk, .map mu]) (nodesW (la.take k)) mk mu nk fk
  pa : PlaceIs w (.agg #[.map mp]) (k + 1) bs
  pb : PlaceIs w (.agg #[.map mq]) (k + 1) bt
  sa : SceneIs w bs 12 10 (la.take k)
  sb : SceneIs w bt 12 10 (lb.take k)
theorem MX.below {w w' : World} {g5 g6 g8 : Nat} {la lb : List DW} {k : Nat} {mk mu mp mq : Option Nat} {nk : Nat} {fk : Int → Option Value} {bs bt : Bxs} (h : MX w g5 g6 g8 la lb k mk mu mp mq nk fk bs bt) (hb : Below w.heap.size w w') : MX w' g5 g6 g8 la lb k mk mu mp mq nk fk bs bt :=
  ⟨h.k5.belowS hb, h.k6.belowS hb, h.k8.belowS hb, h.tree.below hb, h.pa.below hb, h.pb.below hb, h.sa.below hb, h.sb.below hb⟩
theorem SceneIs.anyX {W W' : World} {bs : Bxs} {RW RH : Int} {l : List DW} (h : SceneIs W bs RW RH l) (hs : ∀ d ∈ l, d.sh = []) : SceneIs W' bs RW RH l :=
  ⟨h.root, fun i d hd => by
    obtain ⟨b, h1, h2, out, h3, h4⟩ := h.each i d hd
    have h5 := hs d (List.mem_of_getElem? hd)
    have h6 : out = [] := by
      obtain ⟨_, _, _, _, hc, _⟩ := h3
      exact no_places hc (fun x y hxy => by
        have h7 := (inB_iff out x y).2 hxy
        rw [h4, h5] at h7
        cases h7)
    subst h6
    obtain ⟨A, c, e, _⟩ := h3
    refine ⟨b, h1, h2, [], ?_, h4⟩
    rw [e]
    exact ⟨A, c, rfl, ⟨rfl, fun h => absurd h (by decide)⟩, canon_nilV, by simp, by simp⟩, h.only⟩
theorem map_no1 (a : Option Nat) : ∀ (j : Nat) (x : Int), (#[.map a] : Array Value)[j]? ≠ some (.int .u32 x) := fun j x => by
  match j with
  | 0 => simp
  | j + 1 => simp
/-- the round's tree and places laid down. -/
theorem mx_next {w W9 : World} {g5 g6 g8 : Nat} {la lb : List DW} {k : Nat} {mk mu mp mq mk' mu' mp' mq' : Option Nat} {nk : Nat} {fk : Int → Option Value} {bs bt : Bxs} (h5 : Blk w g5 34 #[.map mk, .map mu]) (h6 : Blk w g6 37 #[.map mp]) (h8 : Blk w g8 37 #[.map mq]) (n1 : g5 ≠ g6) (n2 : g5 ≠ g8) (n3 : g6 ≠ g8)
    (ht : TreeIs w (.agg #[.map mk', .map mu']) (nodesW (la.take (k + 1))) mk' mu' nk fk) (hp : PlaceIs w (.agg #[.map mp']) (k + 1 + 1) bs) (hq : PlaceIs w (.agg #[.map mq']) (k + 1 + 1) bt) (sa : SceneIs w bs 12 10 (la.take (k + 1))) (sb : SceneIs w bt 12 10 (lb.take (k + 1))) (ha : ∀ d ∈ la.take (k + 1), d.sh = []) (hb : ∀ d ∈ lb.take (k + 1), d.sh = [])
    (hW : ((((w.setCell ⟨g5, 0, none⟩ (.map mk')).setCell ⟨g5, 1, none⟩ (.map mu')).setCell ⟨g6, 0, none⟩ (.map mp')).setCell ⟨g8, 0, none⟩ (.map mq')).drew = W9) : MX W9 g5 g6 g8 la lb (k + 1) mk' mu' mp' mq' nk fk bs bt := by
  have a5 := h5.set_ 0 (.map mk')
  have b5 := a5.set_ 1 (.map mu')
  have a6 := (h6.far (p := ⟨g5, 0, none⟩) (Ne.symm n1) (.map mk')).far (p := ⟨g5, 1, none⟩) (Ne.symm n1) (.map mu')
  have b6 := a6.set_ 0 (.map mp')
  have a8 := ((h8.far (p := ⟨g5, 0, none⟩) (Ne.symm n2) (.map mk')).far (p := ⟨g5, 1, none⟩) (Ne.symm n2) (.map mu')).far (p := ⟨g6, 0, none⟩) (Ne.symm n3) (.map mp')
  rw [← hW]
  refine ⟨((b5.far (p := ⟨g6, 0, none⟩) n1 (.map mp')).far (p := ⟨g8, 0, none⟩) n2 (.map mq')).drewT, (b6.far (p := ⟨g8, 0, none⟩) n3 (.map mq')).drewT, (a8.set_ 0 (.map mq')).drewT, ?_, ?_, ?_, sa.anyX ha, sb.anyX hb⟩
  · exact ((((ht.setBlk h5 (maps_no _ _) 0 _).setBlk a5 (maps_no _ _) 1 _).setBlk a6 (map_no1 _) 0 _).setBlk a8 (map_no1 _) 0 _).below (bre _).drew
  · exact ((((hp.setBlk h5 0 _).setBlk a5 1 _).setBlk a6 0 _).setBlk a8 0 _).below (bre _).drew
  · exact ((((hq.setBlk h5 0 _).setBlk a5 1 _).setBlk a6 0 _).setBlk a8 0 _).below (bre _).drew
theorem add_preX {l : List DW} {k : Nat} {d : DW} (h : UpOk l) (hd : l[k]? = some d) (hk : k ≤ 60) : idC (idW k) = 0 ∧ hasN (nodesW (l.take k)) (idW k) = false ∧ hasN (nodesW (l.take k)) (idW d.P) = true ∧ decide ((64 : Int) ≤ ((nodesW (l.take k)).length : Int) + 1) = false := by
  have hlt := (List.getElem?_eq_some_iff.1 hd).1
  have hlen : (l.take k).length = k := by rw [List.length_take]; omega
  have hp := h k d hd
  refine ⟨idC_W (by omega), ?_, hasW hp.1 (by rw [hlen]; exact hp.2), by rw [nodesW_len, hlen]; exact decide_eq_false (by omega)⟩
  cases hh : hasN (nodesW (l.take k)) (idW k) with
  | false => rfl
  | true =>
    obtain ⟨n, a, b, e⟩ := hasW_inv hh
    have := idW_inj (by omega) a e
    rw [hlen] at b
    omega
theorem view_noX (A : Option Addr) (n c : Nat) (m : Option Nat) : ∀ (j : Nat) (k : IntKind) (x : Int), (#[.slice A n c, .map m] : Array Value)[j]? ≠ some (.int k x) := fun j k x => by
  match j with
  | 0 => simp
  | 1 => simp
  | j + 2 => simp
theorem view_noY (A : Option Addr) (n c : Nat) (m : Option Nat) : ∀ (j : Nat) (x : Int), (#[.slice A n c, .map m] : Array Value)[j]? ≠ some (.int .u32 x) := fun j x => view_noX A n c m j .u32 x
set_option maxRecDepth 100000 in
theorem Tryz.sizeVwX : (Tryz.prog.info? 43).map (·.size) = some 2 := by kernel_rfl
theorem SeenG.setNo32 {w : World} {v : Value} {RW RH : Nat} {ns : Nodes} {bx : Int → Option VB} {og : Int → Int × Int} (h : SeenG w v RW RH ns bx og) {B : Nat} {t : TypeId} {cs : Array Value} (hB : Blk w B t cs) (hno : ∀ (j : Nat) (k : IntKind) (x : Int), cs[j]? ≠ some (.int k x)) (i : Nat) (u : Value) : SeenG (w.setCell ⟨B, i, none⟩ u) v RW RH ns bx og := by
  obtain ⟨A, n, c, mv, nm, f, hv⟩ := h.is
  have hn : NoInt w B := fun o k i e => by
    rw [hB.cell] at e
    exact hno o k i e
  refine ⟨⟨A, n, c, mv, nm, f, ?_⟩, h.org⟩
  exact { hv with
    order := hv.order.keepG (grown_setCell w ⟨B, i, none⟩ u) hn
    map := hv.map.setBlk hB i u
    told := fun j e he => by
      obtain ⟨A, c, out, h1, h2, h3⟩ := hv.told j e he
      exact ⟨A, c, out, h1, h2.keepG (grown_setCell w ⟨B, i, none⟩ u) hn, h3⟩ }
set_option maxRecDepth 100000 in
set_option maxHeartbeats 8000000 in
theorem views_any (A : Option Addr) (n c : Nat) (xs : List XW) (w : World) (hn : n ≤ 6) (hr : RdF XW.cells 11 w A n xs) (hok : ∀ x ∈ xs, x.ok) :
    Calls Tryz.prog 48 #[.slice A n c] w fun e w' => ∃ va vb oga ogb, e = .returned (.tuple #[va, vb, .bool true]) ∧ SeenG w' va 12 10 (nodesW (dwsX XW.a xs)) (bxS 12 10 (dwsX XW.a xs)) oga ∧ SeenG w' vb 12 10 (nodesW (dwsX XW.a xs)) (bxS 12 10 (dwsX XW.b xs)) ogb ∧ Below w.heap.size w w' := by
  have HR := Lib.hid hr
  have HFL := Lib.hid hr.1
  have HOK := Lib.hid hok
  have hnod := nodesX XW.b XW.a xs
  obtain ⟨la, hla⟩ : ∃ l, dwsX XW.a xs = l := ⟨_, rfl⟩
  obtain ⟨lb, hlb⟩ : ∃ l, dwsX XW.b xs = l := ⟨_, rfl⟩
  have HUP := Lib.hid (show UpOk la by rw [← hla]; exact dwsX_up hok)
  have HDA := Lib.hid (show ∀ d ∈ la, DWok d by rw [← hla]; exact dwsX_ok (fun x hx => (hok x hx).2.1))
  have HDB := Lib.hid (show ∀ d ∈ lb, DWok d by rw [← hlb]; exact dwsX_ok (fun x hx => (hok x hx).2.2))
  have HSA := Lib.hid (show ∀ d ∈ la, d.sh = [] by rw [← hla]; exact dwsX_sh)
  have HSB := Lib.hid (show ∀ d ∈ lb, d.sh = [] by rw [← hlb]; exact dwsX_sh)
  have HGA := Lib.hid (show ∀ (i : Nat) (x : XW), xs[i]? = some x → la[i]? = some (x.a.dw (x.up i)) by rw [← hla]; exact fun i x h => dwsX_get h)
  have HGB := Lib.hid (show ∀ (i : Nat) (x : XW), xs[i]? = some x → lb[i]? = some (x.b.dw (x.up i)) by rw [← hlb]; exact fun i x h => dwsX_get h)
  have HLA := Lib.hid (show la.length = n by rw [← hla, dwsX_len]; exact hr.1)
  have HLB := Lib.hid (show lb.length = n by rw [← hlb, dwsX_len]; exact hr.1)
  rw [hla, hlb] at hnod
  have HND := Lib.hid hnod
  clear hr hok hnod
  rw [hla, hlb]
  clear hla hlb
  go_enter Tryz.func48, Tryz.ntmps48
  go_upto_region 1 with fail
  have hba := bal (bal (bre w) (.cells #[.slice none 0 0, .map none] 43)) (.cells #[.slice none 0 0, .map none] 43)
  have xK2 := (Blk.new w 43 #[.slice none 0 0, .map none]).alloc (.cells #[.slice none 0 0, .map none] 43)
  have xK3 := blk_new2 w (.cells #[.slice none 0 0, .map none] 43) 43 #[.slice none 0 0, .map none]
  obtain ⟨X0, hX0⟩ : ∃ X0, (w.alloc (.cells #[.slice none 0 0, .map none] 43)).alloc (.cells #[.slice none 0 0, .map none] 43) = X0 := ⟨_, rfl⟩
  have hsz : X0.heap.size = w.heap.size + 1 + 1 := by rw [← hX0]; simp
  rw [hX0] at hba xK2 xK3 ⊢
  have HB := Lib.hid hba
  have K2 := Lib.hid xK2
  have K3 := Lib.hid xK3
  have HS0 := Lib.hid hsz
  clear hba xK2 xK3 hX0 hsz
  go_wp2_with fail
  refine (tnew_any _).mono ?_
  rintro e w1 ⟨rfl, hb1⟩
  have HS1 := Lib.hid hb1.size
  replace HB := Lib.hid (bstep HB.out hb1)
  replace K2 := Lib.hid (K2.out.belowS hb1)
  replace K3 := Lib.hid (K3.out.belowS hb1)
  clear hb1
  go_upto_region 2 with fail
  have hba : Below w1.heap.size w1 (w1.alloc (.cells #[.map none, .map none] 34)) := bal (bre w1) _
  have xHB := bstep HB.out hba
  have xK2 := K2.out.belowS hba
  have xK3 := K3.out.belowS hba
  have xK5 := Blk.new w1 34 #[.map none, .map none]
  obtain ⟨X1, hX1⟩ : ∃ X1, w1.alloc (.cells #[.map none, .map none] 34) = X1 := ⟨_, rfl⟩
  rw [hX1] at hba xHB xK2 xK3 xK5 ⊢
  replace HB := Lib.hid xHB
  replace K2 := Lib.hid xK2
  replace K3 := Lib.hid xK3
  have K5 := Lib.hid xK5
  have HSX1 := Lib.hid hba.size
  have HTK5 := Lib.hid K5.out.lt
  clear hX1 hba xHB xK2 xK3 xK5
  go_wp2_with fail
  refine (pnew_any 12 10 _ (by decide) (by decide)).mono ?_
  rintro e w2 ⟨pv0, rfl, hp0, hb2⟩
  have HP0 := Lib.hid hp0
  obtain ⟨mp0, rfl, _⟩ := hp0
  have HS2 := Lib.hid hb2.size
  replace HB := Lib.hid (bstep HB.out hb2)
  replace K2 := Lib.hid (K2.out.belowS hb2)
  replace K3 := Lib.hid (K3.out.belowS hb2)
  replace K5 := Lib.hid (K5.out.belowS hb2)
  clear hb2
  go_upto_region 3 with fail
  have hba : Below w2.heap.size w2 (w2.alloc (.cells #[.map mp0] 37)) := bal (bre w2) _
  have xHB := bstep HB.out hba
  have xK2 := K2.out.belowS hba
  have xK3 := K3.out.belowS hba
  have xK5 := K5.out.belowS hba
  have xHP0 := HP0.out.below hba
  have xK6 := Blk.new w2 37 #[.map mp0]
  obtain ⟨X2, hX2⟩ : ∃ X2, w2.alloc (.cells #[.map mp0] 37) = X2 := ⟨_, rfl⟩
  rw [hX2] at hba xHB xK2 xK3 xK5 xHP0 xK6 ⊢
  replace HB := Lib.hid xHB
  replace K2 := Lib.hid xK2
  replace K3 := Lib.hid xK3
  replace K5 := Lib.hid xK5
  replace HP0 := Lib.hid xHP0
  have K6 := Lib.hid xK6
  have HSX2 := Lib.hid hba.size
  have HTK6 := Lib.hid K6.out.lt
  clear hX2 hba xHB xK2 xK3 xK5 xHP0 xK6
  have q6 := K6.out.cellV (i := 0) (v := .map mp0) rfl
  go_upto_region 4 with fail
  clear q6
  have hba : Below X2.heap.size X2 (X2.alloc (.cells #[.map mp0] 37)) := bal (bre X2) _
  have xHB := bstep HB.out hba
  have xK2 := K2.out.belowS hba
  have xK3 := K3.out.belowS hba
  have xK5 := K5.out.belowS hba
  have xK6 := K6.out.belowS hba
  have xHP0 := HP0.out.below hba
  have xK8 := Blk.new X2 37 #[.map mp0]
  obtain ⟨X3, hX3⟩ : ∃ X3, X2.alloc (.cells #[.map mp0] 37) = X3 := ⟨_, rfl⟩
  rw [hX3] at hba xHB xK2 xK3 xK5 xK6 xHP0 xK8 ⊢
  replace HB := Lib.hid xHB
  replace K2 := Lib.hid xK2
  replace K3 := Lib.hid xK3
  replace K5 := Lib.hid xK5
  replace K6 := Lib.hid xK6
  replace HP0 := Lib.hid xHP0
  have K8 := Lib.hid xK8
  have HSX3 := Lib.hid hba.size
  have HTK8 := Lib.hid K8.out.lt
  clear hX3 hba xHB xK2 xK3 xK5 xK6 xHP0 xK8
  have HLT := Lib.hid (show (w.heap.size + 1 < w1.heap.size ∧ w1.heap.size < w2.heap.size) ∧ w2.heap.size < X2.heap.size ∧ X2.heap.size < X3.heap.size by have := HS0.out; have := HS1.out; have := HSX1.out; have := HS2.out; have := HTK5.out; have := HTK6.out; have := HTK8.out; omega)
  have HMX := Lib.hid (show MX X3 w1.heap.size w2.heap.size X2.heap.size la lb 0 none none mp0 mp0 0 (fun _ => none) (fun i => if i = 1 then some (rootBX 12 10) else none) (fun i => if i = 1 then some (rootBX 12 10) else none) from
    ⟨K5.out, K6.out, K8.out, tree_new X3, HP0.out, HP0.out, SceneIs.nil, SceneIs.nil⟩)
  clear K5 K6 K8 HP0
  go_wp2_with fail
  go_loopw [29] (fun i wr => ∃ (k : Nat) (mk mu mp mq : Option Nat) (nk : Nat) (fk : Int → Option Value) (bs bt : Bxs), i = .int .i64 k ∧ k ≤ n ∧ MX wr w1.heap.size w2.heap.size X2.heap.size la lb k mk mu mp mq nk fk bs bt ∧ (Blk wr w.heap.size 43 #[.slice none 0 0, .map none] ∧ Blk wr (w.heap.size + 1) 43 #[.slice none 0 0, .map none]) ∧ X3.heap.size ≤ wr.heap.size ∧ Below w.heap.size w wr) (fun i _ => n - (intOf i).toNat)
  case atStart => exact ⟨0, none, none, mp0, mp0, 0, _, _, _, rfl, by omega, HMX.out, ⟨K2.out, K3.out⟩, Nat.le_refl _, HB.out⟩
  case round =>
    obtain ⟨k, mk, mu, mp, mq, nk, fk, bs, bt, rfl, hk, hmx, ⟨h2, h3⟩, hsz, hB⟩ := hrel
    replace HB := Lib.hid hB
    replace HMX := Lib.hid hmx
    replace K2 := Lib.hid h2
    replace K3 := Lib.hid h3
    have HSR := Lib.hid hsz
    clear hB hmx h2 h3 hsz
    by_cases hlt : k < n
    · obtain ⟨x, hx⟩ : ∃ x, xs[k]? = some x := ⟨_, List.getElem?_eq_getElem (by rw [HFL.out]; exact hlt)⟩
      have k1 : (k : Int) < (n : Int) := by omega
      have k0 : (0 : Int) ≤ (k : Int) := by omega
      have HD := Lib.hid (HGA.out k x hx)
      have HE := Lib.hid (HGB.out k x hx)
      have xok := HOK.out x (List.mem_of_getElem? hx)
      have HXO := Lib.hid xok
      have hub := XW.up_bd xok k
      have HUB := Lib.hid hub
      obtain ⟨p, hp⟩ : ∃ p : Nat, x.I % ((k : Int) + 1) = (p : Int) := ⟨(x.I % ((k : Int) + 1)).toNat, by have := Int.emod_nonneg x.I (show ((k : Int) + 1) ≠ 0 by omega); omega⟩
      have HPW := Lib.hid (show x.up k = (p : Int) - 1 by unfold XW.up; rw [hp])
      have hpk : p ≤ k := by have := HPW.out; omega
      obtain ⟨b, off, rfl, hb, hcl⟩ := HR.out.2 (by omega)
      have e0 := (HB.out.cell (p := ⟨b, off + k * 11, none⟩) hb).trans (hcl k x hx 0 _ rfl)
      have e1 := (HB.out.cell (p := ⟨b, off + k * 11 + 1, none⟩) hb).trans (hcl k x hx 1 _ rfl)
      have e2 := (HB.out.cell (p := ⟨b, off + k * 11 + 2, none⟩) hb).trans (hcl k x hx 2 _ rfl)
      have e3 := (HB.out.cell (p := ⟨b, off + k * 11 + 3, none⟩) hb).trans (hcl k x hx 3 _ rfl)
      have e4 := (HB.out.cell (p := ⟨b, off + k * 11 + 4, none⟩) hb).trans (hcl k x hx 4 _ rfl)
      have e5 := (HB.out.cell (p := ⟨b, off + k * 11 + 5, none⟩) hb).trans (hcl k x hx 5 _ rfl)
      have e6 := (HB.out.cell (p := ⟨b, off + k * 11 + 6, none⟩) hb).trans (hcl k x hx 6 _ rfl)
      have e7 := (HB.out.cell (p := ⟨b, off + k * 11 + 7, none⟩) hb).trans (hcl k x hx 7 _ rfl)
      have e8 := (HB.out.cell (p := ⟨b, off + k * 11 + 8, none⟩) hb).trans (hcl k x hx 8 _ rfl)
      have e9 := (HB.out.cell (p := ⟨b, off + k * 11 + 9, none⟩) hb).trans (hcl k x hx 9 _ rfl)
      have e10 := (HB.out.cell (p := ⟨b, off + k * 11 + 10, none⟩) hb).trans (hcl k x hx 10 _ rfl)
      have hI := xok.1
      have v1 : IntKind.i64.wrap x.I = x.I := IntWalk.i64_in _ (by omega)
      have v2 : IntKind.i64.wrap ((k : Int) + 1) = (k : Int) + 1 := IntWalk.i64_in _ (by omega)
      have v3 : x.I.tmod ((k : Int) + 1) = (p : Int) := by rw [Int.tmod_eq_emod_of_nonneg (by omega)]; exact hp
      have v4 : ¬ ((k : Int) + 1 = 0) := by omega
      clear hcl hx hp xok
      go_upto_region 9 with fail
      have hba := bal (bre wr) (.cells #[.int .u8 x.I, .int .i8 x.a.X, .int .i8 x.a.Y, .int .u8 x.a.W, .int .u8 x.a.H, .bool x.a.M, .int .i8 x.b.X, .int .i8 x.b.Y, .int .u8 x.b.W, .int .u8 x.b.H, .bool x.b.M] 177)
      have xK10 := Blk.new wr 177 #[.int .u8 x.I, .int .i8 x.a.X, .int .i8 x.a.Y, .int .u8 x.a.W, .int .u8 x.a.H, .bool x.a.M, .int .i8 x.b.X, .int .i8 x.b.Y, .int .u8 x.b.W, .int .u8 x.b.H, .bool x.b.M]
      have xM := HMX.out.below hba
      have xB := bstep HB.out hba
      have x2 := K2.out.belowS hba
      have x3 := K3.out.belowS hba
      have hsz := hba.size
      obtain ⟨X5, hX5⟩ : ∃ X5, wr.alloc (.cells #[.int .u8 x.I, .int .i8 x.a.X, .int .i8 x.a.Y, .int .u8 x.a.W, .int .u8 x.a.H, .bool x.a.M, .int .i8 x.b.X, .int .i8 x.b.Y, .int .u8 x.b.W, .int .u8 x.b.H, .bool x.b.M] 177) = X5 := ⟨_, rfl⟩
      rw [hX5] at xK10 xM xB x2 x3 hsz ⊢
      have HX5 := Lib.hid hsz
      replace HMX := Lib.hid xM
      replace HB := Lib.hid xB
      replace K2 := Lib.hid x2
      replace K3 := Lib.hid x3
      have K10 := Lib.hid xK10
      have HTK := Lib.hid (take_snocI' HD.out)
      have HTE := Lib.hid (take_snocI' HE.out)
      have HKL := Lib.hid (show (la.take k).length = k by rw [List.length_take, HLA.out]; omega)
      have HKM := Lib.hid (show (lb.take k).length = k by rw [List.length_take, HLB.out]; omega)
      have HPRE := Lib.hid (add_preX HUP.out HD.out (by omega))
      clear hba xM xB x2 x3 hsz hX5 xK10 e0 e1 e2 e3 e4 e5 e6 e7 e8 e9 e10
      go_cut [11, 12] from 93 (fun s11 s12 wx => ∃ (g kb ub nk' : Nat) (fk' : Int → Option Value), s11 = .pointer (some ⟨g, 0, none⟩) ∧ s12 = .int .i64 0 ∧ X5.heap.size ≤ g ∧ Blk wx g 34 #[.map (some kb), .map (some ub)] ∧ TreeIs wx (.agg #[.map (some kb), .map (some ub)]) (nodesW (la.take (k + 1))) (some kb) (some ub) nk' fk' ∧ Below X5.heap.size X5 wx)
      case first =>
        as_aux_lemma =>
          have HBW := Lib.hid (show Below X5.heap.size X5 X5.drew from (bre X5).drew)
          refine wp_region_noPanic ?_
          refine wp_region_held_drew (S := (fun w' => w'.cell? ⟨w1.heap.size, 0, none⟩ = some (.map mk) ∧ w'.cell? ⟨w1.heap.size, 1, none⟩ = some (.map mu) ∧ w'.cell? ⟨wr.heap.size, 0, none⟩ = some (.int .u8 x.I))) (by kernel_rfl) ?_ (fun hHeld => ?_)
          · (try dsimp only)
            exact ⟨(HMX.out.k5.belowS HBW.out).cellV (i := 0) rfl, (HMX.out.k5.belowS HBW.out).cellV (i := 1) rfl, (K10.out.belowS HBW.out).cellV (i := 0) rfl⟩
          refine Tr.take_at 0 35 (.agg #[.map mk, .map mu]) rfl rfl (by kernel_rfl) (by kernel_rfl) (by kernel_rfl) (fun _ _ _ h => h) (Or.inl ⟨by rfl, ?_⟩) (by assumption) ?_
          · intro W0 hSw
            (try dsimp only at hSw)
            go_simp
          simp only [List.set_cons_zero, List.set_cons_succ]
          refine Tr.take_at 1 36 (.int .i64 k) rfl rfl (by kernel_rfl) (by kernel_rfl) (by kernel_rfl) (fun _ _ _ h => h) (Or.inl ⟨by rfl, ?_⟩) (by assumption) ?_
          · intro W0 hSw
            (try dsimp only at hSw)
            go_simp
          simp only [List.set_cons_zero, List.set_cons_succ]
          refine Tr.take_at 2 37 (.int .i64 ((k + 1 : Nat) : Int)) rfl rfl (by kernel_rfl) (by kernel_rfl) (by kernel_rfl) (fun _ _ _ h => h) (Or.inl ⟨by rfl, ?_⟩) (by assumption) ?_
          · intro W0 hSw
            (try dsimp only at hSw)
            go_simp
          simp only [List.set_cons_zero, List.set_cons_succ]
          refine Tr.take_at 4 39 (.pointer (some ⟨wr.heap.size, 0, none⟩)) rfl rfl (by kernel_rfl) (by kernel_rfl) (by kernel_rfl) (fun _ _ _ h => h) (Or.inl ⟨by rfl, ?_⟩) (by assumption) ?_
          · intro W0 hSw
            (try dsimp only at hSw)
            go_simp
          simp only [List.set_cons_zero, List.set_cons_succ]
          refine Tr.take_at 5 40 (.int .u8 x.I) rfl rfl (by kernel_rfl) (by kernel_rfl) (by kernel_rfl) (fun _ _ _ h => h) (Or.inl ⟨by rfl, ?_⟩) (by assumption) ?_
          · intro W0 hSw
            (try dsimp only at hSw)
            go_simp
          simp only [List.set_cons_zero, List.set_cons_succ]
          refine Tr.take_at 6 41 (.int .i64 x.I) rfl rfl (by kernel_rfl) (by kernel_rfl) (by kernel_rfl) (fun _ _ _ h => h) (Or.inl ⟨by rfl, ?_⟩) (by assumption) ?_
          · intro W0 hSw
            (try dsimp only at hSw)
            go_simp
          simp only [List.set_cons_zero, List.set_cons_succ]
          refine Tr.take_at 7 42 (.int .i64 k) rfl rfl (by kernel_rfl) (by kernel_rfl) (by kernel_rfl) (fun _ _ _ h => h) (Or.inl ⟨by rfl, ?_⟩) (by assumption) ?_
          · intro W0 hSw
            (try dsimp only at hSw)
            go_simp
          simp only [List.set_cons_zero, List.set_cons_succ]
          refine Tr.take_at 8 43 (.int .i64 ((k : Int) + 1)) rfl rfl (by kernel_rfl) (by kernel_rfl) (by kernel_rfl) (fun _ _ _ h => h) (Or.inl ⟨by rfl, ?_⟩) (by assumption) ?_
          · intro W0 hSw
            (try dsimp only at hSw)
            go_simp
          simp only [List.set_cons_zero, List.set_cons_succ]
          refine Tr.take_at 9 44 (.int .i64 p) rfl rfl (by kernel_rfl) (by kernel_rfl) (by kernel_rfl) (fun _ _ _ h => h) (Or.inl ⟨by rfl, ?_⟩) (by assumption) ?_
          · intro W0 hSw
            (try dsimp only at hSw)
            go_simp
          simp only [List.set_cons_zero, List.set_cons_succ]
          refine wpAnyH_ready (rs := [3, 15]) (by kernel_rfl) (by simp) ?_
          refine AllReadyH.cons rfl (fun K hK => ?_) (AllReadyH.cons rfl (fun K hK => ?_) AllReadyH.nil)
          ·
            go_simp
            refine (id32_s (k + 1) (k : Int) (by omega) _ (by omega)).mono ?_
            rintro e wc3 ⟨rfl, hbA⟩
            replace HBW := Lib.hid (bstep HBW.out hbA)
            clear hbA
            go_simp
            refine hK.out _ _ ?_ (fun hHeld => ?_)
            · (try dsimp only)
              exact ⟨(HMX.out.k5.belowS HBW.out).cellV (i := 0) rfl, (HMX.out.k5.belowS HBW.out).cellV (i := 1) rfl, (K10.out.belowS HBW.out).cellV (i := 0) rfl⟩
            clear hK K
            refine wpAnyH_ready (rs := [10, 15]) (by kernel_rfl) (by simp) ?_
            refine AllReadyH.cons rfl (fun K hK => ?_) (AllReadyH.cons rfl (fun K hK => ?_) AllReadyH.nil)
            ·
              go_simp
              refine (id32_s (p) (x.up k) (HPW.out) _ (by omega)).mono ?_
              rintro e wc10 ⟨rfl, hbA⟩
              replace HBW := Lib.hid (bstep HBW.out hbA)
              clear hbA
              go_simp
              refine hK.out _ _ ?_ (fun hHeld => ?_)
              · (try dsimp only)
                exact ⟨(HMX.out.k5.belowS HBW.out).cellV (i := 0) rfl, (HMX.out.k5.belowS HBW.out).cellV (i := 1) rfl, (K10.out.belowS HBW.out).cellV (i := 0) rfl⟩
              clear hK K
              refine wpAnyH_ready (rs := [11, 15]) (by kernel_rfl) (by simp) ?_
              refine AllReadyH.cons rfl (fun K hK => ?_) (AllReadyH.cons rfl (fun K hK => ?_) AllReadyH.nil)
              ·
                go_simp
                refine (tadd_own (.agg #[.map mk, .map mu]) (nodesW (la.take k)) mk mu nk fk (idW k) (idW (x.up k)) _ (idW_bd (by omega)) (idW_bd (by have := HUB.out; omega)) (HMX.out.tree.below HBW.out) HPRE.out.1 HPRE.out.2.1 HPRE.out.2.2.1 HPRE.out.2.2.2).mono ?_
                rintro e wc11 ⟨⟨kb, ub, nk', fk', rfl, ht'⟩, hbA⟩
                have e9 : nodesW (la.take k) ++ [(idW (k : Int), idW (x.up k))] = nodesW (la.take (k + 1)) := by rw [HTK.out, nodesW_snoc, HKL.out]; rfl
                rw [e9] at ht'
                have HTN := Lib.hid ht'.tree
                clear ht' e9
                replace HBW := Lib.hid (bstep HBW.out hbA)
                clear hbA
                go_simp
                refine hK.out _ _ ?_ (fun hHeld => ?_)
                · (try dsimp only)
                  exact ⟨(HMX.out.k5.belowS HBW.out).cellV (i := 0) rfl, (HMX.out.k5.belowS HBW.out).cellV (i := 1) rfl, (K10.out.belowS HBW.out).cellV (i := 0) rfl⟩
                clear hK K
                refine Tr.take_at 12 34 (.tuple #[.agg #[.map (some kb), .map (some ub)], .int .i64 0]) rfl rfl (by kernel_rfl) (by kernel_rfl) (by kernel_rfl) (fun _ _ _ h => h) (Or.inl ⟨by rfl, ?_⟩) (by assumption) ?_
                · intro W0 hSw
                  (try dsimp only at hSw)
                  go_simp
                simp only [List.set_cons_zero, List.set_cons_succ]
                refine Tr.take_at 13 47 (.agg #[.map (some kb), .map (some ub)]) rfl rfl (by kernel_rfl) (by kernel_rfl) (by kernel_rfl) (fun _ _ _ h => h) (Or.inl ⟨by rfl, ?_⟩) (by assumption) ?_
                · intro W0 hSw
                  (try dsimp only at hSw)
                  go_simp
                simp only [List.set_cons_zero, List.set_cons_succ]
                refine Tr.take_at 14 48 (.int .i64 0) rfl rfl (by kernel_rfl) (by kernel_rfl) (by kernel_rfl) (fun _ _ _ h => h) (Or.inl ⟨by rfl, ?_⟩) (by assumption) ?_
                · intro W0 hSw
                  (try dsimp only at hSw)
                  go_simp
                simp only [List.set_cons_zero, List.set_cons_succ]
                refine wpAnyH_ready (rs := [15]) (by kernel_rfl) (by simp) ?_
                refine AllReadyH.cons rfl (fun K hK => ?_) AllReadyH.nil
                go_simp
                have KA15 := Lib.hid (show Blk (wc11.alloc (.cells #[.map none, .map none] 34)) (wc11.heap.size) 34 #[.map none, .map none] from Blk.new wc11 34 #[.map none, .map none])
                have HL15 := Lib.hid (show X5.heap.size ≤ wc11.heap.size from HBW.out.size)
                have hbA : Below wc11.heap.size wc11 ((wc11.alloc (.cells #[.map none, .map none] 34))) := bal (bre wc11) (.cells #[.map none, .map none] 34)
                replace HBW := Lib.hid (bstep HBW.out hbA)
                replace HTN := Lib.hid (HTN.out.below hbA)
                clear hbA
                refine hK.out _ _ ?_ (fun hHeld => ?_)
                · (try dsimp only)
                  exact ⟨(HMX.out.k5.belowS HBW.out).cellV (i := 0) rfl, (HMX.out.k5.belowS HBW.out).cellV (i := 1) rfl, (K10.out.belowS HBW.out).cellV (i := 0) rfl⟩
                clear hK K
                refine wpAnyH_ready (rs := [16]) (by kernel_rfl) (by simp) ?_
                refine AllReadyH.cons rfl (fun K hK => ?_) AllReadyH.nil
                refine Tr.wanted_plain rfl ?_
                refine store_mid0 rfl 34 _ _ rfl (wc11.heap.size) 0 #[.map (some kb), .map (some ub)] (by rfl) (by rfl) (by have h := there_blk KA15.out; exact h) Tryz.sizeTr (by simp [Value.oneCell']) ?_
                have xK := blk_puts2 (.map (some kb)) (.map (some ub)) KA15.out
                have xB := bsets HBW.out HL15.out (#[.map (some kb), .map (some ub)] : Array Value).toList 0
                have xHTN := (show TreeIs (World.setCells (wc11.alloc (.cells #[.map none, .map none] 34)) (wc11.heap.size) 0 (#[.map (some kb), .map (some ub)] : Array Value).toList) _ _ _ _ _ _ from (HTN.out.setBlk KA15.out (maps_no _ _) 0 (.map (some kb))).setBlk (KA15.out.set_ 0 (.map (some kb))) (maps_no _ _) 1 (.map (some ub)))
                obtain ⟨wS16, hwS⟩ : ∃ wS, World.setCells (wc11.alloc (.cells #[.map none, .map none] 34)) (wc11.heap.size) 0 (#[.map (some kb), .map (some ub)] : Array Value).toList = wS := ⟨_, rfl⟩
                rw [hwS] at xK xB xHTN ⊢
                replace HBW := Lib.hid xB
                replace KA15 := Lib.hid xK
                replace HTN := Lib.hid xHTN
                clear hwS xK xB xHTN
                refine hK.out _ _ ?_ (fun hHeld => ?_)
                · (try dsimp only)
                  exact ⟨(HMX.out.k5.belowS HBW.out).cellV (i := 0) rfl, (HMX.out.k5.belowS HBW.out).cellV (i := 1) rfl, (K10.out.belowS HBW.out).cellV (i := 0) rfl⟩
                clear hK K
                refine Tr.take_at 17 12 (.int .i64 0) rfl rfl (by kernel_rfl) (by kernel_rfl) (by kernel_rfl) (fun _ _ _ h => h) (Or.inl ⟨by rfl, ?_⟩) (by assumption) ?_
                · intro W0 hSw
                  (try dsimp only at hSw)
                  go_simp
                simp only [List.set_cons_zero, List.set_cons_succ]
                refine wpAnyH_done (by kernel_rfl) ?_ _
                refine NoPanic.normal ?_
                go_wp2_with fail
                go_meet
                exact ⟨_, kb, ub, nk', fk', rfl, rfl, HL15.out, KA15.out, HTN.out, HBW.out⟩
              ·
                go_simp
                have KA15 := Lib.hid (show Blk (wc10.alloc (.cells #[.map none, .map none] 34)) (wc10.heap.size) 34 #[.map none, .map none] from Blk.new wc10 34 #[.map none, .map none])
                have HL15 := Lib.hid (show X5.heap.size ≤ wc10.heap.size from HBW.out.size)
                have hbA : Below wc10.heap.size wc10 ((wc10.alloc (.cells #[.map none, .map none] 34))) := bal (bre wc10) (.cells #[.map none, .map none] 34)
                replace HBW := Lib.hid (bstep HBW.out hbA)
                clear hbA
                refine hK.out _ _ ?_ (fun hHeld => ?_)
                · (try dsimp only)
                  exact ⟨(HMX.out.k5.belowS HBW.out).cellV (i := 0) rfl, (HMX.out.k5.belowS HBW.out).cellV (i := 1) rfl, (K10.out.belowS HBW.out).cellV (i := 0) rfl⟩
                clear hK K
                refine wpAnyH_ready (rs := [11]) (by kernel_rfl) (by simp) ?_
                refine AllReadyH.cons rfl (fun K hK => ?_) AllReadyH.nil
                go_simp
                refine (tadd_own (.agg #[.map mk, .map mu]) (nodesW (la.take k)) mk mu nk fk (idW k) (idW (x.up k)) _ (idW_bd (by omega)) (idW_bd (by have := HUB.out; omega)) (HMX.out.tree.below HBW.out) HPRE.out.1 HPRE.out.2.1 HPRE.out.2.2.1 HPRE.out.2.2.2).mono ?_
                rintro e wc11 ⟨⟨kb, ub, nk', fk', rfl, ht'⟩, hbA⟩
                have e9 : nodesW (la.take k) ++ [(idW (k : Int), idW (x.up k))] = nodesW (la.take (k + 1)) := by rw [HTK.out, nodesW_snoc, HKL.out]; rfl
                rw [e9] at ht'
                have HTN := Lib.hid ht'.tree
                clear ht' e9
                replace HBW := Lib.hid (bstep HBW.out hbA)
                replace KA15 := Lib.hid (KA15.out.belowS hbA)
                clear hbA
                go_simp
                refine hK.out _ _ ?_ (fun hHeld => ?_)
                · (try dsimp only)
                  exact ⟨(HMX.out.k5.belowS HBW.out).cellV (i := 0) rfl, (HMX.out.k5.belowS HBW.out).cellV (i := 1) rfl, (K10.out.belowS HBW.out).cellV (i := 0) rfl⟩
                clear hK K
                refine Tr.take_at 12 34 (.tuple #[.agg #[.map (some kb), .map (some ub)], .int .i64 0]) rfl rfl (by kernel_rfl) (by kernel_rfl) (by kernel_rfl) (fun _ _ _ h => h) (Or.inl ⟨by rfl, ?_⟩) (by assumption) ?_
                · intro W0 hSw
                  (try dsimp only at hSw)
                  go_simp
                simp only [List.set_cons_zero, List.set_cons_succ]
                refine Tr.take_at 13 47 (.agg #[.map (some kb), .map (some ub)]) rfl rfl (by kernel_rfl) (by kernel_rfl) (by kernel_rfl) (fun _ _ _ h => h) (Or.inl ⟨by rfl, ?_⟩) (by assumption) ?_
                · intro W0 hSw
                  (try dsimp only at hSw)
                  go_simp
                simp only [List.set_cons_zero, List.set_cons_succ]
                refine Tr.take_at 14 48 (.int .i64 0) rfl rfl (by kernel_rfl) (by kernel_rfl) (by kernel_rfl) (fun _ _ _ h => h) (Or.inl ⟨by rfl, ?_⟩) (by assumption) ?_
                · intro W0 hSw
                  (try dsimp only at hSw)
                  go_simp
                simp only [List.set_cons_zero, List.set_cons_succ]
                refine wpAnyH_ready (rs := [16]) (by kernel_rfl) (by simp) ?_
                refine AllReadyH.cons rfl (fun K hK => ?_) AllReadyH.nil
                refine Tr.wanted_plain rfl ?_
                refine store_mid0 rfl 34 _ _ rfl (wc10.heap.size) 0 #[.map (some kb), .map (some ub)] (by rfl) (by rfl) (by have h := there_blk KA15.out; exact h) Tryz.sizeTr (by simp [Value.oneCell']) ?_
                have xK := blk_puts2 (.map (some kb)) (.map (some ub)) KA15.out
                have xB := bsets HBW.out HL15.out (#[.map (some kb), .map (some ub)] : Array Value).toList 0
                have xHTN := (show TreeIs (World.setCells (wc11) (wc10.heap.size) 0 (#[.map (some kb), .map (some ub)] : Array Value).toList) _ _ _ _ _ _ from (HTN.out.setBlk KA15.out (maps_no _ _) 0 (.map (some kb))).setBlk (KA15.out.set_ 0 (.map (some kb))) (maps_no _ _) 1 (.map (some ub)))
                obtain ⟨wS16, hwS⟩ : ∃ wS, World.setCells wc11 (wc10.heap.size) 0 (#[.map (some kb), .map (some ub)] : Array Value).toList = wS := ⟨_, rfl⟩
                rw [hwS] at xK xB xHTN ⊢
                replace HBW := Lib.hid xB
                replace KA15 := Lib.hid xK
                replace HTN := Lib.hid xHTN
                clear hwS xK xB xHTN
                refine hK.out _ _ ?_ (fun hHeld => ?_)
                · (try dsimp only)
                  exact ⟨(HMX.out.k5.belowS HBW.out).cellV (i := 0) rfl, (HMX.out.k5.belowS HBW.out).cellV (i := 1) rfl, (K10.out.belowS HBW.out).cellV (i := 0) rfl⟩
                clear hK K
                refine Tr.take_at 17 12 (.int .i64 0) rfl rfl (by kernel_rfl) (by kernel_rfl) (by kernel_rfl) (fun _ _ _ h => h) (Or.inl ⟨by rfl, ?_⟩) (by assumption) ?_
                · intro W0 hSw
                  (try dsimp only at hSw)
                  go_simp
                simp only [List.set_cons_zero, List.set_cons_succ]
                refine wpAnyH_done (by kernel_rfl) ?_ _
                refine NoPanic.normal ?_
                go_wp2_with fail
                go_meet
                exact ⟨_, kb, ub, nk', fk', rfl, rfl, HL15.out, KA15.out, HTN.out, HBW.out⟩
            ·
              go_simp
              have KA15 := Lib.hid (show Blk (wc3.alloc (.cells #[.map none, .map none] 34)) (wc3.heap.size) 34 #[.map none, .map none] from Blk.new wc3 34 #[.map none, .map none])
              have HL15 := Lib.hid (show X5.heap.size ≤ wc3.heap.size from HBW.out.size)
              have hbA : Below wc3.heap.size wc3 ((wc3.alloc (.cells #[.map none, .map none] 34))) := bal (bre wc3) (.cells #[.map none, .map none] 34)
              replace HBW := Lib.hid (bstep HBW.out hbA)
              clear hbA
              refine hK.out _ _ ?_ (fun hHeld => ?_)
              · (try dsimp only)
                exact ⟨(HMX.out.k5.belowS HBW.out).cellV (i := 0) rfl, (HMX.out.k5.belowS HBW.out).cellV (i := 1) rfl, (K10.out.belowS HBW.out).cellV (i := 0) rfl⟩
              clear hK K
              refine wpAnyH_ready (rs := [10]) (by kernel_rfl) (by simp) ?_
              refine AllReadyH.cons rfl (fun K hK => ?_) AllReadyH.nil
              go_simp
              refine (id32_s (p) (x.up k) (HPW.out) _ (by omega)).mono ?_
              rintro e wc10 ⟨rfl, hbA⟩
              replace HBW := Lib.hid (bstep HBW.out hbA)
              replace KA15 := Lib.hid (KA15.out.belowS hbA)
              clear hbA
              go_simp
              refine hK.out _ _ ?_ (fun hHeld => ?_)
              · (try dsimp only)
                exact ⟨(HMX.out.k5.belowS HBW.out).cellV (i := 0) rfl, (HMX.out.k5.belowS HBW.out).cellV (i := 1) rfl, (K10.out.belowS HBW.out).cellV (i := 0) rfl⟩
              clear hK K
              refine wpAnyH_ready (rs := [11]) (by kernel_rfl) (by simp) ?_
              refine AllReadyH.cons rfl (fun K hK => ?_) AllReadyH.nil
              go_simp
              refine (tadd_own (.agg #[.map mk, .map mu]) (nodesW (la.take k)) mk mu nk fk (idW k) (idW (x.up k)) _ (idW_bd (by omega)) (idW_bd (by have := HUB.out; omega)) (HMX.out.tree.below HBW.out) HPRE.out.1 HPRE.out.2.1 HPRE.out.2.2.1 HPRE.out.2.2.2).mono ?_
              rintro e wc11 ⟨⟨kb, ub, nk', fk', rfl, ht'⟩, hbA⟩
              have e9 : nodesW (la.take k) ++ [(idW (k : Int), idW (x.up k))] = nodesW (la.take (k + 1)) := by rw [HTK.out, nodesW_snoc, HKL.out]; rfl
              rw [e9] at ht'
              have HTN := Lib.hid ht'.tree
              clear ht' e9
              replace HBW := Lib.hid (bstep HBW.out hbA)
              replace KA15 := Lib.hid (KA15.out.belowS hbA)
              clear hbA
              go_simp
              refine hK.out _ _ ?_ (fun hHeld => ?_)
              · (try dsimp only)
                exact ⟨(HMX.out.k5.belowS HBW.out).cellV (i := 0) rfl, (HMX.out.k5.belowS HBW.out).cellV (i := 1) rfl, (K10.out.belowS HBW.out).cellV (i := 0) rfl⟩
              clear hK K
              refine Tr.take_at 12 34 (.tuple #[.agg #[.map (some kb), .map (some ub)], .int .i64 0]) rfl rfl (by kernel_rfl) (by kernel_rfl) (by kernel_rfl) (fun _ _ _ h => h) (Or.inl ⟨by rfl, ?_⟩) (by assumption) ?_
              · intro W0 hSw
                (try dsimp only at hSw)
                go_simp
              simp only [List.set_cons_zero, List.set_cons_succ]
              refine Tr.take_at 13 47 (.agg #[.map (some kb), .map (some ub)]) rfl rfl (by kernel_rfl) (by kernel_rfl) (by kernel_rfl) (fun _ _ _ h => h) (Or.inl ⟨by rfl, ?_⟩) (by assumption) ?_
              · intro W0 hSw
                (try dsimp only at hSw)
                go_simp
              simp only [List.set_cons_zero, List.set_cons_succ]
              refine Tr.take_at 14 48 (.int .i64 0) rfl rfl (by kernel_rfl) (by kernel_rfl) (by kernel_rfl) (fun _ _ _ h => h) (Or.inl ⟨by rfl, ?_⟩) (by assumption) ?_
              · intro W0 hSw
                (try dsimp only at hSw)
                go_simp
              simp only [List.set_cons_zero, List.set_cons_succ]
              refine wpAnyH_ready (rs := [16]) (by kernel_rfl) (by simp) ?_
              refine AllReadyH.cons rfl (fun K hK => ?_) AllReadyH.nil
              refine Tr.wanted_plain rfl ?_
              refine store_mid0 rfl 34 _ _ rfl (wc3.heap.size) 0 #[.map (some kb), .map (some ub)] (by rfl) (by rfl) (by have h := there_blk KA15.out; exact h) Tryz.sizeTr (by simp [Value.oneCell']) ?_
              have xK := blk_puts2 (.map (some kb)) (.map (some ub)) KA15.out
              have xB := bsets HBW.out HL15.out (#[.map (some kb), .map (some ub)] : Array Value).toList 0
              have xHTN := (show TreeIs (World.setCells (wc11) (wc3.heap.size) 0 (#[.map (some kb), .map (some ub)] : Array Value).toList) _ _ _ _ _ _ from (HTN.out.setBlk KA15.out (maps_no _ _) 0 (.map (some kb))).setBlk (KA15.out.set_ 0 (.map (some kb))) (maps_no _ _) 1 (.map (some ub)))
              obtain ⟨wS16, hwS⟩ : ∃ wS, World.setCells wc11 (wc3.heap.size) 0 (#[.map (some kb), .map (some ub)] : Array Value).toList = wS := ⟨_, rfl⟩
              rw [hwS] at xK xB xHTN ⊢
              replace HBW := Lib.hid xB
              replace KA15 := Lib.hid xK
              replace HTN := Lib.hid xHTN
              clear hwS xK xB xHTN
              refine hK.out _ _ ?_ (fun hHeld => ?_)
              · (try dsimp only)
                exact ⟨(HMX.out.k5.belowS HBW.out).cellV (i := 0) rfl, (HMX.out.k5.belowS HBW.out).cellV (i := 1) rfl, (K10.out.belowS HBW.out).cellV (i := 0) rfl⟩
              clear hK K
              refine Tr.take_at 17 12 (.int .i64 0) rfl rfl (by kernel_rfl) (by kernel_rfl) (by kernel_rfl) (fun _ _ _ h => h) (Or.inl ⟨by rfl, ?_⟩) (by assumption) ?_
              · intro W0 hSw
                (try dsimp only at hSw)
                go_simp
              simp only [List.set_cons_zero, List.set_cons_succ]
              refine wpAnyH_done (by kernel_rfl) ?_ _
              refine NoPanic.normal ?_
              go_wp2_with fail
              go_meet
              exact ⟨_, kb, ub, nk', fk', rfl, rfl, HL15.out, KA15.out, HTN.out, HBW.out⟩
          ·
            go_simp
            have KA15 := Lib.hid (show Blk (X5.alloc (.cells #[.map none, .map none] 34)).drew (X5.heap.size) 34 #[.map none, .map none] from Blk.new X5.drew 34 #[.map none, .map none])
            have HL15 := Lib.hid (show X5.heap.size ≤ X5.heap.size from HBW.out.size)
            have hbA : Below X5.drew.heap.size X5.drew ((X5.alloc (.cells #[.map none, .map none] 34)).drew) := bal (bre X5.drew) (.cells #[.map none, .map none] 34)
            replace HBW := Lib.hid (bstep HBW.out hbA)
            clear hbA
            refine hK.out _ _ ?_ (fun hHeld => ?_)
            · (try dsimp only)
              exact ⟨(HMX.out.k5.belowS HBW.out).cellV (i := 0) rfl, (HMX.out.k5.belowS HBW.out).cellV (i := 1) rfl, (K10.out.belowS HBW.out).cellV (i := 0) rfl⟩
            clear hK K
            refine wpAnyH_ready (rs := [3]) (by kernel_rfl) (by simp) ?_
            refine AllReadyH.cons rfl (fun K hK => ?_) AllReadyH.nil
            go_simp
            refine (id32_s (k + 1) (k : Int) (by omega) _ (by omega)).mono ?_
            rintro e wc3 ⟨rfl, hbA⟩
            replace HBW := Lib.hid (bstep HBW.out hbA)
            replace KA15 := Lib.hid (KA15.out.belowS hbA)
            clear hbA
            go_simp
            refine hK.out _ _ ?_ (fun hHeld => ?_)
            · (try dsimp only)
              exact ⟨(HMX.out.k5.belowS HBW.out).cellV (i := 0) rfl, (HMX.out.k5.belowS HBW.out).cellV (i := 1) rfl, (K10.out.belowS HBW.out).cellV (i := 0) rfl⟩
            clear hK K
            refine wpAnyH_ready (rs := [10]) (by kernel_rfl) (by simp) ?_
            refine AllReadyH.cons rfl (fun K hK => ?_) AllReadyH.nil
            go_simp
            refine (id32_s (p) (x.up k) (HPW.out) _ (by omega)).mono ?_
            rintro e wc10 ⟨rfl, hbA⟩
            replace HBW := Lib.hid (bstep HBW.out hbA)
            replace KA15 := Lib.hid (KA15.out.belowS hbA)
            clear hbA
            go_simp
            refine hK.out _ _ ?_ (fun hHeld => ?_)
            · (try dsimp only)
              exact ⟨(HMX.out.k5.belowS HBW.out).cellV (i := 0) rfl, (HMX.out.k5.belowS HBW.out).cellV (i := 1) rfl, (K10.out.belowS HBW.out).cellV (i := 0) rfl⟩
            clear hK K
            refine wpAnyH_ready (rs := [11]) (by kernel_rfl) (by simp) ?_
            refine AllReadyH.cons rfl (fun K hK => ?_) AllReadyH.nil
            go_simp
            refine (tadd_own (.agg #[.map mk, .map mu]) (nodesW (la.take k)) mk mu nk fk (idW k) (idW (x.up k)) _ (idW_bd (by omega)) (idW_bd (by have := HUB.out; omega)) (HMX.out.tree.below HBW.out) HPRE.out.1 HPRE.out.2.1 HPRE.out.2.2.1 HPRE.out.2.2.2).mono ?_
            rintro e wc11 ⟨⟨kb, ub, nk', fk', rfl, ht'⟩, hbA⟩
            have e9 : nodesW (la.take k) ++ [(idW (k : Int), idW (x.up k))] = nodesW (la.take (k + 1)) := by rw [HTK.out, nodesW_snoc, HKL.out]; rfl
            rw [e9] at ht'
            have HTN := Lib.hid ht'.tree
            clear ht' e9
            replace HBW := Lib.hid (bstep HBW.out hbA)
            replace KA15 := Lib.hid (KA15.out.belowS hbA)
            clear hbA
            go_simp
            refine hK.out _ _ ?_ (fun hHeld => ?_)
            · (try dsimp only)
              exact ⟨(HMX.out.k5.belowS HBW.out).cellV (i := 0) rfl, (HMX.out.k5.belowS HBW.out).cellV (i := 1) rfl, (K10.out.belowS HBW.out).cellV (i := 0) rfl⟩
            clear hK K
            refine Tr.take_at 12 34 (.tuple #[.agg #[.map (some kb), .map (some ub)], .int .i64 0]) rfl rfl (by kernel_rfl) (by kernel_rfl) (by kernel_rfl) (fun _ _ _ h => h) (Or.inl ⟨by rfl, ?_⟩) (by assumption) ?_
            · intro W0 hSw
              (try dsimp only at hSw)
              go_simp
            simp only [List.set_cons_zero, List.set_cons_succ]
            refine Tr.take_at 13 47 (.agg #[.map (some kb), .map (some ub)]) rfl rfl (by kernel_rfl) (by kernel_rfl) (by kernel_rfl) (fun _ _ _ h => h) (Or.inl ⟨by rfl, ?_⟩) (by assumption) ?_
            · intro W0 hSw
              (try dsimp only at hSw)
              go_simp
            simp only [List.set_cons_zero, List.set_cons_succ]
            refine Tr.take_at 14 48 (.int .i64 0) rfl rfl (by kernel_rfl) (by kernel_rfl) (by kernel_rfl) (fun _ _ _ h => h) (Or.inl ⟨by rfl, ?_⟩) (by assumption) ?_
            · intro W0 hSw
              (try dsimp only at hSw)
              go_simp
            simp only [List.set_cons_zero, List.set_cons_succ]
            refine wpAnyH_ready (rs := [16]) (by kernel_rfl) (by simp) ?_
            refine AllReadyH.cons rfl (fun K hK => ?_) AllReadyH.nil
            refine Tr.wanted_plain rfl ?_
            refine store_mid0 rfl 34 _ _ rfl (X5.heap.size) 0 #[.map (some kb), .map (some ub)] (by rfl) (by rfl) (by have h := there_blk KA15.out; exact h) Tryz.sizeTr (by simp [Value.oneCell']) ?_
            have xK := blk_puts2 (.map (some kb)) (.map (some ub)) KA15.out
            have xB := bsets HBW.out HL15.out (#[.map (some kb), .map (some ub)] : Array Value).toList 0
            have xHTN := (show TreeIs (World.setCells (wc11) (X5.heap.size) 0 (#[.map (some kb), .map (some ub)] : Array Value).toList) _ _ _ _ _ _ from (HTN.out.setBlk KA15.out (maps_no _ _) 0 (.map (some kb))).setBlk (KA15.out.set_ 0 (.map (some kb))) (maps_no _ _) 1 (.map (some ub)))
            obtain ⟨wS16, hwS⟩ : ∃ wS, World.setCells wc11 (X5.heap.size) 0 (#[.map (some kb), .map (some ub)] : Array Value).toList = wS := ⟨_, rfl⟩
            rw [hwS] at xK xB xHTN ⊢
            replace HBW := Lib.hid xB
            replace KA15 := Lib.hid xK
            replace HTN := Lib.hid xHTN
            clear hwS xK xB xHTN
            refine hK.out _ _ ?_ (fun hHeld => ?_)
            · (try dsimp only)
              exact ⟨(HMX.out.k5.belowS HBW.out).cellV (i := 0) rfl, (HMX.out.k5.belowS HBW.out).cellV (i := 1) rfl, (K10.out.belowS HBW.out).cellV (i := 0) rfl⟩
            clear hK K
            refine Tr.take_at 17 12 (.int .i64 0) rfl rfl (by kernel_rfl) (by kernel_rfl) (by kernel_rfl) (fun _ _ _ h => h) (Or.inl ⟨by rfl, ?_⟩) (by assumption) ?_
            · intro W0 hSw
              (try dsimp only at hSw)
              go_simp
            simp only [List.set_cons_zero, List.set_cons_succ]
            refine wpAnyH_done (by kernel_rfl) ?_ _
            refine NoPanic.normal ?_
            go_wp2_with fail
            go_meet
            exact ⟨_, kb, ub, nk', fk', rfl, rfl, HL15.out, KA15.out, HTN.out, HBW.out⟩
      obtain ⟨g11, kb, ub, nk', fk', rfl, rfl, hg11, hk11, ht11, hbc⟩ := hcut
      have K11 := Lib.hid hk11
      have HTN := Lib.hid ht11
      have HG11 := Lib.hid hg11
      clear v1 v3 v4
      replace HB := Lib.hid (bstep HB.out hbc)
      replace HMX := Lib.hid (HMX.out.below hbc)
      replace K2 := Lib.hid (K2.out.belowS hbc)
      replace K3 := Lib.hid (K3.out.belowS hbc)
      replace K10 := Lib.hid (K10.out.belowS hbc)
      have HXC := Lib.hid hbc.size
      clear hbc hg11 hk11 ht11
      obtain ⟨X6, hX6⟩ : ∃ X6, X6 = wc := ⟨_, rfl⟩
      subst hX6
      go_upto_region 10 with fail
      go_cut [13, 14] from 93 (fun s wy wx => ∃ (g : Nat) (m' : Option Nat) (b' : Bxs), s = .pointer (some ⟨g, 0, none⟩) ∧ wy = .int .i64 0 ∧ X6.heap.size ≤ g ∧ Blk wx g 37 #[.map m'] ∧ PlaceIs wx (.agg #[.map m']) (k + 1 + 1) b' ∧ SceneIs wx b' 12 10 (la.take (k + 1)) ∧ Below X6.heap.size X6 wx)
      case first =>
        as_aux_lemma =>
          have HBW := Lib.hid (show Below X6.heap.size X6 X6.drew from (bre X6).drew)
          refine wp_region_noPanic ?_
          refine wp_region_held_drew (S := (fun w' => w'.cell? ⟨w2.heap.size, 0, none⟩ = some (.map mp) ∧ w'.cell? ⟨wr.heap.size, 1, none⟩ = some (.int .i8 x.a.X) ∧ w'.cell? ⟨wr.heap.size, 2, none⟩ = some (.int .i8 x.a.Y) ∧ w'.cell? ⟨wr.heap.size, 3, none⟩ = some (.int .u8 x.a.W) ∧ w'.cell? ⟨wr.heap.size, 4, none⟩ = some (.int .u8 x.a.H) ∧ w'.cell? ⟨wr.heap.size, 5, none⟩ = some (.bool x.a.M))) (by kernel_rfl) ?_ (fun hHeld => ?_)
          · (try dsimp only)
            exact ⟨(HMX.out.k6.belowS HBW.out).cellV (i := 0) rfl, (K10.out.belowS HBW.out).cellV (i := 1) rfl, (K10.out.belowS HBW.out).cellV (i := 2) rfl, (K10.out.belowS HBW.out).cellV (i := 3) rfl, (K10.out.belowS HBW.out).cellV (i := 4) rfl, (K10.out.belowS HBW.out).cellV (i := 5) rfl⟩
          refine Tr.take_at 0 50 (.agg #[.map mp]) rfl rfl (by kernel_rfl) (by kernel_rfl) (by kernel_rfl) (fun _ _ _ h => h) (Or.inl ⟨by rfl, ?_⟩) (by assumption) ?_
          · intro W0 hSw
            (try dsimp only at hSw)
            go_simp
          simp only [List.set_cons_zero, List.set_cons_succ]
          refine Tr.take_at 1 51 (.int .i64 k) rfl rfl (by kernel_rfl) (by kernel_rfl) (by kernel_rfl) (fun _ _ _ h => h) (Or.inl ⟨by rfl, ?_⟩) (by assumption) ?_
          · intro W0 hSw
            (try dsimp only at hSw)
            go_simp
          simp only [List.set_cons_zero, List.set_cons_succ]
          refine Tr.take_at 2 52 (.int .i64 ((k + 1 : Nat) : Int)) rfl rfl (by kernel_rfl) (by kernel_rfl) (by kernel_rfl) (fun _ _ _ h => h) (Or.inl ⟨by rfl, ?_⟩) (by assumption) ?_
          · intro W0 hSw
            (try dsimp only at hSw)
            go_simp
          simp only [List.set_cons_zero, List.set_cons_succ]
          refine Tr.take_at 4 54 (.pointer (some ⟨wr.heap.size, 1, none⟩)) rfl rfl (by kernel_rfl) (by kernel_rfl) (by kernel_rfl) (fun _ _ _ h => h) (Or.inl ⟨by rfl, ?_⟩) (by assumption) ?_
          · intro W0 hSw
            (try dsimp only at hSw)
            go_simp
          simp only [List.set_cons_zero, List.set_cons_succ]
          refine Tr.take_at 5 55 (.agg #[.int .i8 x.a.X, .int .i8 x.a.Y, .int .u8 x.a.W, .int .u8 x.a.H, .bool x.a.M]) rfl rfl (by kernel_rfl) (by kernel_rfl) (by kernel_rfl) (fun _ _ _ h => h) (Or.inl ⟨by rfl, ?_⟩) (by assumption) ?_
          · intro W0 hSw
            (try dsimp only at hSw)
            go_simp
          simp only [List.set_cons_zero, List.set_cons_succ]
          refine wpAnyH_ready (rs := [3, 11]) (by kernel_rfl) (by simp) ?_
          refine AllReadyH.cons rfl (fun K hK => ?_) (AllReadyH.cons rfl (fun K hK => ?_) AllReadyH.nil)
          ·
            go_simp
            refine (id32_s (k + 1) (k : Int) (by omega) _ (by omega)).mono ?_
            rintro e wc3 ⟨rfl, hbA⟩
            replace HBW := Lib.hid (bstep HBW.out hbA)
            clear hbA
            go_simp
            refine hK.out _ _ ?_ (fun hHeld => ?_)
            · (try dsimp only)
              exact ⟨(HMX.out.k6.belowS HBW.out).cellV (i := 0) rfl, (K10.out.belowS HBW.out).cellV (i := 1) rfl, (K10.out.belowS HBW.out).cellV (i := 2) rfl, (K10.out.belowS HBW.out).cellV (i := 3) rfl, (K10.out.belowS HBW.out).cellV (i := 4) rfl, (K10.out.belowS HBW.out).cellV (i := 5) rfl⟩
            clear hK K
            refine wpAnyH_ready (rs := [6, 11]) (by kernel_rfl) (by simp) ?_
            refine AllReadyH.cons rfl (fun K hK => ?_) (AllReadyH.cons rfl (fun K hK => ?_) AllReadyH.nil)
            ·
              go_simp
              refine (box32_any x.a _ HXO.out.2.1).mono ?_
              rintro e wc6 ⟨rfl, hbA⟩
              replace HBW := Lib.hid (bstep HBW.out hbA)
              clear hbA
              go_simp
              refine hK.out _ _ ?_ (fun hHeld => ?_)
              · (try dsimp only)
                exact ⟨(HMX.out.k6.belowS HBW.out).cellV (i := 0) rfl, (K10.out.belowS HBW.out).cellV (i := 1) rfl, (K10.out.belowS HBW.out).cellV (i := 2) rfl, (K10.out.belowS HBW.out).cellV (i := 3) rfl, (K10.out.belowS HBW.out).cellV (i := 4) rfl, (K10.out.belowS HBW.out).cellV (i := 5) rfl⟩
              clear hK K
              refine wpAnyH_ready (rs := [7, 11]) (by kernel_rfl) (by simp) ?_
              refine AllReadyH.cons rfl (fun K hK => ?_) (AllReadyH.cons rfl (fun K hK => ?_) AllReadyH.nil)
              ·
                go_simp
                have hsc := HMX.out.sa.below HBW.out
                have hD := HDA.out _ (List.mem_of_getElem? HD.out)
                have hbo := fun (W : World) => (show BoxOf W (x.a.dw (x.up k)) x.a.bx from box_of (co := 0) (out := []) (Ao := none) hD ⟨rfl, fun h => absurd h (by decide)⟩ canon_nilV (fun x y => ⟨fun ⟨r, h, _⟩ => (by cases h), fun ⟨r, h, _⟩ => (by cases h)⟩) (by simp))
                have hset := setC_W hsc (by rw [HKL.out]; omega) hD (hbo _) ⟨rfl, rfl⟩ (fun _ => rfl)
                have hfr := hsc.fresh
                rw [HKL.out] at hset hfr
                refine (pset_any (.agg #[.map mp]) (k + 1) bs (idW k) x.a.bx _ (idW_bd (by omega)) (by omega) (HMX.out.pa.below HBW.out) (fun h => by omega)).mono ?_
                rintro e wc7 ⟨pv', rfl, hp', hbA⟩
                have e1 : setN bs (k + 1) (idW k) x.a.bx = k + 1 + 1 := by unfold setN; rw [hset, if_pos rfl, hfr]; rfl
                have e2 : setB bs (k + 1) (idW k) x.a.bx = fun j => if j = idW k then some x.a.bx else bs j := by unfold setB; rw [hset, if_pos rfl]
                rw [hset]
                rw [e1, e2] at hp'
                have hsn := (hsc.below hbA).snoc (hbo _)
                rw [HKL.out, ← HTK.out] at hsn
                have HSN := Lib.hid hsn
                have HPN := Lib.hid hp'
                obtain ⟨mp', rfl, _⟩ := hp'
                clear hsc hset hfr e1 e2 hsn hbo
                replace HBW := Lib.hid (bstep HBW.out hbA)
                clear hbA
                go_simp
                refine hK.out _ _ ?_ (fun hHeld => ?_)
                · (try dsimp only)
                  exact ⟨(HMX.out.k6.belowS HBW.out).cellV (i := 0) rfl, (K10.out.belowS HBW.out).cellV (i := 1) rfl, (K10.out.belowS HBW.out).cellV (i := 2) rfl, (K10.out.belowS HBW.out).cellV (i := 3) rfl, (K10.out.belowS HBW.out).cellV (i := 4) rfl, (K10.out.belowS HBW.out).cellV (i := 5) rfl⟩
                clear hK K
                refine Tr.take_at 8 49 (.tuple #[.agg #[.map mp'], .int .i64 0]) rfl rfl (by kernel_rfl) (by kernel_rfl) (by kernel_rfl) (fun _ _ _ h => h) (Or.inl ⟨by rfl, ?_⟩) (by assumption) ?_
                · intro W0 hSw
                  (try dsimp only at hSw)
                  go_simp
                simp only [List.set_cons_zero, List.set_cons_succ]
                refine Tr.take_at 9 58 (.agg #[.map mp']) rfl rfl (by kernel_rfl) (by kernel_rfl) (by kernel_rfl) (fun _ _ _ h => h) (Or.inl ⟨by rfl, ?_⟩) (by assumption) ?_
                · intro W0 hSw
                  (try dsimp only at hSw)
                  go_simp
                simp only [List.set_cons_zero, List.set_cons_succ]
                refine Tr.take_at 10 59 (.int .i64 0) rfl rfl (by kernel_rfl) (by kernel_rfl) (by kernel_rfl) (fun _ _ _ h => h) (Or.inl ⟨by rfl, ?_⟩) (by assumption) ?_
                · intro W0 hSw
                  (try dsimp only at hSw)
                  go_simp
                simp only [List.set_cons_zero, List.set_cons_succ]
                refine wpAnyH_ready (rs := [11]) (by kernel_rfl) (by simp) ?_
                refine AllReadyH.cons rfl (fun K hK => ?_) AllReadyH.nil
                go_simp
                have KA11 := Lib.hid (show Blk (wc7.alloc (.cells #[.map none] 37)) (wc7.heap.size) 37 #[.map none] from Blk.new wc7 37 #[.map none])
                have HL11 := Lib.hid (show X6.heap.size ≤ wc7.heap.size from HBW.out.size)
                have hbA : Below wc7.heap.size wc7 ((wc7.alloc (.cells #[.map none] 37))) := bal (bre wc7) (.cells #[.map none] 37)
                replace HBW := Lib.hid (bstep HBW.out hbA)
                replace HSN := Lib.hid (HSN.out.below hbA)
                replace HPN := Lib.hid (HPN.out.below hbA)
                clear hbA
                refine hK.out _ _ ?_ (fun hHeld => ?_)
                · (try dsimp only)
                  exact ⟨(HMX.out.k6.belowS HBW.out).cellV (i := 0) rfl, (K10.out.belowS HBW.out).cellV (i := 1) rfl, (K10.out.belowS HBW.out).cellV (i := 2) rfl, (K10.out.belowS HBW.out).cellV (i := 3) rfl, (K10.out.belowS HBW.out).cellV (i := 4) rfl, (K10.out.belowS HBW.out).cellV (i := 5) rfl⟩
                clear hK K
                refine wpAnyH_ready (rs := [12]) (by kernel_rfl) (by simp) ?_
                refine AllReadyH.cons rfl (fun K hK => ?_) AllReadyH.nil
                refine Tr.wanted_plain rfl ?_
                refine store_mid0 rfl 37 _ _ rfl (wc7.heap.size) 0 #[.map mp'] (by rfl) (by rfl) (by have h := there_blk KA11.out; exact h) Tryz.sizePl (by simp [Value.oneCell']) ?_
                have xK := blk_puts1 (.map mp') KA11.out
                have xB := bsets HBW.out HL11.out (#[.map mp'] : Array Value).toList 0
                have xHPN := (show PlaceIs (World.setCells (wc7.alloc (.cells #[.map none] 37)) (wc7.heap.size) 0 (#[.map mp'] : Array Value).toList) (.agg #[.map mp']) (k + 1 + 1) _ from HPN.out.setBlk KA11.out 0 (.map mp'))
                have xHSN := (show SceneIs (World.setCells (wc7.alloc (.cells #[.map none] 37)) (wc7.heap.size) 0 (#[.map mp'] : Array Value).toList) _ 12 10 (la.take (k + 1)) from HSN.out.keepG (grown_setCell _ ⟨wc7.heap.size, 0, none⟩ (.map mp')) KA11.out.noInt1)
                obtain ⟨wS12, hwS⟩ : ∃ wS, World.setCells (wc7.alloc (.cells #[.map none] 37)) (wc7.heap.size) 0 (#[.map mp'] : Array Value).toList = wS := ⟨_, rfl⟩
                rw [hwS] at xK xB xHPN xHSN ⊢
                replace HBW := Lib.hid xB
                replace KA11 := Lib.hid xK
                replace HPN := Lib.hid xHPN
                replace HSN := Lib.hid xHSN
                clear hwS xK xB xHPN xHSN
                refine hK.out _ _ ?_ (fun hHeld => ?_)
                · (try dsimp only)
                  exact ⟨(HMX.out.k6.belowS HBW.out).cellV (i := 0) rfl, (K10.out.belowS HBW.out).cellV (i := 1) rfl, (K10.out.belowS HBW.out).cellV (i := 2) rfl, (K10.out.belowS HBW.out).cellV (i := 3) rfl, (K10.out.belowS HBW.out).cellV (i := 4) rfl, (K10.out.belowS HBW.out).cellV (i := 5) rfl⟩
                clear hK K
                refine Tr.take_at 13 14 (.int .i64 0) rfl rfl (by kernel_rfl) (by kernel_rfl) (by kernel_rfl) (fun _ _ _ h => h) (Or.inl ⟨by rfl, ?_⟩) (by assumption) ?_
                · intro W0 hSw
                  (try dsimp only at hSw)
                  go_simp
                simp only [List.set_cons_zero, List.set_cons_succ]
                refine wpAnyH_done (by kernel_rfl) ?_ _
                refine NoPanic.normal ?_
                go_wp2_with fail
                go_meet
                exact ⟨_, mp', _, rfl, rfl, HL11.out, KA11.out, HPN.out, HSN.out, HBW.out⟩
              ·
                go_simp
                have KA11 := Lib.hid (show Blk (wc6.alloc (.cells #[.map none] 37)) (wc6.heap.size) 37 #[.map none] from Blk.new wc6 37 #[.map none])
                have HL11 := Lib.hid (show X6.heap.size ≤ wc6.heap.size from HBW.out.size)
                have hbA : Below wc6.heap.size wc6 ((wc6.alloc (.cells #[.map none] 37))) := bal (bre wc6) (.cells #[.map none] 37)
                replace HBW := Lib.hid (bstep HBW.out hbA)
                clear hbA
                refine hK.out _ _ ?_ (fun hHeld => ?_)
                · (try dsimp only)
                  exact ⟨(HMX.out.k6.belowS HBW.out).cellV (i := 0) rfl, (K10.out.belowS HBW.out).cellV (i := 1) rfl, (K10.out.belowS HBW.out).cellV (i := 2) rfl, (K10.out.belowS HBW.out).cellV (i := 3) rfl, (K10.out.belowS HBW.out).cellV (i := 4) rfl, (K10.out.belowS HBW.out).cellV (i := 5) rfl⟩
                clear hK K
                refine wpAnyH_ready (rs := [7]) (by kernel_rfl) (by simp) ?_
                refine AllReadyH.cons rfl (fun K hK => ?_) AllReadyH.nil
                go_simp
                have hsc := HMX.out.sa.below HBW.out
                have hD := HDA.out _ (List.mem_of_getElem? HD.out)
                have hbo := fun (W : World) => (show BoxOf W (x.a.dw (x.up k)) x.a.bx from box_of (co := 0) (out := []) (Ao := none) hD ⟨rfl, fun h => absurd h (by decide)⟩ canon_nilV (fun x y => ⟨fun ⟨r, h, _⟩ => (by cases h), fun ⟨r, h, _⟩ => (by cases h)⟩) (by simp))
                have hset := setC_W hsc (by rw [HKL.out]; omega) hD (hbo _) ⟨rfl, rfl⟩ (fun _ => rfl)
                have hfr := hsc.fresh
                rw [HKL.out] at hset hfr
                refine (pset_any (.agg #[.map mp]) (k + 1) bs (idW k) x.a.bx _ (idW_bd (by omega)) (by omega) (HMX.out.pa.below HBW.out) (fun h => by omega)).mono ?_
                rintro e wc7 ⟨pv', rfl, hp', hbA⟩
                have e1 : setN bs (k + 1) (idW k) x.a.bx = k + 1 + 1 := by unfold setN; rw [hset, if_pos rfl, hfr]; rfl
                have e2 : setB bs (k + 1) (idW k) x.a.bx = fun j => if j = idW k then some x.a.bx else bs j := by unfold setB; rw [hset, if_pos rfl]
                rw [hset]
                rw [e1, e2] at hp'
                have hsn := (hsc.below hbA).snoc (hbo _)
                rw [HKL.out, ← HTK.out] at hsn
                have HSN := Lib.hid hsn
                have HPN := Lib.hid hp'
                obtain ⟨mp', rfl, _⟩ := hp'
                clear hsc hset hfr e1 e2 hsn hbo
                replace HBW := Lib.hid (bstep HBW.out hbA)
                replace KA11 := Lib.hid (KA11.out.belowS hbA)
                clear hbA
                go_simp
                refine hK.out _ _ ?_ (fun hHeld => ?_)
                · (try dsimp only)
                  exact ⟨(HMX.out.k6.belowS HBW.out).cellV (i := 0) rfl, (K10.out.belowS HBW.out).cellV (i := 1) rfl, (K10.out.belowS HBW.out).cellV (i := 2) rfl, (K10.out.belowS HBW.out).cellV (i := 3) rfl, (K10.out.belowS HBW.out).cellV (i := 4) rfl, (K10.out.belowS HBW.out).cellV (i := 5) rfl⟩
                clear hK K
                refine Tr.take_at 8 49 (.tuple #[.agg #[.map mp'], .int .i64 0]) rfl rfl (by kernel_rfl) (by kernel_rfl) (by kernel_rfl) (fun _ _ _ h => h) (Or.inl ⟨by rfl, ?_⟩) (by assumption) ?_
                · intro W0 hSw
                  (try dsimp only at hSw)
                  go_simp
                simp only [List.set_cons_zero, List.set_cons_succ]
                refine Tr.take_at 9 58 (.agg #[.map mp']) rfl rfl (by kernel_rfl) (by kernel_rfl) (by kernel_rfl) (fun _ _ _ h => h) (Or.inl ⟨by rfl, ?_⟩) (by assumption) ?_
                · intro W0 hSw
                  (try dsimp only at hSw)
                  go_simp
                simp only [List.set_cons_zero, List.set_cons_succ]
                refine Tr.take_at 10 59 (.int .i64 0) rfl rfl (by kernel_rfl) (by kernel_rfl) (by kernel_rfl) (fun _ _ _ h => h) (Or.inl ⟨by rfl, ?_⟩) (by assumption) ?_
                · intro W0 hSw
                  (try dsimp only at hSw)
                  go_simp
                simp only [List.set_cons_zero, List.set_cons_succ]
                refine wpAnyH_ready (rs := [12]) (by kernel_rfl) (by simp) ?_
                refine AllReadyH.cons rfl (fun K hK => ?_) AllReadyH.nil
                refine Tr.wanted_plain rfl ?_
                refine store_mid0 rfl 37 _ _ rfl (wc6.heap.size) 0 #[.map mp'] (by rfl) (by rfl) (by have h := there_blk KA11.out; exact h) Tryz.sizePl (by simp [Value.oneCell']) ?_
                have xK := blk_puts1 (.map mp') KA11.out
                have xB := bsets HBW.out HL11.out (#[.map mp'] : Array Value).toList 0
                have xHPN := (show PlaceIs (World.setCells (wc7) (wc6.heap.size) 0 (#[.map mp'] : Array Value).toList) (.agg #[.map mp']) (k + 1 + 1) _ from HPN.out.setBlk KA11.out 0 (.map mp'))
                have xHSN := (show SceneIs (World.setCells (wc7) (wc6.heap.size) 0 (#[.map mp'] : Array Value).toList) _ 12 10 (la.take (k + 1)) from HSN.out.keepG (grown_setCell _ ⟨wc6.heap.size, 0, none⟩ (.map mp')) KA11.out.noInt1)
                obtain ⟨wS12, hwS⟩ : ∃ wS, World.setCells wc7 (wc6.heap.size) 0 (#[.map mp'] : Array Value).toList = wS := ⟨_, rfl⟩
                rw [hwS] at xK xB xHPN xHSN ⊢
                replace HBW := Lib.hid xB
                replace KA11 := Lib.hid xK
                replace HPN := Lib.hid xHPN
                replace HSN := Lib.hid xHSN
                clear hwS xK xB xHPN xHSN
                refine hK.out _ _ ?_ (fun hHeld => ?_)
                · (try dsimp only)
                  exact ⟨(HMX.out.k6.belowS HBW.out).cellV (i := 0) rfl, (K10.out.belowS HBW.out).cellV (i := 1) rfl, (K10.out.belowS HBW.out).cellV (i := 2) rfl, (K10.out.belowS HBW.out).cellV (i := 3) rfl, (K10.out.belowS HBW.out).cellV (i := 4) rfl, (K10.out.belowS HBW.out).cellV (i := 5) rfl⟩
                clear hK K
                refine Tr.take_at 13 14 (.int .i64 0) rfl rfl (by kernel_rfl) (by kernel_rfl) (by kernel_rfl) (fun _ _ _ h => h) (Or.inl ⟨by rfl, ?_⟩) (by assumption) ?_
                · intro W0 hSw
                  (try dsimp only at hSw)
                  go_simp
                simp only [List.set_cons_zero, List.set_cons_succ]
                refine wpAnyH_done (by kernel_rfl) ?_ _
                refine NoPanic.normal ?_
                go_wp2_with fail
                go_meet
                exact ⟨_, mp', _, rfl, rfl, HL11.out, KA11.out, HPN.out, HSN.out, HBW.out⟩
            ·
              go_simp
              have KA11 := Lib.hid (show Blk (wc3.alloc (.cells #[.map none] 37)) (wc3.heap.size) 37 #[.map none] from Blk.new wc3 37 #[.map none])
              have HL11 := Lib.hid (show X6.heap.size ≤ wc3.heap.size from HBW.out.size)
              have hbA : Below wc3.heap.size wc3 ((wc3.alloc (.cells #[.map none] 37))) := bal (bre wc3) (.cells #[.map none] 37)
              replace HBW := Lib.hid (bstep HBW.out hbA)
              clear hbA
              refine hK.out _ _ ?_ (fun hHeld => ?_)
              · (try dsimp only)
                exact ⟨(HMX.out.k6.belowS HBW.out).cellV (i := 0) rfl, (K10.out.belowS HBW.out).cellV (i := 1) rfl, (K10.out.belowS HBW.out).cellV (i := 2) rfl, (K10.out.belowS HBW.out).cellV (i := 3) rfl, (K10.out.belowS HBW.out).cellV (i := 4) rfl, (K10.out.belowS HBW.out).cellV (i := 5) rfl⟩
              clear hK K
              refine wpAnyH_ready (rs := [6]) (by kernel_rfl) (by simp) ?_
              refine AllReadyH.cons rfl (fun K hK => ?_) AllReadyH.nil
              go_simp
              refine (box32_any x.a _ HXO.out.2.1).mono ?_
              rintro e wc6 ⟨rfl, hbA⟩
              replace HBW := Lib.hid (bstep HBW.out hbA)
              replace KA11 := Lib.hid (KA11.out.belowS hbA)
              clear hbA
              go_simp
              refine hK.out _ _ ?_ (fun hHeld => ?_)
              · (try dsimp only)
                exact ⟨(HMX.out.k6.belowS HBW.out).cellV (i := 0) rfl, (K10.out.belowS HBW.out).cellV (i := 1) rfl, (K10.out.belowS HBW.out).cellV (i := 2) rfl, (K10.out.belowS HBW.out).cellV (i := 3) rfl, (K10.out.belowS HBW.out).cellV (i := 4) rfl, (K10.out.belowS HBW.out).cellV (i := 5) rfl⟩
              clear hK K
              refine wpAnyH_ready (rs := [7]) (by kernel_rfl) (by simp) ?_
              refine AllReadyH.cons rfl (fun K hK => ?_) AllReadyH.nil
              go_simp
              have hsc := HMX.out.sa.below HBW.out
              have hD := HDA.out _ (List.mem_of_getElem? HD.out)
              have hbo := fun (W : World) => (show BoxOf W (x.a.dw (x.up k)) x.a.bx from box_of (co := 0) (out := []) (Ao := none) hD ⟨rfl, fun h => absurd h (by decide)⟩ canon_nilV (fun x y => ⟨fun ⟨r, h, _⟩ => (by cases h), fun ⟨r, h, _⟩ => (by cases h)⟩) (by simp))
              have hset := setC_W hsc (by rw [HKL.out]; omega) hD (hbo _) ⟨rfl, rfl⟩ (fun _ => rfl)
              have hfr := hsc.fresh
              rw [HKL.out] at hset hfr
              refine (pset_any (.agg #[.map mp]) (k + 1) bs (idW k) x.a.bx _ (idW_bd (by omega)) (by omega) (HMX.out.pa.below HBW.out) (fun h => by omega)).mono ?_
              rintro e wc7 ⟨pv', rfl, hp', hbA⟩
              have e1 : setN bs (k + 1) (idW k) x.a.bx = k + 1 + 1 := by unfold setN; rw [hset, if_pos rfl, hfr]; rfl
              have e2 : setB bs (k + 1) (idW k) x.a.bx = fun j => if j = idW k then some x.a.bx else bs j := by unfold setB; rw [hset, if_pos rfl]
              rw [hset]
              rw [e1, e2] at hp'
              have hsn := (hsc.below hbA).snoc (hbo _)
              rw [HKL.out, ← HTK.out] at hsn
              have HSN := Lib.hid hsn
              have HPN := Lib.hid hp'
              obtain ⟨mp', rfl, _⟩ := hp'
              clear hsc hset hfr e1 e2 hsn hbo
              replace HBW := Lib.hid (bstep HBW.out hbA)
              replace KA11 := Lib.hid (KA11.out.belowS hbA)
              clear hbA
              go_simp
              refine hK.out _ _ ?_ (fun hHeld => ?_)
              · (try dsimp only)
                exact ⟨(HMX.out.k6.belowS HBW.out).cellV (i := 0) rfl, (K10.out.belowS HBW.out).cellV (i := 1) rfl, (K10.out.belowS HBW.out).cellV (i := 2) rfl, (K10.out.belowS HBW.out).cellV (i := 3) rfl, (K10.out.belowS HBW.out).cellV (i := 4) rfl, (K10.out.belowS HBW.out).cellV (i := 5) rfl⟩
              clear hK K
              refine Tr.take_at 8 49 (.tuple #[.agg #[.map mp'], .int .i64 0]) rfl rfl (by kernel_rfl) (by kernel_rfl) (by kernel_rfl) (fun _ _ _ h => h) (Or.inl ⟨by rfl, ?_⟩) (by assumption) ?_
              · intro W0 hSw
                (try dsimp only at hSw)
                go_simp
              simp only [List.set_cons_zero, List.set_cons_succ]
              refine Tr.take_at 9 58 (.agg #[.map mp']) rfl rfl (by kernel_rfl) (by kernel_rfl) (by kernel_rfl) (fun _ _ _ h => h) (Or.inl ⟨by rfl, ?_⟩) (by assumption) ?_
              · intro W0 hSw
                (try dsimp only at hSw)
                go_simp
              simp only [List.set_cons_zero, List.set_cons_succ]
              refine Tr.take_at 10 59 (.int .i64 0) rfl rfl (by kernel_rfl) (by kernel_rfl) (by kernel_rfl) (fun _ _ _ h => h) (Or.inl ⟨by rfl, ?_⟩) (by assumption) ?_
              · intro W0 hSw
                (try dsimp only at hSw)
                go_simp
              simp only [List.set_cons_zero, List.set_cons_succ]
              refine wpAnyH_ready (rs := [12]) (by kernel_rfl) (by simp) ?_
              refine AllReadyH.cons rfl (fun K hK => ?_) AllReadyH.nil
              refine Tr.wanted_plain rfl ?_
              refine store_mid0 rfl 37 _ _ rfl (wc3.heap.size) 0 #[.map mp'] (by rfl) (by rfl) (by have h := there_blk KA11.out; exact h) Tryz.sizePl (by simp [Value.oneCell']) ?_
              have xK := blk_puts1 (.map mp') KA11.out
              have xB := bsets HBW.out HL11.out (#[.map mp'] : Array Value).toList 0
              have xHPN := (show PlaceIs (World.setCells (wc7) (wc3.heap.size) 0 (#[.map mp'] : Array Value).toList) (.agg #[.map mp']) (k + 1 + 1) _ from HPN.out.setBlk KA11.out 0 (.map mp'))
              have xHSN := (show SceneIs (World.setCells (wc7) (wc3.heap.size) 0 (#[.map mp'] : Array Value).toList) _ 12 10 (la.take (k + 1)) from HSN.out.keepG (grown_setCell _ ⟨wc3.heap.size, 0, none⟩ (.map mp')) KA11.out.noInt1)
              obtain ⟨wS12, hwS⟩ : ∃ wS, World.setCells wc7 (wc3.heap.size) 0 (#[.map mp'] : Array Value).toList = wS := ⟨_, rfl⟩
              rw [hwS] at xK xB xHPN xHSN ⊢
              replace HBW := Lib.hid xB
              replace KA11 := Lib.hid xK
              replace HPN := Lib.hid xHPN
              replace HSN := Lib.hid xHSN
              clear hwS xK xB xHPN xHSN
              refine hK.out _ _ ?_ (fun hHeld => ?_)
              · (try dsimp only)
                exact ⟨(HMX.out.k6.belowS HBW.out).cellV (i := 0) rfl, (K10.out.belowS HBW.out).cellV (i := 1) rfl, (K10.out.belowS HBW.out).cellV (i := 2) rfl, (K10.out.belowS HBW.out).cellV (i := 3) rfl, (K10.out.belowS HBW.out).cellV (i := 4) rfl, (K10.out.belowS HBW.out).cellV (i := 5) rfl⟩
              clear hK K
              refine Tr.take_at 13 14 (.int .i64 0) rfl rfl (by kernel_rfl) (by kernel_rfl) (by kernel_rfl) (fun _ _ _ h => h) (Or.inl ⟨by rfl, ?_⟩) (by assumption) ?_
              · intro W0 hSw
                (try dsimp only at hSw)
                go_simp
              simp only [List.set_cons_zero, List.set_cons_succ]
              refine wpAnyH_done (by kernel_rfl) ?_ _
              refine NoPanic.normal ?_
              go_wp2_with fail
              go_meet
              exact ⟨_, mp', _, rfl, rfl, HL11.out, KA11.out, HPN.out, HSN.out, HBW.out⟩
          ·
            go_simp
            have KA11 := Lib.hid (show Blk (X6.alloc (.cells #[.map none] 37)).drew (X6.heap.size) 37 #[.map none] from Blk.new X6.drew 37 #[.map none])
            have HL11 := Lib.hid (show X6.heap.size ≤ X6.heap.size from HBW.out.size)
            have hbA : Below X6.drew.heap.size X6.drew ((X6.alloc (.cells #[.map none] 37)).drew) := bal (bre X6.drew) (.cells #[.map none] 37)
            replace HBW := Lib.hid (bstep HBW.out hbA)
            clear hbA
            refine hK.out _ _ ?_ (fun hHeld => ?_)
            · (try dsimp only)
              exact ⟨(HMX.out.k6.belowS HBW.out).cellV (i := 0) rfl, (K10.out.belowS HBW.out).cellV (i := 1) rfl, (K10.out.belowS HBW.out).cellV (i := 2) rfl, (K10.out.belowS HBW.out).cellV (i := 3) rfl, (K10.out.belowS HBW.out).cellV (i := 4) rfl, (K10.out.belowS HBW.out).cellV (i := 5) rfl⟩
            clear hK K
            refine wpAnyH_ready (rs := [3]) (by kernel_rfl) (by simp) ?_
            refine AllReadyH.cons rfl (fun K hK => ?_) AllReadyH.nil
            go_simp
            refine (id32_s (k + 1) (k : Int) (by omega) _ (by omega)).mono ?_
            rintro e wc3 ⟨rfl, hbA⟩
            replace HBW := Lib.hid (bstep HBW.out hbA)
            replace KA11 := Lib.hid (KA11.out.belowS hbA)
            clear hbA
            go_simp
            refine hK.out _ _ ?_ (fun hHeld => ?_)
            · (try dsimp only)
              exact ⟨(HMX.out.k6.belowS HBW.out).cellV (i := 0) rfl, (K10.out.belowS HBW.out).cellV (i := 1) rfl, (K10.out.belowS HBW.out).cellV (i := 2) rfl, (K10.out.belowS HBW.out).cellV (i := 3) rfl, (K10.out.belowS HBW.out).cellV (i := 4) rfl, (K10.out.belowS HBW.out).cellV (i := 5) rfl⟩
            clear hK K
            refine wpAnyH_ready (rs := [6]) (by kernel_rfl) (by simp) ?_
            refine AllReadyH.cons rfl (fun K hK => ?_) AllReadyH.nil
            go_simp
            refine (box32_any x.a _ HXO.out.2.1).mono ?_
            rintro e wc6 ⟨rfl, hbA⟩
            replace HBW := Lib.hid (bstep HBW.out hbA)
            replace KA11 := Lib.hid (KA11.out.belowS hbA)
            clear hbA
            go_simp
            refine hK.out _ _ ?_ (fun hHeld => ?_)
            · (try dsimp only)
              exact ⟨(HMX.out.k6.belowS HBW.out).cellV (i := 0) rfl, (K10.out.belowS HBW.out).cellV (i := 1) rfl, (K10.out.belowS HBW.out).cellV (i := 2) rfl, (K10.out.belowS HBW.out).cellV (i := 3) rfl, (K10.out.belowS HBW.out).cellV (i := 4) rfl, (K10.out.belowS HBW.out).cellV (i := 5) rfl⟩
            clear hK K
            refine wpAnyH_ready (rs := [7]) (by kernel_rfl) (by simp) ?_
            refine AllReadyH.cons rfl (fun K hK => ?_) AllReadyH.nil
            go_simp
            have hsc := HMX.out.sa.below HBW.out
            have hD := HDA.out _ (List.mem_of_getElem? HD.out)
            have hbo := fun (W : World) => (show BoxOf W (x.a.dw (x.up k)) x.a.bx from box_of (co := 0) (out := []) (Ao := none) hD ⟨rfl, fun h => absurd h (by decide)⟩ canon_nilV (fun x y => ⟨fun ⟨r, h, _⟩ => (by cases h), fun ⟨r, h, _⟩ => (by cases h)⟩) (by simp))
            have hset := setC_W hsc (by rw [HKL.out]; omega) hD (hbo _) ⟨rfl, rfl⟩ (fun _ => rfl)
            have hfr := hsc.fresh
            rw [HKL.out] at hset hfr
            refine (pset_any (.agg #[.map mp]) (k + 1) bs (idW k) x.a.bx _ (idW_bd (by omega)) (by omega) (HMX.out.pa.below HBW.out) (fun h => by omega)).mono ?_
            rintro e wc7 ⟨pv', rfl, hp', hbA⟩
            have e1 : setN bs (k + 1) (idW k) x.a.bx = k + 1 + 1 := by unfold setN; rw [hset, if_pos rfl, hfr]; rfl
            have e2 : setB bs (k + 1) (idW k) x.a.bx = fun j => if j = idW k then some x.a.bx else bs j := by unfold setB; rw [hset, if_pos rfl]
            rw [hset]
            rw [e1, e2] at hp'
            have hsn := (hsc.below hbA).snoc (hbo _)
            rw [HKL.out, ← HTK.out] at hsn
            have HSN := Lib.hid hsn
            have HPN := Lib.hid hp'
            obtain ⟨mp', rfl, _⟩ := hp'
            clear hsc hset hfr e1 e2 hsn hbo
            replace HBW := Lib.hid (bstep HBW.out hbA)
            replace KA11 := Lib.hid (KA11.out.belowS hbA)
            clear hbA
            go_simp
            refine hK.out _ _ ?_ (fun hHeld => ?_)
            · (try dsimp only)
              exact ⟨(HMX.out.k6.belowS HBW.out).cellV (i := 0) rfl, (K10.out.belowS HBW.out).cellV (i := 1) rfl, (K10.out.belowS HBW.out).cellV (i := 2) rfl, (K10.out.belowS HBW.out).cellV (i := 3) rfl, (K10.out.belowS HBW.out).cellV (i := 4) rfl, (K10.out.belowS HBW.out).cellV (i := 5) rfl⟩
            clear hK K
            refine Tr.take_at 8 49 (.tuple #[.agg #[.map mp'], .int .i64 0]) rfl rfl (by kernel_rfl) (by kernel_rfl) (by kernel_rfl) (fun _ _ _ h => h) (Or.inl ⟨by rfl, ?_⟩) (by assumption) ?_
            · intro W0 hSw
              (try dsimp only at hSw)
              go_simp
            simp only [List.set_cons_zero, List.set_cons_succ]
            refine Tr.take_at 9 58 (.agg #[.map mp']) rfl rfl (by kernel_rfl) (by kernel_rfl) (by kernel_rfl) (fun _ _ _ h => h) (Or.inl ⟨by rfl, ?_⟩) (by assumption) ?_
            · intro W0 hSw
              (try dsimp only at hSw)
              go_simp
            simp only [List.set_cons_zero, List.set_cons_succ]
            refine Tr.take_at 10 59 (.int .i64 0) rfl rfl (by kernel_rfl) (by kernel_rfl) (by kernel_rfl) (fun _ _ _ h => h) (Or.inl ⟨by rfl, ?_⟩) (by assumption) ?_
            · intro W0 hSw
              (try dsimp only at hSw)
              go_simp
            simp only [List.set_cons_zero, List.set_cons_succ]
            refine wpAnyH_ready (rs := [12]) (by kernel_rfl) (by simp) ?_
            refine AllReadyH.cons rfl (fun K hK => ?_) AllReadyH.nil
            refine Tr.wanted_plain rfl ?_
            refine store_mid0 rfl 37 _ _ rfl (X6.heap.size) 0 #[.map mp'] (by rfl) (by rfl) (by have h := there_blk KA11.out; exact h) Tryz.sizePl (by simp [Value.oneCell']) ?_
            have xK := blk_puts1 (.map mp') KA11.out
            have xB := bsets HBW.out HL11.out (#[.map mp'] : Array Value).toList 0
            have xHPN := (show PlaceIs (World.setCells (wc7) (X6.heap.size) 0 (#[.map mp'] : Array Value).toList) (.agg #[.map mp']) (k + 1 + 1) _ from HPN.out.setBlk KA11.out 0 (.map mp'))
            have xHSN := (show SceneIs (World.setCells (wc7) (X6.heap.size) 0 (#[.map mp'] : Array Value).toList) _ 12 10 (la.take (k + 1)) from HSN.out.keepG (grown_setCell _ ⟨X6.heap.size, 0, none⟩ (.map mp')) KA11.out.noInt1)
            obtain ⟨wS12, hwS⟩ : ∃ wS, World.setCells wc7 (X6.heap.size) 0 (#[.map mp'] : Array Value).toList = wS := ⟨_, rfl⟩
            rw [hwS] at xK xB xHPN xHSN ⊢
            replace HBW := Lib.hid xB
            replace KA11 := Lib.hid xK
            replace HPN := Lib.hid xHPN
            replace HSN := Lib.hid xHSN
            clear hwS xK xB xHPN xHSN
            refine hK.out _ _ ?_ (fun hHeld => ?_)
            · (try dsimp only)
              exact ⟨(HMX.out.k6.belowS HBW.out).cellV (i := 0) rfl, (K10.out.belowS HBW.out).cellV (i := 1) rfl, (K10.out.belowS HBW.out).cellV (i := 2) rfl, (K10.out.belowS HBW.out).cellV (i := 3) rfl, (K10.out.belowS HBW.out).cellV (i := 4) rfl, (K10.out.belowS HBW.out).cellV (i := 5) rfl⟩
            clear hK K
            refine Tr.take_at 13 14 (.int .i64 0) rfl rfl (by kernel_rfl) (by kernel_rfl) (by kernel_rfl) (fun _ _ _ h => h) (Or.inl ⟨by rfl, ?_⟩) (by assumption) ?_
            · intro W0 hSw
              (try dsimp only at hSw)
              go_simp
            simp only [List.set_cons_zero, List.set_cons_succ]
            refine wpAnyH_done (by kernel_rfl) ?_ _
            refine NoPanic.normal ?_
            go_wp2_with fail
            go_meet
            exact ⟨_, mp', _, rfl, rfl, HL11.out, KA11.out, HPN.out, HSN.out, HBW.out⟩
      obtain ⟨g13, mp', bs', rfl, rfl, hg13, hk13, hp13, hs13, hbd⟩ := hcut
      have K13 := Lib.hid hk13
      have HPA := Lib.hid hp13
      have HSCA := Lib.hid hs13
      have HG13 := Lib.hid hg13
      replace HB := Lib.hid (bstep HB.out hbd)
      replace HMX := Lib.hid (HMX.out.below hbd)
      replace K2 := Lib.hid (K2.out.belowS hbd)
      replace K3 := Lib.hid (K3.out.belowS hbd)
      replace K10 := Lib.hid (K10.out.belowS hbd)
      replace K11 := Lib.hid (K11.out.belowS hbd)
      replace HTN := Lib.hid (HTN.out.below hbd)
      have HXD := Lib.hid hbd.size
      clear hbd hg13 hk13 hp13 hs13
      obtain ⟨X7, hX7⟩ : ∃ X7, X7 = wc := ⟨_, rfl⟩
      subst hX7
      go_upto_region 11 with fail
      go_cut [15, 16] from 93 (fun s wy wx => ∃ (g : Nat) (m' : Option Nat) (b' : Bxs), s = .pointer (some ⟨g, 0, none⟩) ∧ wy = .int .i64 0 ∧ X7.heap.size ≤ g ∧ Blk wx g 37 #[.map m'] ∧ PlaceIs wx (.agg #[.map m']) (k + 1 + 1) b' ∧ SceneIs wx b' 12 10 (lb.take (k + 1)) ∧ Below X7.heap.size X7 wx)
      case first =>
        as_aux_lemma =>
          have HBW := Lib.hid (show Below X7.heap.size X7 X7.drew from (bre X7).drew)
          refine wp_region_noPanic ?_
          refine wp_region_held_drew (S := (fun w' => w'.cell? ⟨X2.heap.size, 0, none⟩ = some (.map mq) ∧ w'.cell? ⟨wr.heap.size, 6, none⟩ = some (.int .i8 x.b.X) ∧ w'.cell? ⟨wr.heap.size, 7, none⟩ = some (.int .i8 x.b.Y) ∧ w'.cell? ⟨wr.heap.size, 8, none⟩ = some (.int .u8 x.b.W) ∧ w'.cell? ⟨wr.heap.size, 9, none⟩ = some (.int .u8 x.b.H) ∧ w'.cell? ⟨wr.heap.size, 10, none⟩ = some (.bool x.b.M))) (by kernel_rfl) ?_ (fun hHeld => ?_)
          · (try dsimp only)
            exact ⟨(HMX.out.k8.belowS HBW.out).cellV (i := 0) rfl, (K10.out.belowS HBW.out).cellV (i := 6) rfl, (K10.out.belowS HBW.out).cellV (i := 7) rfl, (K10.out.belowS HBW.out).cellV (i := 8) rfl, (K10.out.belowS HBW.out).cellV (i := 9) rfl, (K10.out.belowS HBW.out).cellV (i := 10) rfl⟩
          refine Tr.take_at 0 61 (.agg #[.map mq]) rfl rfl (by kernel_rfl) (by kernel_rfl) (by kernel_rfl) (fun _ _ _ h => h) (Or.inl ⟨by rfl, ?_⟩) (by assumption) ?_
          · intro W0 hSw
            (try dsimp only at hSw)
            go_simp
          simp only [List.set_cons_zero, List.set_cons_succ]
          refine Tr.take_at 1 62 (.int .i64 k) rfl rfl (by kernel_rfl) (by kernel_rfl) (by kernel_rfl) (fun _ _ _ h => h) (Or.inl ⟨by rfl, ?_⟩) (by assumption) ?_
          · intro W0 hSw
            (try dsimp only at hSw)
            go_simp
          simp only [List.set_cons_zero, List.set_cons_succ]
          refine Tr.take_at 2 63 (.int .i64 ((k + 1 : Nat) : Int)) rfl rfl (by kernel_rfl) (by kernel_rfl) (by kernel_rfl) (fun _ _ _ h => h) (Or.inl ⟨by rfl, ?_⟩) (by assumption) ?_
          · intro W0 hSw
            (try dsimp only at hSw)
            go_simp
          simp only [List.set_cons_zero, List.set_cons_succ]
          refine Tr.take_at 4 65 (.pointer (some ⟨wr.heap.size, 6, none⟩)) rfl rfl (by kernel_rfl) (by kernel_rfl) (by kernel_rfl) (fun _ _ _ h => h) (Or.inl ⟨by rfl, ?_⟩) (by assumption) ?_
          · intro W0 hSw
            (try dsimp only at hSw)
            go_simp
          simp only [List.set_cons_zero, List.set_cons_succ]
          refine Tr.take_at 5 66 (.agg #[.int .i8 x.b.X, .int .i8 x.b.Y, .int .u8 x.b.W, .int .u8 x.b.H, .bool x.b.M]) rfl rfl (by kernel_rfl) (by kernel_rfl) (by kernel_rfl) (fun _ _ _ h => h) (Or.inl ⟨by rfl, ?_⟩) (by assumption) ?_
          · intro W0 hSw
            (try dsimp only at hSw)
            go_simp
          simp only [List.set_cons_zero, List.set_cons_succ]
          refine wpAnyH_ready (rs := [3, 11]) (by kernel_rfl) (by simp) ?_
          refine AllReadyH.cons rfl (fun K hK => ?_) (AllReadyH.cons rfl (fun K hK => ?_) AllReadyH.nil)
          ·
            go_simp
            refine (id32_s (k + 1) (k : Int) (by omega) _ (by omega)).mono ?_
            rintro e wc3 ⟨rfl, hbA⟩
            replace HBW := Lib.hid (bstep HBW.out hbA)
            clear hbA
            go_simp
            refine hK.out _ _ ?_ (fun hHeld => ?_)
            · (try dsimp only)
              exact ⟨(HMX.out.k8.belowS HBW.out).cellV (i := 0) rfl, (K10.out.belowS HBW.out).cellV (i := 6) rfl, (K10.out.belowS HBW.out).cellV (i := 7) rfl, (K10.out.belowS HBW.out).cellV (i := 8) rfl, (K10.out.belowS HBW.out).cellV (i := 9) rfl, (K10.out.belowS HBW.out).cellV (i := 10) rfl⟩
            clear hK K
            refine wpAnyH_ready (rs := [6, 11]) (by kernel_rfl) (by simp) ?_
            refine AllReadyH.cons rfl (fun K hK => ?_) (AllReadyH.cons rfl (fun K hK => ?_) AllReadyH.nil)
            ·
              go_simp
              refine (box32_any x.b _ HXO.out.2.2).mono ?_
              rintro e wc6 ⟨rfl, hbA⟩
              replace HBW := Lib.hid (bstep HBW.out hbA)
              clear hbA
              go_simp
              refine hK.out _ _ ?_ (fun hHeld => ?_)
              · (try dsimp only)
                exact ⟨(HMX.out.k8.belowS HBW.out).cellV (i := 0) rfl, (K10.out.belowS HBW.out).cellV (i := 6) rfl, (K10.out.belowS HBW.out).cellV (i := 7) rfl, (K10.out.belowS HBW.out).cellV (i := 8) rfl, (K10.out.belowS HBW.out).cellV (i := 9) rfl, (K10.out.belowS HBW.out).cellV (i := 10) rfl⟩
              clear hK K
              refine wpAnyH_ready (rs := [7, 11]) (by kernel_rfl) (by simp) ?_
              refine AllReadyH.cons rfl (fun K hK => ?_) (AllReadyH.cons rfl (fun K hK => ?_) AllReadyH.nil)
              ·
                go_simp
                have hsc := HMX.out.sb.below HBW.out
                have hD := HDB.out _ (List.mem_of_getElem? HE.out)
                have hbo := fun (W : World) => (show BoxOf W (x.b.dw (x.up k)) x.b.bx from box_of (co := 0) (out := []) (Ao := none) hD ⟨rfl, fun h => absurd h (by decide)⟩ canon_nilV (fun x y => ⟨fun ⟨r, h, _⟩ => (by cases h), fun ⟨r, h, _⟩ => (by cases h)⟩) (by simp))
                have hset := setC_W hsc (by rw [HKM.out]; omega) hD (hbo _) ⟨rfl, rfl⟩ (fun _ => rfl)
                have hfr := hsc.fresh
                rw [HKM.out] at hset hfr
                refine (pset_any (.agg #[.map mq]) (k + 1) bt (idW k) x.b.bx _ (idW_bd (by omega)) (by omega) (HMX.out.pb.below HBW.out) (fun h => by omega)).mono ?_
                rintro e wc7 ⟨pv', rfl, hp', hbA⟩
                have e1 : setN bt (k + 1) (idW k) x.b.bx = k + 1 + 1 := by unfold setN; rw [hset, if_pos rfl, hfr]; rfl
                have e2 : setB bt (k + 1) (idW k) x.b.bx = fun j => if j = idW k then some x.b.bx else bt j := by unfold setB; rw [hset, if_pos rfl]
                rw [hset]
                rw [e1, e2] at hp'
                have hsn := (hsc.below hbA).snoc (hbo _)
                rw [HKM.out, ← HTE.out] at hsn
                have HSN := Lib.hid hsn
                have HPN := Lib.hid hp'
                obtain ⟨mp', rfl, _⟩ := hp'
                clear hsc hset hfr e1 e2 hsn hbo
                replace HBW := Lib.hid (bstep HBW.out hbA)
                clear hbA
                go_simp
                refine hK.out _ _ ?_ (fun hHeld => ?_)
                · (try dsimp only)
                  exact ⟨(HMX.out.k8.belowS HBW.out).cellV (i := 0) rfl, (K10.out.belowS HBW.out).cellV (i := 6) rfl, (K10.out.belowS HBW.out).cellV (i := 7) rfl, (K10.out.belowS HBW.out).cellV (i := 8) rfl, (K10.out.belowS HBW.out).cellV (i := 9) rfl, (K10.out.belowS HBW.out).cellV (i := 10) rfl⟩
                clear hK K
                refine Tr.take_at 8 60 (.tuple #[.agg #[.map mp'], .int .i64 0]) rfl rfl (by kernel_rfl) (by kernel_rfl) (by kernel_rfl) (fun _ _ _ h => h) (Or.inl ⟨by rfl, ?_⟩) (by assumption) ?_
                · intro W0 hSw
                  (try dsimp only at hSw)
                  go_simp
                simp only [List.set_cons_zero, List.set_cons_succ]
                refine Tr.take_at 9 69 (.agg #[.map mp']) rfl rfl (by kernel_rfl) (by kernel_rfl) (by kernel_rfl) (fun _ _ _ h => h) (Or.inl ⟨by rfl, ?_⟩) (by assumption) ?_
                · intro W0 hSw
                  (try dsimp only at hSw)
                  go_simp
                simp only [List.set_cons_zero, List.set_cons_succ]
                refine Tr.take_at 10 70 (.int .i64 0) rfl rfl (by kernel_rfl) (by kernel_rfl) (by kernel_rfl) (fun _ _ _ h => h) (Or.inl ⟨by rfl, ?_⟩) (by assumption) ?_
                · intro W0 hSw
                  (try dsimp only at hSw)
                  go_simp
                simp only [List.set_cons_zero, List.set_cons_succ]
                refine wpAnyH_ready (rs := [11]) (by kernel_rfl) (by simp) ?_
                refine AllReadyH.cons rfl (fun K hK => ?_) AllReadyH.nil
                go_simp
                have KA11 := Lib.hid (show Blk (wc7.alloc (.cells #[.map none] 37)) (wc7.heap.size) 37 #[.map none] from Blk.new wc7 37 #[.map none])
                have HL11 := Lib.hid (show X7.heap.size ≤ wc7.heap.size from HBW.out.size)
                have hbA : Below wc7.heap.size wc7 ((wc7.alloc (.cells #[.map none] 37))) := bal (bre wc7) (.cells #[.map none] 37)
                replace HBW := Lib.hid (bstep HBW.out hbA)
                replace HSN := Lib.hid (HSN.out.below hbA)
                replace HPN := Lib.hid (HPN.out.below hbA)
                clear hbA
                refine hK.out _ _ ?_ (fun hHeld => ?_)
                · (try dsimp only)
                  exact ⟨(HMX.out.k8.belowS HBW.out).cellV (i := 0) rfl, (K10.out.belowS HBW.out).cellV (i := 6) rfl, (K10.out.belowS HBW.out).cellV (i := 7) rfl, (K10.out.belowS HBW.out).cellV (i := 8) rfl, (K10.out.belowS HBW.out).cellV (i := 9) rfl, (K10.out.belowS HBW.out).cellV (i := 10) rfl⟩
                clear hK K
                refine wpAnyH_ready (rs := [12]) (by kernel_rfl) (by simp) ?_
                refine AllReadyH.cons rfl (fun K hK => ?_) AllReadyH.nil
                refine Tr.wanted_plain rfl ?_
                refine store_mid0 rfl 37 _ _ rfl (wc7.heap.size) 0 #[.map mp'] (by rfl) (by rfl) (by have h := there_blk KA11.out; exact h) Tryz.sizePl (by simp [Value.oneCell']) ?_
                have xK := blk_puts1 (.map mp') KA11.out
                have xB := bsets HBW.out HL11.out (#[.map mp'] : Array Value).toList 0
                have xHPN := (show PlaceIs (World.setCells (wc7.alloc (.cells #[.map none] 37)) (wc7.heap.size) 0 (#[.map mp'] : Array Value).toList) (.agg #[.map mp']) (k + 1 + 1) _ from HPN.out.setBlk KA11.out 0 (.map mp'))
                have xHSN := (show SceneIs (World.setCells (wc7.alloc (.cells #[.map none] 37)) (wc7.heap.size) 0 (#[.map mp'] : Array Value).toList) _ 12 10 (lb.take (k + 1)) from HSN.out.keepG (grown_setCell _ ⟨wc7.heap.size, 0, none⟩ (.map mp')) KA11.out.noInt1)
                obtain ⟨wS12, hwS⟩ : ∃ wS, World.setCells (wc7.alloc (.cells #[.map none] 37)) (wc7.heap.size) 0 (#[.map mp'] : Array Value).toList = wS := ⟨_, rfl⟩
                rw [hwS] at xK xB xHPN xHSN ⊢
                replace HBW := Lib.hid xB
                replace KA11 := Lib.hid xK
                replace HPN := Lib.hid xHPN
                replace HSN := Lib.hid xHSN
                clear hwS xK xB xHPN xHSN
                refine hK.out _ _ ?_ (fun hHeld => ?_)
                · (try dsimp only)
                  exact ⟨(HMX.out.k8.belowS HBW.out).cellV (i := 0) rfl, (K10.out.belowS HBW.out).cellV (i := 6) rfl, (K10.out.belowS HBW.out).cellV (i := 7) rfl, (K10.out.belowS HBW.out).cellV (i := 8) rfl, (K10.out.belowS HBW.out).cellV (i := 9) rfl, (K10.out.belowS HBW.out).cellV (i := 10) rfl⟩
                clear hK K
                refine Tr.take_at 13 16 (.int .i64 0) rfl rfl (by kernel_rfl) (by kernel_rfl) (by kernel_rfl) (fun _ _ _ h => h) (Or.inl ⟨by rfl, ?_⟩) (by assumption) ?_
                · intro W0 hSw
                  (try dsimp only at hSw)
                  go_simp
                simp only [List.set_cons_zero, List.set_cons_succ]
                refine wpAnyH_done (by kernel_rfl) ?_ _
                refine NoPanic.normal ?_
                go_wp2_with fail
                go_meet
                exact ⟨_, mp', _, rfl, rfl, HL11.out, KA11.out, HPN.out, HSN.out, HBW.out⟩
              ·
                go_simp
                have KA11 := Lib.hid (show Blk (wc6.alloc (.cells #[.map none] 37)) (wc6.heap.size) 37 #[.map none] from Blk.new wc6 37 #[.map none])
                have HL11 := Lib.hid (show X7.heap.size ≤ wc6.heap.size from HBW.out.size)
                have hbA : Below wc6.heap.size wc6 ((wc6.alloc (.cells #[.map none] 37))) := bal (bre wc6) (.cells #[.map none] 37)
                replace HBW := Lib.hid (bstep HBW.out hbA)
                clear hbA
                refine hK.out _ _ ?_ (fun hHeld => ?_)
                · (try dsimp only)
                  exact ⟨(HMX.out.k8.belowS HBW.out).cellV (i := 0) rfl, (K10.out.belowS HBW.out).cellV (i := 6) rfl, (K10.out.belowS HBW.out).cellV (i := 7) rfl, (K10.out.belowS HBW.out).cellV (i := 8) rfl, (K10.out.belowS HBW.out).cellV (i := 9) rfl, (K10.out.belowS HBW.out).cellV (i := 10) rfl⟩
                clear hK K
                refine wpAnyH_ready (rs := [7]) (by kernel_rfl) (by simp) ?_
                refine AllReadyH.cons rfl (fun K hK => ?_) AllReadyH.nil
                go_simp
                have hsc := HMX.out.sb.below HBW.out
                have hD := HDB.out _ (List.mem_of_getElem? HE.out)
                have hbo := fun (W : World) => (show BoxOf W (x.b.dw (x.up k)) x.b.bx from box_of (co := 0) (out := []) (Ao := none) hD ⟨rfl, fun h => absurd h (by decide)⟩ canon_nilV (fun x y => ⟨fun ⟨r, h, _⟩ => (by cases h), fun ⟨r, h, _⟩ => (by cases h)⟩) (by simp))
                have hset := setC_W hsc (by rw [HKM.out]; omega) hD (hbo _) ⟨rfl, rfl⟩ (fun _ => rfl)
                have hfr := hsc.fresh
                rw [HKM.out] at hset hfr
                refine (pset_any (.agg #[.map mq]) (k + 1) bt (idW k) x.b.bx _ (idW_bd (by omega)) (by omega) (HMX.out.pb.below HBW.out) (fun h => by omega)).mono ?_
                rintro e wc7 ⟨pv', rfl, hp', hbA⟩
                have e1 : setN bt (k + 1) (idW k) x.b.bx = k + 1 + 1 := by unfold setN; rw [hset, if_pos rfl, hfr]; rfl
                have e2 : setB bt (k + 1) (idW k) x.b.bx = fun j => if j = idW k then some x.b.bx else bt j := by unfold setB; rw [hset, if_pos rfl]
                rw [hset]
                rw [e1, e2] at hp'
                have hsn := (hsc.below hbA).snoc (hbo _)
                rw [HKM.out, ← HTE.out] at hsn
                have HSN := Lib.hid hsn
                have HPN := Lib.hid hp'
                obtain ⟨mp', rfl, _⟩ := hp'
                clear hsc hset hfr e1 e2 hsn hbo
                replace HBW := Lib.hid (bstep HBW.out hbA)
                replace KA11 := Lib.hid (KA11.out.belowS hbA)
                clear hbA
                go_simp
                refine hK.out _ _ ?_ (fun hHeld => ?_)
                · (try dsimp only)
                  exact ⟨(HMX.out.k8.belowS HBW.out).cellV (i := 0) rfl, (K10.out.belowS HBW.out).cellV (i := 6) rfl, (K10.out.belowS HBW.out).cellV (i := 7) rfl, (K10.out.belowS HBW.out).cellV (i := 8) rfl, (K10.out.belowS HBW.out).cellV (i := 9) rfl, (K10.out.belowS HBW.out).cellV (i := 10) rfl⟩
                clear hK K
                refine Tr.take_at 8 60 (.tuple #[.agg #[.map mp'], .int .i64 0]) rfl rfl (by kernel_rfl) (by kernel_rfl) (by kernel_rfl) (fun _ _ _ h => h) (Or.inl ⟨by rfl, ?_⟩) (by assumption) ?_
                · intro W0 hSw
                  (try dsimp only at hSw)
                  go_simp
                simp only [List.set_cons_zero, List.set_cons_succ]
                refine Tr.take_at 9 69 (.agg #[.map mp']) rfl rfl (by kernel_rfl) (by kernel_rfl) (by kernel_rfl) (fun _ _ _ h => h) (Or.inl ⟨by rfl, ?_⟩) (by assumption) ?_
                · intro W0 hSw
                  (try dsimp only at hSw)
                  go_simp
                simp only [List.set_cons_zero, List.set_cons_succ]
                refine Tr.take_at 10 70 (.int .i64 0) rfl rfl (by kernel_rfl) (by kernel_rfl) (by kernel_rfl) (fun _ _ _ h => h) (Or.inl ⟨by rfl, ?_⟩) (by assumption) ?_
                · intro W0 hSw
                  (try dsimp only at hSw)
                  go_simp
                simp only [List.set_cons_zero, List.set_cons_succ]
                refine wpAnyH_ready (rs := [12]) (by kernel_rfl) (by simp) ?_
                refine AllReadyH.cons rfl (fun K hK => ?_) AllReadyH.nil
                refine Tr.wanted_plain rfl ?_
                refine store_mid0 rfl 37 _ _ rfl (wc6.heap.size) 0 #[.map mp'] (by rfl) (by rfl) (by have h := there_blk KA11.out; exact h) Tryz.sizePl (by simp [Value.oneCell']) ?_
                have xK := blk_puts1 (.map mp') KA11.out
                have xB := bsets HBW.out HL11.out (#[.map mp'] : Array Value).toList 0
                have xHPN := (show PlaceIs (World.setCells (wc7) (wc6.heap.size) 0 (#[.map mp'] : Array Value).toList) (.agg #[.map mp']) (k + 1 + 1) _ from HPN.out.setBlk KA11.out 0 (.map mp'))
                have xHSN := (show SceneIs (World.setCells (wc7) (wc6.heap.size) 0 (#[.map mp'] : Array Value).toList) _ 12 10 (lb.take (k + 1)) from HSN.out.keepG (grown_setCell _ ⟨wc6.heap.size, 0, none⟩ (.map mp')) KA11.out.noInt1)
                obtain ⟨wS12, hwS⟩ : ∃ wS, World.setCells wc7 (wc6.heap.size) 0 (#[.map mp'] : Array Value).toList = wS := ⟨_, rfl⟩
                rw [hwS] at xK xB xHPN xHSN ⊢
                replace HBW := Lib.hid xB
                replace KA11 := Lib.hid xK
                replace HPN := Lib.hid xHPN
                replace HSN := Lib.hid xHSN
                clear hwS xK xB xHPN xHSN
                refine hK.out _ _ ?_ (fun hHeld => ?_)
                · (try dsimp only)
                  exact ⟨(HMX.out.k8.belowS HBW.out).cellV (i := 0) rfl, (K10.out.belowS HBW.out).cellV (i := 6) rfl, (K10.out.belowS HBW.out).cellV (i := 7) rfl, (K10.out.belowS HBW.out).cellV (i := 8) rfl, (K10.out.belowS HBW.out).cellV (i := 9) rfl, (K10.out.belowS HBW.out).cellV (i := 10) rfl⟩
                clear hK K
                refine Tr.take_at 13 16 (.int .i64 0) rfl rfl (by kernel_rfl) (by kernel_rfl) (by kernel_rfl) (fun _ _ _ h => h) (Or.inl ⟨by rfl, ?_⟩) (by assumption) ?_
                · intro W0 hSw
                  (try dsimp only at hSw)
                  go_simp
                simp only [List.set_cons_zero, List.set_cons_succ]
                refine wpAnyH_done (by kernel_rfl) ?_ _
                refine NoPanic.normal ?_
                go_wp2_with fail
                go_meet
                exact ⟨_, mp', _, rfl, rfl, HL11.out, KA11.out, HPN.out, HSN.out, HBW.out⟩
            ·
              go_simp
              have KA11 := Lib.hid (show Blk (wc3.alloc (.cells #[.map none] 37)) (wc3.heap.size) 37 #[.map none] from Blk.new wc3 37 #[.map none])
              have HL11 := Lib.hid (show X7.heap.size ≤ wc3.heap.size from HBW.out.size)
              have hbA : Below wc3.heap.size wc3 ((wc3.alloc (.cells #[.map none] 37))) := bal (bre wc3) (.cells #[.map none] 37)
              replace HBW := Lib.hid (bstep HBW.out hbA)
              clear hbA
              refine hK.out _ _ ?_ (fun hHeld => ?_)
              · (try dsimp only)
                exact ⟨(HMX.out.k8.belowS HBW.out).cellV (i := 0) rfl, (K10.out.belowS HBW.out).cellV (i := 6) rfl, (K10.out.belowS HBW.out).cellV (i := 7) rfl, (K10.out.belowS HBW.out).cellV (i := 8) rfl, (K10.out.belowS HBW.out).cellV (i := 9) rfl, (K10.out.belowS HBW.out).cellV (i := 10) rfl⟩
              clear hK K
              refine wpAnyH_ready (rs := [6]) (by kernel_rfl) (by simp) ?_
              refine AllReadyH.cons rfl (fun K hK => ?_) AllReadyH.nil
              go_simp
              refine (box32_any x.b _ HXO.out.2.2).mono ?_
              rintro e wc6 ⟨rfl, hbA⟩
              replace HBW := Lib.hid (bstep HBW.out hbA)
              replace KA11 := Lib.hid (KA11.out.belowS hbA)
              clear hbA
              go_simp
              refine hK.out _ _ ?_ (fun hHeld => ?_)
              · (try dsimp only)
                exact ⟨(HMX.out.k8.belowS HBW.out).cellV (i := 0) rfl, (K10.out.belowS HBW.out).cellV (i := 6) rfl, (K10.out.belowS HBW.out).cellV (i := 7) rfl, (K10.out.belowS HBW.out).cellV (i := 8) rfl, (K10.out.belowS HBW.out).cellV (i := 9) rfl, (K10.out.belowS HBW.out).cellV (i := 10) rfl⟩
              clear hK K
              refine wpAnyH_ready (rs := [7]) (by kernel_rfl) (by simp) ?_
              refine AllReadyH.cons rfl (fun K hK => ?_) AllReadyH.nil
              go_simp
              have hsc := HMX.out.sb.below HBW.out
              have hD := HDB.out _ (List.mem_of_getElem? HE.out)
              have hbo := fun (W : World) => (show BoxOf W (x.b.dw (x.up k)) x.b.bx from box_of (co := 0) (out := []) (Ao := none) hD ⟨rfl, fun h => absurd h (by decide)⟩ canon_nilV (fun x y => ⟨fun ⟨r, h, _⟩ => (by cases h), fun ⟨r, h, _⟩ => (by cases h)⟩) (by simp))
              have hset := setC_W hsc (by rw [HKM.out]; omega) hD (hbo _) ⟨rfl, rfl⟩ (fun _ => rfl)
              have hfr := hsc.fresh
              rw [HKM.out] at hset hfr
              refine (pset_any (.agg #[.map mq]) (k + 1) bt (idW k) x.b.bx _ (idW_bd (by omega)) (by omega) (HMX.out.pb.below HBW.out) (fun h => by omega)).mono ?_
              rintro e wc7 ⟨pv', rfl, hp', hbA⟩
              have e1 : setN bt (k + 1) (idW k) x.b.bx = k + 1 + 1 := by unfold setN; rw [hset, if_pos rfl, hfr]; rfl
              have e2 : setB bt (k + 1) (idW k) x.b.bx = fun j => if j = idW k then some x.b.bx else bt j := by unfold setB; rw [hset, if_pos rfl]
              rw [hset]
              rw [e1, e2] at hp'
              have hsn := (hsc.below hbA).snoc (hbo _)
              rw [HKM.out, ← HTE.out] at hsn
              have HSN := Lib.hid hsn
              have HPN := Lib.hid hp'
              obtain ⟨mp', rfl, _⟩ := hp'
              clear hsc hset hfr e1 e2 hsn hbo
              replace HBW := Lib.hid (bstep HBW.out hbA)
              replace KA11 := Lib.hid (KA11.out.belowS hbA)
              clear hbA
              go_simp
              refine hK.out _ _ ?_ (fun hHeld => ?_)
              · (try dsimp only)
                exact ⟨(HMX.out.k8.belowS HBW.out).cellV (i := 0) rfl, (K10.out.belowS HBW.out).cellV (i := 6) rfl, (K10.out.belowS HBW.out).cellV (i := 7) rfl, (K10.out.belowS HBW.out).cellV (i := 8) rfl, (K10.out.belowS HBW.out).cellV (i := 9) rfl, (K10.out.belowS HBW.out).cellV (i := 10) rfl⟩
              clear hK K
              refine Tr.take_at 8 60 (.tuple #[.agg #[.map mp'], .int .i64 0]) rfl rfl (by kernel_rfl) (by kernel_rfl) (by kernel_rfl) (fun _ _ _ h => h) (Or.inl ⟨by rfl, ?_⟩) (by assumption) ?_
              · intro W0 hSw
                (try dsimp only at hSw)
                go_simp
              simp only [List.set_cons_zero, List.set_cons_succ]
              refine Tr.take_at 9 69 (.agg #[.map mp']) rfl rfl (by kernel_rfl) (by kernel_rfl) (by kernel_rfl) (fun _ _ _ h => h) (Or.inl ⟨by rfl, ?_⟩) (by assumption) ?_
              · intro W0 hSw
                (try dsimp only at hSw)
                go_simp
              simp only [List.set_cons_zero, List.set_cons_succ]
              refine Tr.take_at 10 70 (.int .i64 0) rfl rfl (by kernel_rfl) (by kernel_rfl) (by kernel_rfl) (fun _ _ _ h => h) (Or.inl ⟨by rfl, ?_⟩) (by assumption) ?_
              · intro W0 hSw
                (try dsimp only at hSw)
                go_simp
              simp only [List.set_cons_zero, List.set_cons_succ]
              refine wpAnyH_ready (rs := [12]) (by kernel_rfl) (by simp) ?_
              refine AllReadyH.cons rfl (fun K hK => ?_) AllReadyH.nil
              refine Tr.wanted_plain rfl ?_
              refine store_mid0 rfl 37 _ _ rfl (wc3.heap.size) 0 #[.map mp'] (by rfl) (by rfl) (by have h := there_blk KA11.out; exact h) Tryz.sizePl (by simp [Value.oneCell']) ?_
              have xK := blk_puts1 (.map mp') KA11.out
              have xB := bsets HBW.out HL11.out (#[.map mp'] : Array Value).toList 0
              have xHPN := (show PlaceIs (World.setCells (wc7) (wc3.heap.size) 0 (#[.map mp'] : Array Value).toList) (.agg #[.map mp']) (k + 1 + 1) _ from HPN.out.setBlk KA11.out 0 (.map mp'))
              have xHSN := (show SceneIs (World.setCells (wc7) (wc3.heap.size) 0 (#[.map mp'] : Array Value).toList) _ 12 10 (lb.take (k + 1)) from HSN.out.keepG (grown_setCell _ ⟨wc3.heap.size, 0, none⟩ (.map mp')) KA11.out.noInt1)
              obtain ⟨wS12, hwS⟩ : ∃ wS, World.setCells wc7 (wc3.heap.size) 0 (#[.map mp'] : Array Value).toList = wS := ⟨_, rfl⟩
              rw [hwS] at xK xB xHPN xHSN ⊢
              replace HBW := Lib.hid xB
              replace KA11 := Lib.hid xK
              replace HPN := Lib.hid xHPN
              replace HSN := Lib.hid xHSN
              clear hwS xK xB xHPN xHSN
              refine hK.out _ _ ?_ (fun hHeld => ?_)
              · (try dsimp only)
                exact ⟨(HMX.out.k8.belowS HBW.out).cellV (i := 0) rfl, (K10.out.belowS HBW.out).cellV (i := 6) rfl, (K10.out.belowS HBW.out).cellV (i := 7) rfl, (K10.out.belowS HBW.out).cellV (i := 8) rfl, (K10.out.belowS HBW.out).cellV (i := 9) rfl, (K10.out.belowS HBW.out).cellV (i := 10) rfl⟩
              clear hK K
              refine Tr.take_at 13 16 (.int .i64 0) rfl rfl (by kernel_rfl) (by kernel_rfl) (by kernel_rfl) (fun _ _ _ h => h) (Or.inl ⟨by rfl, ?_⟩) (by assumption) ?_
              · intro W0 hSw
                (try dsimp only at hSw)
                go_simp
              simp only [List.set_cons_zero, List.set_cons_succ]
              refine wpAnyH_done (by kernel_rfl) ?_ _
              refine NoPanic.normal ?_
              go_wp2_with fail
              go_meet
              exact ⟨_, mp', _, rfl, rfl, HL11.out, KA11.out, HPN.out, HSN.out, HBW.out⟩
          ·
            go_simp
            have KA11 := Lib.hid (show Blk (X7.alloc (.cells #[.map none] 37)).drew (X7.heap.size) 37 #[.map none] from Blk.new X7.drew 37 #[.map none])
            have HL11 := Lib.hid (show X7.heap.size ≤ X7.heap.size from HBW.out.size)
            have hbA : Below X7.drew.heap.size X7.drew ((X7.alloc (.cells #[.map none] 37)).drew) := bal (bre X7.drew) (.cells #[.map none] 37)
            replace HBW := Lib.hid (bstep HBW.out hbA)
            clear hbA
            refine hK.out _ _ ?_ (fun hHeld => ?_)
            · (try dsimp only)
              exact ⟨(HMX.out.k8.belowS HBW.out).cellV (i := 0) rfl, (K10.out.belowS HBW.out).cellV (i := 6) rfl, (K10.out.belowS HBW.out).cellV (i := 7) rfl, (K10.out.belowS HBW.out).cellV (i := 8) rfl, (K10.out.belowS HBW.out).cellV (i := 9) rfl, (K10.out.belowS HBW.out).cellV (i := 10) rfl⟩
            clear hK K
            refine wpAnyH_ready (rs := [3]) (by kernel_rfl) (by simp) ?_
            refine AllReadyH.cons rfl (fun K hK => ?_) AllReadyH.nil
            go_simp
            refine (id32_s (k + 1) (k : Int) (by omega) _ (by omega)).mono ?_
            rintro e wc3 ⟨rfl, hbA⟩
            replace HBW := Lib.hid (bstep HBW.out hbA)
            replace KA11 := Lib.hid (KA11.out.belowS hbA)
            clear hbA
            go_simp
            refine hK.out _ _ ?_ (fun hHeld => ?_)
            · (try dsimp only)
              exact ⟨(HMX.out.k8.belowS HBW.out).cellV (i := 0) rfl, (K10.out.belowS HBW.out).cellV (i := 6) rfl, (K10.out.belowS HBW.out).cellV (i := 7) rfl, (K10.out.belowS HBW.out).cellV (i := 8) rfl, (K10.out.belowS HBW.out).cellV (i := 9) rfl, (K10.out.belowS HBW.out).cellV (i := 10) rfl⟩
            clear hK K
            refine wpAnyH_ready (rs := [6]) (by kernel_rfl) (by simp) ?_
            refine AllReadyH.cons rfl (fun K hK => ?_) AllReadyH.nil
            go_simp
            refine (box32_any x.b _ HXO.out.2.2).mono ?_
            rintro e wc6 ⟨rfl, hbA⟩
            replace HBW := Lib.hid (bstep HBW.out hbA)
            replace KA11 := Lib.hid (KA11.out.belowS hbA)
            clear hbA
            go_simp
            refine hK.out _ _ ?_ (fun hHeld => ?_)
            · (try dsimp only)
              exact ⟨(HMX.out.k8.belowS HBW.out).cellV (i := 0) rfl, (K10.out.belowS HBW.out).cellV (i := 6) rfl, (K10.out.belowS HBW.out).cellV (i := 7) rfl, (K10.out.belowS HBW.out).cellV (i := 8) rfl, (K10.out.belowS HBW.out).cellV (i := 9) rfl, (K10.out.belowS HBW.out).cellV (i := 10) rfl⟩
            clear hK K
            refine wpAnyH_ready (rs := [7]) (by kernel_rfl) (by simp) ?_
            refine AllReadyH.cons rfl (fun K hK => ?_) AllReadyH.nil
            go_simp
            have hsc := HMX.out.sb.below HBW.out
            have hD := HDB.out _ (List.mem_of_getElem? HE.out)
            have hbo := fun (W : World) => (show BoxOf W (x.b.dw (x.up k)) x.b.bx from box_of (co := 0) (out := []) (Ao := none) hD ⟨rfl, fun h => absurd h (by decide)⟩ canon_nilV (fun x y => ⟨fun ⟨r, h, _⟩ => (by cases h), fun ⟨r, h, _⟩ => (by cases h)⟩) (by simp))
            have hset := setC_W hsc (by rw [HKM.out]; omega) hD (hbo _) ⟨rfl, rfl⟩ (fun _ => rfl)
            have hfr := hsc.fresh
            rw [HKM.out] at hset hfr
            refine (pset_any (.agg #[.map mq]) (k + 1) bt (idW k) x.b.bx _ (idW_bd (by omega)) (by omega) (HMX.out.pb.below HBW.out) (fun h => by omega)).mono ?_
            rintro e wc7 ⟨pv', rfl, hp', hbA⟩
            have e1 : setN bt (k + 1) (idW k) x.b.bx = k + 1 + 1 := by unfold setN; rw [hset, if_pos rfl, hfr]; rfl
            have e2 : setB bt (k + 1) (idW k) x.b.bx = fun j => if j = idW k then some x.b.bx else bt j := by unfold setB; rw [hset, if_pos rfl]
            rw [hset]
            rw [e1, e2] at hp'
            have hsn := (hsc.below hbA).snoc (hbo _)
            rw [HKM.out, ← HTE.out] at hsn
            have HSN := Lib.hid hsn
            have HPN := Lib.hid hp'
            obtain ⟨mp', rfl, _⟩ := hp'
            clear hsc hset hfr e1 e2 hsn hbo
            replace HBW := Lib.hid (bstep HBW.out hbA)
            replace KA11 := Lib.hid (KA11.out.belowS hbA)
            clear hbA
            go_simp
            refine hK.out _ _ ?_ (fun hHeld => ?_)
            · (try dsimp only)
              exact ⟨(HMX.out.k8.belowS HBW.out).cellV (i := 0) rfl, (K10.out.belowS HBW.out).cellV (i := 6) rfl, (K10.out.belowS HBW.out).cellV (i := 7) rfl, (K10.out.belowS HBW.out).cellV (i := 8) rfl, (K10.out.belowS HBW.out).cellV (i := 9) rfl, (K10.out.belowS HBW.out).cellV (i := 10) rfl⟩
            clear hK K
            refine Tr.take_at 8 60 (.tuple #[.agg #[.map mp'], .int .i64 0]) rfl rfl (by kernel_rfl) (by kernel_rfl) (by kernel_rfl) (fun _ _ _ h => h) (Or.inl ⟨by rfl, ?_⟩) (by assumption) ?_
            · intro W0 hSw
              (try dsimp only at hSw)
              go_simp
            simp only [List.set_cons_zero, List.set_cons_succ]
            refine Tr.take_at 9 69 (.agg #[.map mp']) rfl rfl (by kernel_rfl) (by kernel_rfl) (by kernel_rfl) (fun _ _ _ h => h) (Or.inl ⟨by rfl, ?_⟩) (by assumption) ?_
            · intro W0 hSw
              (try dsimp only at hSw)
              go_simp
            simp only [List.set_cons_zero, List.set_cons_succ]
            refine Tr.take_at 10 70 (.int .i64 0) rfl rfl (by kernel_rfl) (by kernel_rfl) (by kernel_rfl) (fun _ _ _ h => h) (Or.inl ⟨by rfl, ?_⟩) (by assumption) ?_
            · intro W0 hSw
              (try dsimp only at hSw)
              go_simp
            simp only [List.set_cons_zero, List.set_cons_succ]
            refine wpAnyH_ready (rs := [12]) (by kernel_rfl) (by simp) ?_
            refine AllReadyH.cons rfl (fun K hK => ?_) AllReadyH.nil
            refine Tr.wanted_plain rfl ?_
            refine store_mid0 rfl 37 _ _ rfl (X7.heap.size) 0 #[.map mp'] (by rfl) (by rfl) (by have h := there_blk KA11.out; exact h) Tryz.sizePl (by simp [Value.oneCell']) ?_
            have xK := blk_puts1 (.map mp') KA11.out
            have xB := bsets HBW.out HL11.out (#[.map mp'] : Array Value).toList 0
            have xHPN := (show PlaceIs (World.setCells (wc7) (X7.heap.size) 0 (#[.map mp'] : Array Value).toList) (.agg #[.map mp']) (k + 1 + 1) _ from HPN.out.setBlk KA11.out 0 (.map mp'))
            have xHSN := (show SceneIs (World.setCells (wc7) (X7.heap.size) 0 (#[.map mp'] : Array Value).toList) _ 12 10 (lb.take (k + 1)) from HSN.out.keepG (grown_setCell _ ⟨X7.heap.size, 0, none⟩ (.map mp')) KA11.out.noInt1)
            obtain ⟨wS12, hwS⟩ : ∃ wS, World.setCells wc7 (X7.heap.size) 0 (#[.map mp'] : Array Value).toList = wS := ⟨_, rfl⟩
            rw [hwS] at xK xB xHPN xHSN ⊢
            replace HBW := Lib.hid xB
            replace KA11 := Lib.hid xK
            replace HPN := Lib.hid xHPN
            replace HSN := Lib.hid xHSN
            clear hwS xK xB xHPN xHSN
            refine hK.out _ _ ?_ (fun hHeld => ?_)
            · (try dsimp only)
              exact ⟨(HMX.out.k8.belowS HBW.out).cellV (i := 0) rfl, (K10.out.belowS HBW.out).cellV (i := 6) rfl, (K10.out.belowS HBW.out).cellV (i := 7) rfl, (K10.out.belowS HBW.out).cellV (i := 8) rfl, (K10.out.belowS HBW.out).cellV (i := 9) rfl, (K10.out.belowS HBW.out).cellV (i := 10) rfl⟩
            clear hK K
            refine Tr.take_at 13 16 (.int .i64 0) rfl rfl (by kernel_rfl) (by kernel_rfl) (by kernel_rfl) (fun _ _ _ h => h) (Or.inl ⟨by rfl, ?_⟩) (by assumption) ?_
            · intro W0 hSw
              (try dsimp only at hSw)
              go_simp
            simp only [List.set_cons_zero, List.set_cons_succ]
            refine wpAnyH_done (by kernel_rfl) ?_ _
            refine NoPanic.normal ?_
            go_wp2_with fail
            go_meet
            exact ⟨_, mp', _, rfl, rfl, HL11.out, KA11.out, HPN.out, HSN.out, HBW.out⟩
      obtain ⟨g15, mq', bt', rfl, rfl, hg15, hk15, hp15, hs15, hbe⟩ := hcut
      have K15 := Lib.hid hk15
      have HPB := Lib.hid hp15
      have HSCB := Lib.hid hs15
      have HG15 := Lib.hid hg15
      have K5 := Lib.hid HMX.out.k5
      have K6 := Lib.hid HMX.out.k6
      have K8 := Lib.hid HMX.out.k8
      replace HB := Lib.hid (bstep HB.out hbe)
      replace K2 := Lib.hid (K2.out.belowS hbe)
      replace K3 := Lib.hid (K3.out.belowS hbe)
      replace K5 := Lib.hid (K5.out.belowS hbe)
      replace K6 := Lib.hid (K6.out.belowS hbe)
      replace K8 := Lib.hid (K8.out.belowS hbe)
      replace K11 := Lib.hid (K11.out.belowS hbe)
      replace K13 := Lib.hid (K13.out.belowS hbe)
      replace HTN := Lib.hid (HTN.out.below hbe)
      replace HPA := Lib.hid (HPA.out.below hbe)
      replace HSCA := Lib.hid (HSCA.out.below hbe)
      have HXE := Lib.hid hbe.size
      clear hbe hg15 hk15 hp15 hs15 HMX K10
      obtain ⟨X8, hX8⟩ : ∃ X8, X8 = wc := ⟨_, rfl⟩
      subst hX8
      obtain ⟨⟨t1, t2⟩, t3, t4⟩ := HLT.out
      have q11a := K11.out.cellV (i := 0) (v := .map (some kb)) rfl
      have q11b := K11.out.cellV (i := 1) (v := .map (some ub)) rfl
      have q13 := K13.out.cellV (i := 0) (v := .map mp') rfl
      have q15 := K15.out.cellV (i := 0) (v := .map mq') rfl
      have q5a := K5.out.cellV (i := 0) (v := .map mk) rfl
      have q5b := K5.out.cellV (i := 1) (v := .map mu) rfl
      have q6 := K6.out.cellV (i := 0) (v := .map mp) rfl
      have q8 := K8.out.cellV (i := 0) (v := .map mq) rfl
      have f5a := K5.out.frozen 0
      have f5b := K5.out.frozen 1
      have f6 := K6.out.frozen 0
      have f8 := K8.out.frozen 0
      have l5 := K5.out.lt
      have l6 := K6.out.lt
      have l8 := K8.out.lt
      have hsr := HSR.out
      have hx5 := HX5.out
      have hg11 := HG11.out
      have hg13 := HG13.out
      have hg15 := HG15.out
      have hxc := HXC.out
      have hxd := HXD.out
      have n1 : w1.heap.size ≠ w2.heap.size := by omega
      have n2 : w1.heap.size ≠ X2.heap.size := by omega
      have n3 : w2.heap.size ≠ X2.heap.size := by omega
      have m1 : g11 ≠ w1.heap.size := by omega
      have m2 : g11 ≠ w2.heap.size := by omega
      have m3 : g11 ≠ X2.heap.size := by omega
      have m4 : g13 ≠ w1.heap.size := by omega
      have m5 : g13 ≠ w2.heap.size := by omega
      have m6 : g13 ≠ X2.heap.size := by omega
      have m7 : g15 ≠ w1.heap.size := by omega
      have m8 : g15 ≠ w2.heap.size := by omega
      have m9 : g15 ≠ X2.heap.size := by omega
      go_upto_region 14 with fail
      go_region
      obtain ⟨W9, hW9⟩ : ∃ W9, ((((X8.setCell ⟨w1.heap.size, 0, none⟩ (.map (some kb))).setCell ⟨w1.heap.size, 1, none⟩ (.map (some ub))).setCell ⟨w2.heap.size, 0, none⟩ (.map mp')).setCell ⟨X2.heap.size, 0, none⟩ (.map mq')).drew = W9 := ⟨_, rfl⟩
      have xMX := mx_next K5.out K6.out K8.out n1 n2 n3 HTN.out HPA.out HPB.out HSCA.out HSCB.out (fun d hd => HSA.out d (List.mem_of_mem_take hd)) (fun d hd => HSB.out d (List.mem_of_mem_take hd)) hW9
      have x2 := ((((K2.out.far (p := ⟨w1.heap.size, 0, none⟩) (by show _ ≠ _; simp only; omega) (.map (some kb))).far (p := ⟨w1.heap.size, 1, none⟩) (by show _ ≠ _; simp only; omega) (.map (some ub))).far (p := ⟨w2.heap.size, 0, none⟩) (by show _ ≠ _; simp only; omega) (.map (mp'))).far (p := ⟨X2.heap.size, 0, none⟩) (by show _ ≠ _; simp only; omega) (.map (mq'))).drewT
      have x3 := ((((K3.out.far (p := ⟨w1.heap.size, 0, none⟩) (by show _ ≠ _; simp only; omega) (.map (some kb))).far (p := ⟨w1.heap.size, 1, none⟩) (by show _ ≠ _; simp only; omega) (.map (some ub))).far (p := ⟨w2.heap.size, 0, none⟩) (by show _ ≠ _; simp only; omega) (.map (mp'))).far (p := ⟨X2.heap.size, 0, none⟩) (by show _ ≠ _; simp only; omega) (.map (mq'))).drewT
      have xB := (bset (p := ⟨X2.heap.size, 0, none⟩) (bset (p := ⟨w2.heap.size, 0, none⟩) (bset (p := ⟨w1.heap.size, 1, none⟩) (bset (p := ⟨w1.heap.size, 0, none⟩) HB.out (by show w.heap.size ≤ w1.heap.size; omega) (.map (some kb))) (by show w.heap.size ≤ w1.heap.size; omega) (.map (some ub))) (by show w.heap.size ≤ w2.heap.size; omega) (.map (mp'))) (by show w.heap.size ≤ X2.heap.size; omega) (.map (mq'))).drew
      have xsz : X8.heap.size ≤ W9.heap.size := by rw [← hW9]; simp
      have hxe := HXE.out
      rw [hW9] at x2 x3 xB ⊢
      have HMX := Lib.hid xMX
      replace K2 := Lib.hid x2
      replace K3 := Lib.hid x3
      replace HB := Lib.hid xB
      have HSZ := Lib.hid (show X3.heap.size ≤ W9.heap.size by omega)
      clear hW9 xMX x2 x3 xB xsz hxe q11a q11b q13 q15 q5a q5b q6 q8 f5a f5b f6 f8 l5 l6 l8 hsr hx5 hg11 hg13 hg15 hxc hxd n1 n2 n3 m1 m2 m3 m4 m5 m6 m7 m8 m9
      go_wp2_with fail
      go_roundw
      case rel => exact ⟨k + 1, some kb, some ub, mp', mq', nk', fk', bs', bt', by go_num, by omega, HMX.out, ⟨K2.out, K3.out⟩, HSZ.out, HB.out⟩
      case measure => simp [intOf]; omega
    · obtain rfl : k = n := by omega
      have k1 : ¬ (k : Int) < (k : Int) := by omega
      go_upto_region 16 with fail
      have hm := HMX.out
      have K5 := Lib.hid hm.k5
      have K6 := Lib.hid hm.k6
      have K8 := Lib.hid hm.k8
      have ht := hm.tree
      have sa := hm.sa
      have sb := hm.sb
      rw [show la.take k = la from List.take_of_length_le (by rw [HLA.out]; exact Nat.le_refl _)] at ht sa
      rw [show lb.take k = lb from List.take_of_length_le (by rw [HLB.out]; exact Nat.le_refl _)] at sb
      have HTF := Lib.hid ht
      have HTR := Lib.hid ht
      have HSCA := Lib.hid sa
      have HSCB := Lib.hid sb
      have HPA := Lib.hid hm.pa
      have HPB := Lib.hid hm.pb
      have HRW := Lib.hid (show wr = wr from rfl)
      clear hm ht sa sb HMX
      obtain ⟨⟨t1, t2⟩, t3, t4⟩ := HLT.out
      have HBW := Lib.hid (show Below w.heap.size w wr.drew from (HB.out).drew)
      have KA902 := Lib.hid ((K2.out).belowS (bre wr).drew)
      have HL902 := Lib.hid (show w.heap.size ≤ w.heap.size from Nat.le_refl _)
      have KA903 := Lib.hid ((K3.out).belowS (bre wr).drew)
      have HL903 := Lib.hid (show w.heap.size ≤ (w.heap.size + 1) from Nat.le_succ _)
      have HN902_903 := Lib.hid (show w.heap.size ≠ (w.heap.size + 1) by omega)
      replace K5 := Lib.hid (K5.out.belowS (bre wr).drew)
      replace K6 := Lib.hid (K6.out.belowS (bre wr).drew)
      replace K8 := Lib.hid (K8.out.belowS (bre wr).drew)
      replace HTF := Lib.hid (HTF.out.below (bre wr).drew)
      replace HPA := Lib.hid (HPA.out.below (bre wr).drew)
      replace HPB := Lib.hid (HPB.out.below (bre wr).drew)
      replace HSCA := Lib.hid (HSCA.out.below (bre wr).drew)
      replace HSCB := Lib.hid (HSCB.out.below (bre wr).drew)
      refine wp_region_noPanic ?_
      refine wp_region_held_drew (S := (fun w' => w'.cell? ⟨w1.heap.size, 0, none⟩ = some (.map mk) ∧ w'.cell? ⟨w1.heap.size, 1, none⟩ = some (.map mu) ∧ w'.cell? ⟨w2.heap.size, 0, none⟩ = some (.map mp) ∧ w'.cell? ⟨X2.heap.size, 0, none⟩ = some (.map mq))) (by kernel_rfl) ?_ (fun hHeld => ?_)
      · (try dsimp only)
        exact ⟨K5.out.cellV (i := 0) rfl, K5.out.cellV (i := 1) rfl, K6.out.cellV (i := 0) rfl, K8.out.cellV (i := 0) rfl⟩
      refine Tr.take_at 0 87 (.agg #[.map mk, .map mu]) rfl rfl (by kernel_rfl) (by kernel_rfl) (by kernel_rfl) (fun _ _ _ h => h) (Or.inl ⟨by rfl, ?_⟩) (by assumption) ?_
      · intro W0 hSw
        (try dsimp only at hSw)
        go_simp
      simp only [List.set_cons_zero, List.set_cons_succ]
      refine Tr.take_at 1 88 (.agg #[.map mp]) rfl rfl (by kernel_rfl) (by kernel_rfl) (by kernel_rfl) (fun _ _ _ h => h) (Or.inl ⟨by rfl, ?_⟩) (by assumption) ?_
      · intro W0 hSw
        (try dsimp only at hSw)
        go_simp
      simp only [List.set_cons_zero, List.set_cons_succ]
      refine Tr.take_at 3 90 (.agg #[.map mk, .map mu]) rfl rfl (by kernel_rfl) (by kernel_rfl) (by kernel_rfl) (fun _ _ _ h => h) (Or.inl ⟨by rfl, ?_⟩) (by assumption) ?_
      · intro W0 hSw
        (try dsimp only at hSw)
        go_simp
      simp only [List.set_cons_zero, List.set_cons_succ]
      refine Tr.take_at 4 91 (.agg #[.map mq]) rfl rfl (by kernel_rfl) (by kernel_rfl) (by kernel_rfl) (fun _ _ _ h => h) (Or.inl ⟨by rfl, ?_⟩) (by assumption) ?_
      · intro W0 hSw
        (try dsimp only at hSw)
        go_simp
      simp only [List.set_cons_zero, List.set_cons_succ]
      refine wpAnyH_ready (rs := [2]) (by kernel_rfl) (by simp) ?_
      refine AllReadyH.cons rfl (fun K hK => ?_) AllReadyH.nil
      go_simp
      refine (seenG_of (RW := 12) (RH := 10) (l := la) (ns := nodesW la) (bs := bs) (fk := fk) (nk := nk) (n := k + 1) _ HTF.out HPA.out HSCA.out (nodesW_ok HUP.out) (fun i h => by exact h) HDA.out (by rw [nodesW_len, HLA.out]; omega) (by decide)).mono ?_
      rintro e wc2 ⟨v, og2, rfl, hse, hbA⟩
      obtain ⟨A2, n2, c2, m2, rfl⟩ := hse.form
      have HSE := Lib.hid hse
      clear hse
      replace HBW := Lib.hid (bstep HBW.out hbA)
      replace KA902 := Lib.hid (KA902.out.belowS hbA)
      replace KA903 := Lib.hid (KA903.out.belowS hbA)
      replace K5 := Lib.hid (K5.out.belowS hbA)
      replace K6 := Lib.hid (K6.out.belowS hbA)
      replace K8 := Lib.hid (K8.out.belowS hbA)
      replace HTF := Lib.hid (HTF.out.below hbA)
      replace HPA := Lib.hid (HPA.out.below hbA)
      replace HPB := Lib.hid (HPB.out.below hbA)
      replace HSCA := Lib.hid (HSCA.out.below hbA)
      replace HSCB := Lib.hid (HSCB.out.below hbA)
      clear hbA
      go_simp
      refine hK.out _ _ ?_ (fun hHeld => ?_)
      · (try dsimp only)
        exact ⟨K5.out.cellV (i := 0) rfl, K5.out.cellV (i := 1) rfl, K6.out.cellV (i := 0) rfl, K8.out.cellV (i := 0) rfl⟩
      clear hK K
      refine wpAnyH_ready (rs := [5]) (by kernel_rfl) (by simp) ?_
      refine AllReadyH.cons rfl (fun K hK => ?_) AllReadyH.nil
      go_simp
      refine (seenG_of (RW := 12) (RH := 10) (l := lb) (ns := nodesW la) (bs := bt) (fk := fk) (nk := nk) (n := k + 1) _ HTF.out HPB.out HSCB.out (nodesW_ok HUP.out) (fun i h => by rw [HND.out]; exact h) HDB.out (by rw [nodesW_len, HLA.out]; omega) (by decide)).mono ?_
      rintro e wc5 ⟨v, og5, rfl, hse, hbA⟩
      obtain ⟨A5, n5, c5, m5, rfl⟩ := hse.form
      have HSF := Lib.hid hse
      clear hse
      replace HBW := Lib.hid (bstep HBW.out hbA)
      replace KA902 := Lib.hid (KA902.out.belowS hbA)
      replace KA903 := Lib.hid (KA903.out.belowS hbA)
      replace K5 := Lib.hid (K5.out.belowS hbA)
      replace K6 := Lib.hid (K6.out.belowS hbA)
      replace K8 := Lib.hid (K8.out.belowS hbA)
      replace HTF := Lib.hid (HTF.out.below hbA)
      replace HPA := Lib.hid (HPA.out.below hbA)
      replace HPB := Lib.hid (HPB.out.below hbA)
      replace HSCA := Lib.hid (HSCA.out.below hbA)
      replace HSCB := Lib.hid (HSCB.out.below hbA)
      replace HSE := Lib.hid (HSE.out.below hbA)
      clear hbA
      go_simp
      refine hK.out _ _ ?_ (fun hHeld => ?_)
      · (try dsimp only)
        exact ⟨K5.out.cellV (i := 0) rfl, K5.out.cellV (i := 1) rfl, K6.out.cellV (i := 0) rfl, K8.out.cellV (i := 0) rfl⟩
      clear hK K
      refine wpAnyH_ready (rs := [6]) (by kernel_rfl) (by simp) ?_
      refine AllReadyH.cons rfl (fun K hK => ?_) AllReadyH.nil
      refine Tr.wanted_plain rfl ?_
      refine store_mid0 rfl 43 _ _ rfl (w.heap.size) 0 #[.slice A2 n2 c2, .map m2] (by rfl) (by rfl) (by have h := there_blk KA902.out; exact h) Tryz.sizeVwX (by simp [Value.oneCell']) ?_
      have xK := blk_puts2 (.slice A2 n2 c2) (.map m2) KA902.out
      have xB := bsets HBW.out HL902.out (#[.slice A2 n2 c2, .map m2] : Array Value).toList 0
      have xA903 := KA903.out.farCells (HN902_903.out.symm) (#[.slice A2 n2 c2, .map m2] : Array Value).toList 0
      have xK5 := (show Blk (World.setCells (wc5) (w.heap.size) 0 (#[.slice A2 n2 c2, .map m2] : Array Value).toList) (w1.heap.size) 34 _ from K5.out.farCells (by show _ ≠ _; omega) _ _)
      have xK6 := (show Blk (World.setCells (wc5) (w.heap.size) 0 (#[.slice A2 n2 c2, .map m2] : Array Value).toList) (w2.heap.size) 37 _ from K6.out.farCells (by show _ ≠ _; omega) _ _)
      have xK8 := (show Blk (World.setCells (wc5) (w.heap.size) 0 (#[.slice A2 n2 c2, .map m2] : Array Value).toList) (X2.heap.size) 37 _ from K8.out.farCells (by show _ ≠ _; omega) _ _)
      have xHTF := (show TreeIs (World.setCells (wc5) (w.heap.size) 0 (#[.slice A2 n2 c2, .map m2] : Array Value).toList) (.agg #[.map mk, .map mu]) (nodesW la) mk mu nk fk from (HTF.out.setBlk KA902.out (view_noY _ _ _ _) 0 (.slice A2 n2 c2)).setBlk (KA902.out.set_ 0 (.slice A2 n2 c2)) (view_noY _ _ _ _) 1 (.map m2))
      have xHPA := (show PlaceIs (World.setCells (wc5) (w.heap.size) 0 (#[.slice A2 n2 c2, .map m2] : Array Value).toList) (.agg #[.map mp]) (k + 1) bs from (HPA.out.setBlk KA902.out 0 (.slice A2 n2 c2)).setBlk (KA902.out.set_ 0 (.slice A2 n2 c2)) 1 (.map m2))
      have xHPB := (show PlaceIs (World.setCells (wc5) (w.heap.size) 0 (#[.slice A2 n2 c2, .map m2] : Array Value).toList) (.agg #[.map mq]) (k + 1) bt from (HPB.out.setBlk KA902.out 0 (.slice A2 n2 c2)).setBlk (KA902.out.set_ 0 (.slice A2 n2 c2)) 1 (.map m2))
      have xHSCA := (show SceneIs (World.setCells (wc5) (w.heap.size) 0 (#[.slice A2 n2 c2, .map m2] : Array Value).toList) bs 12 10 la from HSCA.out.anyX HSA.out)
      have xHSCB := (show SceneIs (World.setCells (wc5) (w.heap.size) 0 (#[.slice A2 n2 c2, .map m2] : Array Value).toList) bt 12 10 lb from HSCB.out.anyX HSB.out)
      have xHSE := (show SeenG (World.setCells (wc5) (w.heap.size) 0 (#[.slice A2 n2 c2, .map m2] : Array Value).toList) _ 12 10 _ _ _ from (HSE.out.setNo32 KA902.out (view_noX _ _ _ _) 0 (.slice A2 n2 c2)).setNo32 (KA902.out.set_ 0 (.slice A2 n2 c2)) (view_noX _ _ _ _) 1 (.map m2))
      have xHSF := (show SeenG (World.setCells (wc5) (w.heap.size) 0 (#[.slice A2 n2 c2, .map m2] : Array Value).toList) _ 12 10 _ _ _ from (HSF.out.setNo32 KA902.out (view_noX _ _ _ _) 0 (.slice A2 n2 c2)).setNo32 (KA902.out.set_ 0 (.slice A2 n2 c2)) (view_noX _ _ _ _) 1 (.map m2))
      obtain ⟨wS6, hwS⟩ : ∃ wS, World.setCells wc5 (w.heap.size) 0 (#[.slice A2 n2 c2, .map m2] : Array Value).toList = wS := ⟨_, rfl⟩
      rw [hwS] at xK xB xA903 xK5 xK6 xK8 xHTF xHPA xHPB xHSCA xHSCB xHSE xHSF ⊢
      replace HBW := Lib.hid xB
      replace KA902 := Lib.hid xK
      replace KA903 := Lib.hid xA903
      replace K5 := Lib.hid xK5
      replace K6 := Lib.hid xK6
      replace K8 := Lib.hid xK8
      replace HTF := Lib.hid xHTF
      replace HPA := Lib.hid xHPA
      replace HPB := Lib.hid xHPB
      replace HSCA := Lib.hid xHSCA
      replace HSCB := Lib.hid xHSCB
      replace HSE := Lib.hid xHSE
      replace HSF := Lib.hid xHSF
      clear hwS xK xB xA903 xK5 xK6 xK8 xHTF xHPA xHPB xHSCA xHSCB xHSE xHSF
      refine hK.out _ _ ?_ (fun hHeld => ?_)
      · (try dsimp only)
        exact ⟨K5.out.cellV (i := 0) rfl, K5.out.cellV (i := 1) rfl, K6.out.cellV (i := 0) rfl, K8.out.cellV (i := 0) rfl⟩
      clear hK K
      refine wpAnyH_ready (rs := [7]) (by kernel_rfl) (by simp) ?_
      refine AllReadyH.cons rfl (fun K hK => ?_) AllReadyH.nil
      refine Tr.wanted_plain rfl ?_
      refine store_mid0 rfl 43 _ _ rfl ((w.heap.size + 1)) 0 #[.slice A5 n5 c5, .map m5] (by rfl) (by rfl) (by have h := there_blk KA903.out; exact h) Tryz.sizeVwX (by simp [Value.oneCell']) ?_
      have xK := blk_puts2 (.slice A5 n5 c5) (.map m5) KA903.out
      have xB := bsets HBW.out HL903.out (#[.slice A5 n5 c5, .map m5] : Array Value).toList 0
      have xA902 := KA902.out.farCells (HN902_903.out) (#[.slice A5 n5 c5, .map m5] : Array Value).toList 0
      have xK5 := (show Blk (World.setCells (wS6) ((w.heap.size + 1)) 0 (#[.slice A5 n5 c5, .map m5] : Array Value).toList) (w1.heap.size) 34 _ from K5.out.farCells (by show _ ≠ _; omega) _ _)
      have xK6 := (show Blk (World.setCells (wS6) ((w.heap.size + 1)) 0 (#[.slice A5 n5 c5, .map m5] : Array Value).toList) (w2.heap.size) 37 _ from K6.out.farCells (by show _ ≠ _; omega) _ _)
      have xK8 := (show Blk (World.setCells (wS6) ((w.heap.size + 1)) 0 (#[.slice A5 n5 c5, .map m5] : Array Value).toList) (X2.heap.size) 37 _ from K8.out.farCells (by show _ ≠ _; omega) _ _)
      have xHTF := (show TreeIs (World.setCells (wS6) ((w.heap.size + 1)) 0 (#[.slice A5 n5 c5, .map m5] : Array Value).toList) (.agg #[.map mk, .map mu]) (nodesW la) mk mu nk fk from (HTF.out.setBlk KA903.out (view_noY _ _ _ _) 0 (.slice A5 n5 c5)).setBlk (KA903.out.set_ 0 (.slice A5 n5 c5)) (view_noY _ _ _ _) 1 (.map m5))
      have xHPA := (show PlaceIs (World.setCells (wS6) ((w.heap.size + 1)) 0 (#[.slice A5 n5 c5, .map m5] : Array Value).toList) (.agg #[.map mp]) (k + 1) bs from (HPA.out.setBlk KA903.out 0 (.slice A5 n5 c5)).setBlk (KA903.out.set_ 0 (.slice A5 n5 c5)) 1 (.map m5))
      have xHPB := (show PlaceIs (World.setCells (wS6) ((w.heap.size + 1)) 0 (#[.slice A5 n5 c5, .map m5] : Array Value).toList) (.agg #[.map mq]) (k + 1) bt from (HPB.out.setBlk KA903.out 0 (.slice A5 n5 c5)).setBlk (KA903.out.set_ 0 (.slice A5 n5 c5)) 1 (.map m5))
      have xHSCA := (show SceneIs (World.setCells (wS6) ((w.heap.size + 1)) 0 (#[.slice A5 n5 c5, .map m5] : Array Value).toList) bs 12 10 la from HSCA.out.anyX HSA.out)
      have xHSCB := (show SceneIs (World.setCells (wS6) ((w.heap.size + 1)) 0 (#[.slice A5 n5 c5, .map m5] : Array Value).toList) bt 12 10 lb from HSCB.out.anyX HSB.out)
      have xHSE := (show SeenG (World.setCells (wS6) ((w.heap.size + 1)) 0 (#[.slice A5 n5 c5, .map m5] : Array Value).toList) _ 12 10 _ _ _ from (HSE.out.setNo32 KA903.out (view_noX _ _ _ _) 0 (.slice A5 n5 c5)).setNo32 (KA903.out.set_ 0 (.slice A5 n5 c5)) (view_noX _ _ _ _) 1 (.map m5))
      have xHSF := (show SeenG (World.setCells (wS6) ((w.heap.size + 1)) 0 (#[.slice A5 n5 c5, .map m5] : Array Value).toList) _ 12 10 _ _ _ from (HSF.out.setNo32 KA903.out (view_noX _ _ _ _) 0 (.slice A5 n5 c5)).setNo32 (KA903.out.set_ 0 (.slice A5 n5 c5)) (view_noX _ _ _ _) 1 (.map m5))
      obtain ⟨wS7, hwS⟩ : ∃ wS, World.setCells wS6 ((w.heap.size + 1)) 0 (#[.slice A5 n5 c5, .map m5] : Array Value).toList = wS := ⟨_, rfl⟩
      rw [hwS] at xK xB xA902 xK5 xK6 xK8 xHTF xHPA xHPB xHSCA xHSCB xHSE xHSF ⊢
      replace HBW := Lib.hid xB
      replace KA903 := Lib.hid xK
      replace KA902 := Lib.hid xA902
      replace K5 := Lib.hid xK5
      replace K6 := Lib.hid xK6
      replace K8 := Lib.hid xK8
      replace HTF := Lib.hid xHTF
      replace HPA := Lib.hid xHPA
      replace HPB := Lib.hid xHPB
      replace HSCA := Lib.hid xHSCA
      replace HSCB := Lib.hid xHSCB
      replace HSE := Lib.hid xHSE
      replace HSF := Lib.hid xHSF
      clear hwS xK xB xA902 xK5 xK6 xK8 xHTF xHPA xHPB xHSCA xHSCB xHSE xHSF
      refine hK.out _ _ ?_ (fun hHeld => ?_)
      · (try dsimp only)
        exact ⟨K5.out.cellV (i := 0) rfl, K5.out.cellV (i := 1) rfl, K6.out.cellV (i := 0) rfl, K8.out.cellV (i := 0) rfl⟩
      clear hK K
      refine Tr.take_at 8 4 (.bool true) rfl rfl (by kernel_rfl) (by kernel_rfl) (by kernel_rfl) (fun _ _ _ h => h) (Or.inl ⟨by rfl, ?_⟩) (by assumption) ?_
      · intro W0 hSw
        (try dsimp only at hSw)
        go_simp
      simp only [List.set_cons_zero, List.set_cons_succ]
      refine wpAnyH_done (by kernel_rfl) ?_ _
      refine NoPanic.normal ?_
      have r0 := KA902.out.cellV (i := 0) (v := .slice A2 n2 c2) rfl
      have r1 := KA902.out.cellV (i := 1) (v := .map m2) rfl
      have r2 := KA903.out.cellV (i := 0) (v := .slice A5 n5 c5) rfl
      have r3 := KA903.out.cellV (i := 1) (v := .map m5) rfl
      repeat (first | go_values | go_skip | go_guarded | go_step | go_upon)
      refine bodyPost_ret (v := .tuple #[.agg #[.slice A2 n2 c2, .map m2], .agg #[.slice A5 n5 c5, .map m5], .bool true]) (by simp [results, Tryz.results48, go_sem, r0, r1, r2, r3]) rfl ⟨_, _, og2, og5, rfl, HSE.out, HSF.out, HBW.out⟩
end Go.Proofs.YtbkkecijcijhdaaGreat
end
