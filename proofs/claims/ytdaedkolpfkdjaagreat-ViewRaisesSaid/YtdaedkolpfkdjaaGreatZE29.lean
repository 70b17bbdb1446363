/-
  The walk of glazierlaw31.windows: the document's windows of a scene.
-/
import Derived.Test.YtdaedkolpfkdjaaGreatZE28
import Derived.Laws.Closers25b
import Derived.Maps.AppendAt
section
namespace Go.Proofs.YtdaedkolpfkdjaaGreat
open Go.RowKit Go.Maps Go.Shelf

/-- a window of a small scene. -/
structure PN where
  U : Int
  X : Int
  Y : Int
  W : Int
  H : Int
  F : Int
  s0 : Int
  s1 : Int
  s2 : Int
  s3 : Int
  s4 : Int
  s5 : Int
  s6 : Int
  s7 : Int
def PN.cells (p : PN) : List Value := [.int .u8 p.U, .int .i8 p.X, .int .i8 p.Y, .int .i8 p.W, .int .i8 p.H, .int .u8 p.F, .int .u8 p.s0, .int .u8 p.s1, .int .u8 p.s2, .int .u8 p.s3, .int .u8 p.s4, .int .u8 p.s5, .int .u8 p.s6, .int .u8 p.s7]
structure PN.ok (p : PN) : Prop where
  u : 0 ≤ p.U ∧ p.U ≤ 255
  x : -128 ≤ p.X ∧ p.X ≤ 127
  y : -128 ≤ p.Y ∧ p.Y ≤ 127
  w : -128 ≤ p.W ∧ p.W ≤ 127
  h : -128 ≤ p.H ∧ p.H ≤ 127
  f : 0 ≤ p.F ∧ p.F ≤ 255
  s : ((0 ≤ p.s0 ∧ p.s0 ≤ 255) ∧ (0 ≤ p.s1 ∧ p.s1 ≤ 255) ∧ (0 ≤ p.s2 ∧ p.s2 ≤ 255) ∧ 0 ≤ p.s3 ∧ p.s3 ≤ 255) ∧ (0 ≤ p.s4 ∧ p.s4 ≤ 255) ∧ (0 ≤ p.s5 ∧ p.s5 ≤ 255) ∧ (0 ≤ p.s6 ∧ p.s6 ≤ 255) ∧ 0 ≤ p.s7 ∧ p.s7 ≤ 255
theorem tmod_bd (x m : Int) (hm : 0 < m) : -m < x.tmod m ∧ x.tmod m < m := by
  rcases Int.le_total 0 x with h | h
  · rw [Int.tmod_eq_emod_of_nonneg h]
    have h1 := Int.emod_nonneg x (show m ≠ 0 by omega)
    have h2 := Int.emod_lt_of_pos x hm
    omega
  · obtain ⟨y, rfl⟩ : ∃ y, x = -y := ⟨-x, by omega⟩
    rw [Int.neg_tmod, Int.tmod_eq_emod_of_nonneg (by omega)]
    have h1 := Int.emod_nonneg y (show m ≠ 0 by omega)
    have h2 := Int.emod_lt_of_pos y hm
    omega
theorem RdR.keepRowNe {w w' : World} {A : Option Addr} {n : Nat} {rs : List RC} {row : Option Nat} (h : RdR w A n rs) (hg : w.grownBy w' row) (hne : 0 < n → ∀ a, A = some a → row ≠ some a.block) : RdR w' A n rs :=
  ⟨h.1, fun hn => by
    obtain ⟨b, off, e, hl, hc⟩ := h.2 hn
    refine ⟨b, off, e, Nat.lt_of_lt_of_le hl hg.size, fun k r hk => ?_⟩
    have hb : w'.heap[b]? = w.heap[b]? := hg.block b hl (fun e' => hne hn _ e e'.symm)
    have hcell : ∀ o, w'.cell? ⟨b, o, none⟩ = w.cell? ⟨b, o, none⟩ := fun o => by unfold World.cell?; simp only [hb]
    obtain ⟨c0, c1, c2, c3⟩ := hc k r hk
    exact ⟨(hcell _).trans c0, (hcell _).trans c1, (hcell _).trans c2, (hcell _).trans c3⟩⟩
/-- windows made so far: all are well, their shapes lie apart from the list. -/
structure WinsAt (w : World) (base : Nat) (v : Value) (l : List DW) : Prop where
  own : w.ownsRow base 33 8 v l.length (l.flatMap DW.cells)
  up : UpOk l
  ok : ∀ d ∈ l, DWok d
  sh : ∀ d ∈ l, RdR w d.A d.n d.sh
  far : ∀ d ∈ l, 0 < d.n → ∀ a, d.A = some a → v.ownBlock ≠ some a.block
theorem WinsAt.below {w w' : World} {base : Nat} {v : Value} {l : List DW} (h : WinsAt w base v l) (hb : Below w.heap.size w w') : WinsAt w' base v l :=
  ⟨ownsRow_below h.own hb, h.up, h.ok, fun d hd => (h.sh d hd).below hb, h.far⟩
theorem WinsAt.snoc {w w' : World} {base : Nat} {v v' : Value} {l : List DW} {d : DW} (h : WinsAt w base v l) (hd : DWok d) (hp : -1 ≤ d.P ∧ d.P < (l.length : Int)) (hs : RdR w d.A d.n d.sh) (hf : 0 < d.n → ∀ a, d.A = some a → v.ownBlock ≠ some a.block)
    (hg : w.grownBy w' v.ownBlock) (ho : w'.ownsRow base 33 8 v' (l.length + 1) (l.flatMap DW.cells ++ d.cells)) (hat : v'.ownBlock = v.ownBlock ∨ v'.ownBlock = some w.heap.size) : WinsAt w' base v' (l ++ [d]) := by
  have hall : ∀ q ∈ l ++ [d], RdR w q.A q.n q.sh ∧ (0 < q.n → ∀ a, q.A = some a → v.ownBlock ≠ some a.block) := fun q hq => by
    rcases List.mem_append.1 hq with h1 | h1
    · exact ⟨h.sh q h1, h.far q h1⟩
    · obtain rfl := List.mem_singleton.1 h1
      exact ⟨hs, hf⟩
  refine ⟨by simpa using ho, fun i q hq => ?_, fun q hq => ?_, fun q hq => ?_, fun q hq hn a ha => ?_⟩
  · by_cases hi : i < l.length
    · rw [List.getElem?_append_left hi] at hq
      exact h.up i q hq
    · have hlt := (List.getElem?_eq_some_iff.1 hq).1
      simp only [List.length_append, List.length_singleton] at hlt
      obtain rfl : i = l.length := by omega
      rw [List.getElem?_append_right (Nat.le_refl _), Nat.sub_self] at hq
      obtain rfl : d = q := by simpa using hq
      exact hp
  · rcases List.mem_append.1 hq with h1 | h1
    · exact h.ok q h1
    · obtain rfl := List.mem_singleton.1 h1
      exact hd
  · exact (hall q hq).1.keepRowNe hg (hall q hq).2
  · obtain ⟨h1, h2⟩ := hall q hq
    rcases hat with e | e
    · rw [e]; exact h2 hn a ha
    · rw [e]
      obtain ⟨b, off, e1, hl, _⟩ := h1.2 hn
      rw [e1] at ha
      injection ha with ha
      subst ha
      intro e2
      injection e2 with e2
      simp only at e2
      omega
theorem WinsAt.reads {w : World} {base c : Nat} {A : Option Addr} {l : List DW} (h : WinsAt w base (.slice A l.length c) l) : RdWs w A l.length l := ⟨RdF.of_own DW.cells_len h.own rfl, h.sh⟩
set_option maxRecDepth 100000 in
theorem Tryz.infoW : (Tryz.prog.info? 33).map (fun i => (i.zero, i.size, i.bytes)) = some (some (.agg #[.int .i64 0, .int .i64 0, .int .i64 0, .int .i64 0, .int .i64 0, .bool false, .bool false, .slice none 0 0]), 8, 72) := by kernel_rfl
set_option maxRecDepth 100000 in
theorem Tryz.sizeW : (Tryz.prog.info? 33).map (·.size) = some 8 := by kernel_rfl
theorem news_new (w : World) (cs : List Value) (t : TypeId) : ∀ j u, cs[j]? = some u → (w.alloc (.cells cs.toArray t)).cell? ((⟨w.heap.size, 0, none⟩ : Addr).add j) = some u := by
  intro j u hj
  have h := (Blk.new w t cs.toArray).cellV (i := j) (v := u) (by simpa using hj)
  unfold Addr.add
  split
  · rename_i e; rw [e] at h; exact h
  · rw [Nat.zero_add]; exact h
theorem rcs_one (r : RC) : rcs [r] = [.int .i64 r.X, .int .i64 r.Y, .int .i64 r.W, .int .i64 r.H] := rfl
theorem blk_putsAll {w : World} {g : Nat} {t : TypeId} {cs : Array Value} (vs : Array Value) (hl : vs.size = cs.size) (h : Blk w g t cs) : Blk (World.setCells w g 0 vs.toList) g t vs := by
  have h1 := blk_all vs.toList 0 w cs.toList (by simpa using h) (by simp [hl])
  have e : (cs.toList.take 0 ++ vs.toList ++ cs.toList.drop (0 + vs.toList.length)).toArray = vs := by
    rw [List.drop_of_length_le (by simp [hl])]
    simp
  rw [e] at h1
  exact h1

set_option maxRecDepth 100000 in
set_option maxHeartbeats 8000000 in
theorem windows31_any (a b0 : Int) (A : Option Addr) (n c : Nat) (ps : List PN) (w : World) (hn : n ≤ 60) (hr : RdF PN.cells 14 w A n ps) (hok : ∀ p ∈ ps, p.ok) :
    Calls Tryz.prog 21 #[.agg #[.int .u8 a, .int .u8 b0, .slice A n c]] w fun e w' => ∃ v l, e = .returned v ∧ l.length = n ∧ WinsAt w' (w.heap.size + 1) v l ∧ Below w.heap.size w w' := by
  obtain ⟨i0, hi0, hz0, hz1, hz2⟩ := info_parts Tryz.infoW
  obtain ⟨j0, hj0, hy0, hy1, hy2⟩ := info_parts Tryz.infoR
  have HR := Lib.hid hr
  have HOK := Lib.hid hok
  have HLN := Lib.hid hr.1
  clear hr hok
  go_enter Tryz.func21, Tryz.ntmps21
  go_wp2_with fail
  have xK1 := Blk.new w 24 #[.int .u8 a, .int .u8 b0, .slice A n c]
  have xHB := bal (bre w) (.cells #[.int .u8 a, .int .u8 b0, .slice A n c] 24)
  obtain ⟨X0, hX0⟩ : ∃ X0, w.alloc (.cells #[.int .u8 a, .int .u8 b0, .slice A n c] 24) = X0 := ⟨_, rfl⟩
  have hsz : X0.heap.size = w.heap.size + 1 := by rw [← hX0]; simp
  rw [hX0] at xK1 xHB ⊢
  have K1 := Lib.hid xK1
  have HB := Lib.hid xHB
  have HS0 := Lib.hid hsz
  clear xK1 xHB hX0 hsz
  go_loopw [3, 4] (fun v i wr => ∃ (k : Nat) (l : List DW), i = .int .i64 k ∧ k ≤ n ∧ l.length = k ∧ WinsAt wr (w.heap.size + 1) v l ∧ Below X0.heap.size X0 wr) (fun _ i _ => n - (intOf i).toNat)
  case atStart => exact ⟨0, [], rfl, by omega, rfl, ⟨World.ownsRow_nil _ _ _ _, fun i d hd => by simp at hd, by simp, by simp, by simp⟩, bre X0⟩
  case round =>
    obtain ⟨k, l, rfl, hk, hlk, hat, hB⟩ := hrel
    obtain ⟨Ao, co, rfl, _⟩ := own_form hat.own
    have HAT := Lib.hid hat
    have HB2 := Lib.hid hB
    have HLK := Lib.hid hlk
    have q1 := (K1.out.belowS hB).cellV (i := 2) (v := .slice A n c) rfl
    clear hat hB hlk
    by_cases hlt : k < n
    · obtain ⟨p, hx⟩ : ∃ p, ps[k]? = some p := ⟨_, List.getElem?_eq_getElem (by rw [HLN.out]; exact hlt)⟩
      have HPK := Lib.hid (HOK.out p (List.mem_of_getElem? hx))
      obtain ⟨b, off, rfl, hb, hcl⟩ := HR.out.2 (by omega)
      have hbw := bstep HB.out HB2.out
      have c0 := (hbw.cell (p := ⟨b, off + k * 14, none⟩) hb).trans (hcl k p hx 0 _ rfl)
      have c1 := (hbw.cell (p := ⟨b, off + k * 14 + 1, none⟩) hb).trans (hcl k p hx 1 _ rfl)
      have c2 := (hbw.cell (p := ⟨b, off + k * 14 + 2, none⟩) hb).trans (hcl k p hx 2 _ rfl)
      have c3 := (hbw.cell (p := ⟨b, off + k * 14 + 3, none⟩) hb).trans (hcl k p hx 3 _ rfl)
      have c4 := (hbw.cell (p := ⟨b, off + k * 14 + 4, none⟩) hb).trans (hcl k p hx 4 _ rfl)
      have c5 := (hbw.cell (p := ⟨b, off + k * 14 + 5, none⟩) hb).trans (hcl k p hx 5 _ rfl)
      have c6 := (hbw.cell (p := ⟨b, off + k * 14 + 6, none⟩) hb).trans (hcl k p hx 6 _ rfl)
      have c7 := (hbw.cell (p := ⟨b, off + k * 14 + 7, none⟩) hb).trans (hcl k p hx 7 _ rfl)
      have c8 := (hbw.cell (p := ⟨b, off + k * 14 + 8, none⟩) hb).trans (hcl k p hx 8 _ rfl)
      have c9 := (hbw.cell (p := ⟨b, off + k * 14 + 9, none⟩) hb).trans (hcl k p hx 9 _ rfl)
      have c10 := (hbw.cell (p := ⟨b, off + k * 14 + 10, none⟩) hb).trans (hcl k p hx 10 _ rfl)
      have c11 := (hbw.cell (p := ⟨b, off + k * 14 + 11, none⟩) hb).trans (hcl k p hx 11 _ rfl)
      have c12 := (hbw.cell (p := ⟨b, off + k * 14 + 12, none⟩) hb).trans (hcl k p hx 12 _ rfl)
      have c13 := (hbw.cell (p := ⟨b, off + k * 14 + 13, none⟩) hb).trans (hcl k p hx 13 _ rfl)
      have k1 : (k : Int) < (n : Int) := by omega
      have k0 : (0 : Int) ≤ (k : Int) := by omega
      have HK := Lib.hid (And.intro hk hlt)
      clear hcl hbw hx
      go_upto_region 6 with fail
      have xHB := bal HB2.out (.cells #[.int .u8 p.U, .int .i8 p.X, .int .i8 p.Y, .int .i8 p.W, .int .i8 p.H, .int .u8 p.F, .int .u8 p.s0, .int .u8 p.s1, .int .u8 p.s2, .int .u8 p.s3, .int .u8 p.s4, .int .u8 p.s5, .int .u8 p.s6, .int .u8 p.s7] 170)
      have xHA := HAT.out.below (bal (bre wr) (.cells #[.int .u8 p.U, .int .i8 p.X, .int .i8 p.Y, .int .i8 p.W, .int .i8 p.H, .int .u8 p.F, .int .u8 p.s0, .int .u8 p.s1, .int .u8 p.s2, .int .u8 p.s3, .int .u8 p.s4, .int .u8 p.s5, .int .u8 p.s6, .int .u8 p.s7] 170))
      have xK5 := Blk.new wr 170 #[.int .u8 p.U, .int .i8 p.X, .int .i8 p.Y, .int .i8 p.W, .int .i8 p.H, .int .u8 p.F, .int .u8 p.s0, .int .u8 p.s1, .int .u8 p.s2, .int .u8 p.s3, .int .u8 p.s4, .int .u8 p.s5, .int .u8 p.s6, .int .u8 p.s7]
      have hsz : wr.heap.size < (wr.alloc (.cells #[.int .u8 p.U, .int .i8 p.X, .int .i8 p.Y, .int .i8 p.W, .int .i8 p.H, .int .u8 p.F, .int .u8 p.s0, .int .u8 p.s1, .int .u8 p.s2, .int .u8 p.s3, .int .u8 p.s4, .int .u8 p.s5, .int .u8 p.s6, .int .u8 p.s7] 170)).heap.size := by simp
      obtain ⟨X1, hX1⟩ : ∃ X1, wr.alloc (.cells #[.int .u8 p.U, .int .i8 p.X, .int .i8 p.Y, .int .i8 p.W, .int .i8 p.H, .int .u8 p.F, .int .u8 p.s0, .int .u8 p.s1, .int .u8 p.s2, .int .u8 p.s3, .int .u8 p.s4, .int .u8 p.s5, .int .u8 p.s6, .int .u8 p.s7] 170) = X1 := ⟨_, rfl⟩
      rw [hX1] at xHB xHA xK5 hsz ⊢
      replace HB2 := Lib.hid xHB
      replace HAT := Lib.hid xHA
      have K5 := Lib.hid xK5
      have HS1 := Lib.hid hsz
      clear xHB xHA xK5 hsz hX1 q1 c0 c1 c2 c3 c4 c5 c6 c7 c8 c9 c10 c11 c12 c13
      have po := HPK.out
      obtain ⟨qP, hqP⟩ : ∃ q, p.U % ((k : Int) + 1) = q := ⟨_, rfl⟩
      have bqP : 0 ≤ qP ∧ qP ≤ (k : Int) := by
        have h1 := Int.emod_nonneg p.U (show ((k : Int) + 1) ≠ 0 by omega)
        have h2 := Int.emod_lt_of_pos p.U (show 0 < ((k : Int) + 1) by omega)
        omega
      obtain ⟨qX, hqX⟩ : ∃ q, p.X.tmod 14 = q := ⟨_, rfl⟩
      have bqX : -14 < qX ∧ qX < 14 := by rw [← hqX]; exact tmod_bd _ 14 (by decide)
      obtain ⟨qY, hqY⟩ : ∃ q, p.Y.tmod 12 = q := ⟨_, rfl⟩
      have bqY : -12 < qY ∧ qY < 12 := by rw [← hqY]; exact tmod_bd _ 12 (by decide)
      obtain ⟨uW, huW⟩ : ∃ q, IntKind.u8.wrap p.W = q := ⟨_, rfl⟩
      have buW : 0 ≤ uW ∧ uW ≤ 255 := by rw [← huW]; exact wrap_within .u8 p.W
      obtain ⟨uH, huH⟩ : ∃ q, IntKind.u8.wrap p.H = q := ⟨_, rfl⟩
      have buH : 0 ≤ uH ∧ uH ≤ 255 := by rw [← huH]; exact wrap_within .u8 p.H
      obtain ⟨bM, hbM⟩ : ∃ q, (p.F % 4 != 0) = q := ⟨_, rfl⟩
      obtain ⟨bS, hbS⟩ : ∃ q, (p.F / 4 % 3 == 1) = q := ⟨_, rfl⟩
      have b1 := po.u
      have b2 := po.x
      have b3 := po.y
      have b4 := po.w
      have b5 := po.h
      have b6 := po.f
      clear po
      go_cut [6] from 95 (fun s6 wx => ∃ (g : Nat), s6 = .pointer (some ⟨g, 0, none⟩) ∧ X1.heap.size ≤ g ∧ Blk wx g 33 #[.int .i64 (qP - 1), .int .i64 qX, .int .i64 qY, .int .i64 (1 + uW % 12), .int .i64 (1 + uH % 10), .bool bM, .bool bS, .slice none 0 0] ∧ Below X1.heap.size X1 wx)
      case first =>
        as_aux_lemma =>
          have v1 : IntKind.i64.wrap p.U = p.U := IntWalk.i64_in _ (by omega)
          have v2 : IntKind.i64.wrap ((k : Int) + 1) = (k : Int) + 1 := IntWalk.i64_in _ (by omega)
          have v3 : p.U.tmod ((k : Int) + 1) = qP := by rw [Int.tmod_eq_emod_of_nonneg (by omega)]; exact hqP
          have v4 : ¬ ((k : Int) + 1 = 0) := by omega
          have v5 : IntKind.i64.wrap (qP - 1) = qP - 1 := IntWalk.i64_in _ (by omega)
          have v6 : IntKind.i64.wrap qX = qX := IntWalk.i64_in _ (by omega)
          have v7 : IntKind.i64.wrap qY = qY := IntWalk.i64_in _ (by omega)
          have v8 : uW.tmod 12 = uW % 12 := Int.tmod_eq_emod_of_nonneg (by omega)
          have v9 : IntKind.i64.wrap (uW % 12) = uW % 12 := IntWalk.i64_in _ (by omega)
          have v10 : IntKind.i64.wrap (1 + uW % 12) = 1 + uW % 12 := IntWalk.i64_in _ (by omega)
          have v11 : uH.tmod 10 = uH % 10 := Int.tmod_eq_emod_of_nonneg (by omega)
          have v12 : IntKind.i64.wrap (uH % 10) = uH % 10 := IntWalk.i64_in _ (by omega)
          have v13 : IntKind.i64.wrap (1 + uH % 10) = 1 + uH % 10 := IntWalk.i64_in _ (by omega)
          have v14 : p.F.tmod 4 = p.F % 4 := Int.tmod_eq_emod_of_nonneg (by omega)
          have v17 : IntKind.u8.wrap (p.F / 4) = p.F / 4 := by rw [IntKind.wrap_u8]; omega
          have v15 : p.F.tdiv 4 = p.F / 4 := Int.tdiv_eq_ediv_of_nonneg (by omega)
          have v16 : (p.F / 4).tmod 3 = p.F / 4 % 3 := Int.tmod_eq_emod_of_nonneg (by omega)
          have HBW := Lib.hid (show Below X1.heap.size X1 X1.drew from (bre X1).drew)
          refine wp_region_noPanic ?_
          refine wp_region_held_drew (S := (fun w' => w'.cell? ⟨wr.heap.size, 0, none⟩ = some (.int .u8 p.U) ∧ w'.cell? ⟨wr.heap.size, 1, none⟩ = some (.int .i8 p.X) ∧ w'.cell? ⟨wr.heap.size, 2, none⟩ = some (.int .i8 p.Y) ∧ w'.cell? ⟨wr.heap.size, 3, none⟩ = some (.int .i8 p.W) ∧ w'.cell? ⟨wr.heap.size, 4, none⟩ = some (.int .i8 p.H) ∧ w'.cell? ⟨wr.heap.size, 5, none⟩ = some (.int .u8 p.F))) (by kernel_rfl) ?_ (fun hHeld => ?_)
          · (try dsimp only)
            exact ⟨(K5.out.belowS HBW.out).cellV (i := 0) rfl, (K5.out.belowS HBW.out).cellV (i := 1) rfl, (K5.out.belowS HBW.out).cellV (i := 2) rfl, (K5.out.belowS HBW.out).cellV (i := 3) rfl, (K5.out.belowS HBW.out).cellV (i := 4) rfl, (K5.out.belowS HBW.out).cellV (i := 5) rfl⟩
          refine Tr.take_at 0 21 (.pointer (some ⟨wr.heap.size, 0, none⟩)) rfl rfl (by kernel_rfl) (by kernel_rfl) (by kernel_rfl) (fun _ _ _ h => h) (Or.inl ⟨by rfl, ?_⟩) (by assumption) ?_
          · intro W0 hSw
            (try dsimp only at hSw)
            go_simp
          simp only [List.set_cons_zero, List.set_cons_succ]
          refine Tr.take_at 1 22 (.int .u8 p.U) rfl rfl (by kernel_rfl) (by kernel_rfl) (by kernel_rfl) (fun _ _ _ h => h) (Or.inl ⟨by rfl, ?_⟩) (by assumption) ?_
          · intro W0 hSw
            (try dsimp only at hSw)
            go_simp
          simp only [List.set_cons_zero, List.set_cons_succ]
          refine Tr.take_at 2 23 (.int .i64 p.U) rfl rfl (by kernel_rfl) (by kernel_rfl) (by kernel_rfl) (fun _ _ _ h => h) (Or.inl ⟨by rfl, ?_⟩) (by assumption) ?_
          · intro W0 hSw
            (try dsimp only at hSw)
            go_simp
          simp only [List.set_cons_zero, List.set_cons_succ]
          refine Tr.take_at 3 24 (.int .i64 k) rfl rfl (by kernel_rfl) (by kernel_rfl) (by kernel_rfl) (fun _ _ _ h => h) (Or.inl ⟨by rfl, ?_⟩) (by assumption) ?_
          · intro W0 hSw
            (try dsimp only at hSw)
            go_simp
          simp only [List.set_cons_zero, List.set_cons_succ]
          refine Tr.take_at 4 25 (.int .i64 (k + 1)) rfl rfl (by kernel_rfl) (by kernel_rfl) (by kernel_rfl) (fun _ _ _ h => h) (Or.inl ⟨by rfl, ?_⟩) (by assumption) ?_
          · intro W0 hSw
            (try dsimp only at hSw)
            go_simp
          simp only [List.set_cons_zero, List.set_cons_succ]
          refine Tr.take_at 5 26 (.int .i64 qP) rfl rfl (by kernel_rfl) (by kernel_rfl) (by kernel_rfl) (fun _ _ _ h => h) (Or.inl ⟨by rfl, ?_⟩) (by assumption) ?_
          · intro W0 hSw
            (try dsimp only at hSw)
            go_simp
          simp only [List.set_cons_zero, List.set_cons_succ]
          refine Tr.take_at 6 27 (.int .i64 (qP - 1)) rfl rfl (by kernel_rfl) (by kernel_rfl) (by kernel_rfl) (fun _ _ _ h => h) (Or.inl ⟨by rfl, ?_⟩) (by assumption) ?_
          · intro W0 hSw
            (try dsimp only at hSw)
            go_simp
          simp only [List.set_cons_zero, List.set_cons_succ]
          refine Tr.take_at 7 28 (.pointer (some ⟨wr.heap.size, 1, none⟩)) rfl rfl (by kernel_rfl) (by kernel_rfl) (by kernel_rfl) (fun _ _ _ h => h) (Or.inl ⟨by rfl, ?_⟩) (by assumption) ?_
          · intro W0 hSw
            (try dsimp only at hSw)
            go_simp
          simp only [List.set_cons_zero, List.set_cons_succ]
          refine Tr.take_at 8 29 (.int .i8 p.X) rfl rfl (by kernel_rfl) (by kernel_rfl) (by kernel_rfl) (fun _ _ _ h => h) (Or.inl ⟨by rfl, ?_⟩) (by assumption) ?_
          · intro W0 hSw
            (try dsimp only at hSw)
            go_simp
          simp only [List.set_cons_zero, List.set_cons_succ]
          refine Tr.take_at 9 30 (.int .i8 qX) rfl rfl (by kernel_rfl) (by kernel_rfl) (by kernel_rfl) (fun _ _ _ h => h) (Or.inl ⟨by rfl, ?_⟩) (by assumption) ?_
          · intro W0 hSw
            (try dsimp only at hSw)
            go_simp
          simp only [List.set_cons_zero, List.set_cons_succ]
          refine Tr.take_at 10 31 (.int .i64 qX) rfl rfl (by kernel_rfl) (by kernel_rfl) (by kernel_rfl) (fun _ _ _ h => h) (Or.inl ⟨by rfl, ?_⟩) (by assumption) ?_
          · intro W0 hSw
            (try dsimp only at hSw)
            go_simp
          simp only [List.set_cons_zero, List.set_cons_succ]
          refine Tr.take_at 11 32 (.pointer (some ⟨wr.heap.size, 2, none⟩)) rfl rfl (by kernel_rfl) (by kernel_rfl) (by kernel_rfl) (fun _ _ _ h => h) (Or.inl ⟨by rfl, ?_⟩) (by assumption) ?_
          · intro W0 hSw
            (try dsimp only at hSw)
            go_simp
          simp only [List.set_cons_zero, List.set_cons_succ]
          refine Tr.take_at 12 33 (.int .i8 p.Y) rfl rfl (by kernel_rfl) (by kernel_rfl) (by kernel_rfl) (fun _ _ _ h => h) (Or.inl ⟨by rfl, ?_⟩) (by assumption) ?_
          · intro W0 hSw
            (try dsimp only at hSw)
            go_simp
          simp only [List.set_cons_zero, List.set_cons_succ]
          refine Tr.take_at 13 34 (.int .i8 qY) rfl rfl (by kernel_rfl) (by kernel_rfl) (by kernel_rfl) (fun _ _ _ h => h) (Or.inl ⟨by rfl, ?_⟩) (by assumption) ?_
          · intro W0 hSw
            (try dsimp only at hSw)
            go_simp
          simp only [List.set_cons_zero, List.set_cons_succ]
          refine Tr.take_at 14 35 (.int .i64 qY) rfl rfl (by kernel_rfl) (by kernel_rfl) (by kernel_rfl) (fun _ _ _ h => h) (Or.inl ⟨by rfl, ?_⟩) (by assumption) ?_
          · intro W0 hSw
            (try dsimp only at hSw)
            go_simp
          simp only [List.set_cons_zero, List.set_cons_succ]
          refine Tr.take_at 15 36 (.pointer (some ⟨wr.heap.size, 3, none⟩)) rfl rfl (by kernel_rfl) (by kernel_rfl) (by kernel_rfl) (fun _ _ _ h => h) (Or.inl ⟨by rfl, ?_⟩) (by assumption) ?_
          · intro W0 hSw
            (try dsimp only at hSw)
            go_simp
          simp only [List.set_cons_zero, List.set_cons_succ]
          refine Tr.take_at 16 37 (.int .i8 p.W) rfl rfl (by kernel_rfl) (by kernel_rfl) (by kernel_rfl) (fun _ _ _ h => h) (Or.inl ⟨by rfl, ?_⟩) (by assumption) ?_
          · intro W0 hSw
            (try dsimp only at hSw)
            go_simp
          simp only [List.set_cons_zero, List.set_cons_succ]
          refine Tr.take_at 17 38 (.int .u8 uW) rfl rfl (by kernel_rfl) (by kernel_rfl) (by kernel_rfl) (fun _ _ _ h => h) (Or.inl ⟨by rfl, ?_⟩) (by assumption) ?_
          · intro W0 hSw
            (try dsimp only at hSw)
            go_simp
          simp only [List.set_cons_zero, List.set_cons_succ]
          refine Tr.take_at 18 39 (.int .u8 (uW % 12)) rfl rfl (by kernel_rfl) (by kernel_rfl) (by kernel_rfl) (fun _ _ _ h => h) (Or.inl ⟨by rfl, ?_⟩) (by assumption) ?_
          · intro W0 hSw
            (try dsimp only at hSw)
            go_simp
          simp only [List.set_cons_zero, List.set_cons_succ]
          refine Tr.take_at 19 40 (.int .i64 (uW % 12)) rfl rfl (by kernel_rfl) (by kernel_rfl) (by kernel_rfl) (fun _ _ _ h => h) (Or.inl ⟨by rfl, ?_⟩) (by assumption) ?_
          · intro W0 hSw
            (try dsimp only at hSw)
            go_simp
          simp only [List.set_cons_zero, List.set_cons_succ]
          refine Tr.take_at 20 41 (.int .i64 (1 + uW % 12)) rfl rfl (by kernel_rfl) (by kernel_rfl) (by kernel_rfl) (fun _ _ _ h => h) (Or.inl ⟨by rfl, ?_⟩) (by assumption) ?_
          · intro W0 hSw
            (try dsimp only at hSw)
            go_simp
          simp only [List.set_cons_zero, List.set_cons_succ]
          refine Tr.take_at 21 42 (.pointer (some ⟨wr.heap.size, 4, none⟩)) rfl rfl (by kernel_rfl) (by kernel_rfl) (by kernel_rfl) (fun _ _ _ h => h) (Or.inl ⟨by rfl, ?_⟩) (by assumption) ?_
          · intro W0 hSw
            (try dsimp only at hSw)
            go_simp
          simp only [List.set_cons_zero, List.set_cons_succ]
          refine Tr.take_at 22 43 (.int .i8 p.H) rfl rfl (by kernel_rfl) (by kernel_rfl) (by kernel_rfl) (fun _ _ _ h => h) (Or.inl ⟨by rfl, ?_⟩) (by assumption) ?_
          · intro W0 hSw
            (try dsimp only at hSw)
            go_simp
          simp only [List.set_cons_zero, List.set_cons_succ]
          refine Tr.take_at 23 44 (.int .u8 uH) rfl rfl (by kernel_rfl) (by kernel_rfl) (by kernel_rfl) (fun _ _ _ h => h) (Or.inl ⟨by rfl, ?_⟩) (by assumption) ?_
          · intro W0 hSw
            (try dsimp only at hSw)
            go_simp
          simp only [List.set_cons_zero, List.set_cons_succ]
          refine Tr.take_at 24 45 (.int .u8 (uH % 10)) rfl rfl (by kernel_rfl) (by kernel_rfl) (by kernel_rfl) (fun _ _ _ h => h) (Or.inl ⟨by rfl, ?_⟩) (by assumption) ?_
          · intro W0 hSw
            (try dsimp only at hSw)
            go_simp
          simp only [List.set_cons_zero, List.set_cons_succ]
          refine Tr.take_at 25 46 (.int .i64 (uH % 10)) rfl rfl (by kernel_rfl) (by kernel_rfl) (by kernel_rfl) (fun _ _ _ h => h) (Or.inl ⟨by rfl, ?_⟩) (by assumption) ?_
          · intro W0 hSw
            (try dsimp only at hSw)
            go_simp
          simp only [List.set_cons_zero, List.set_cons_succ]
          refine Tr.take_at 26 47 (.int .i64 (1 + uH % 10)) rfl rfl (by kernel_rfl) (by kernel_rfl) (by kernel_rfl) (fun _ _ _ h => h) (Or.inl ⟨by rfl, ?_⟩) (by assumption) ?_
          · intro W0 hSw
            (try dsimp only at hSw)
            go_simp
          simp only [List.set_cons_zero, List.set_cons_succ]
          refine Tr.take_at 27 48 (.pointer (some ⟨wr.heap.size, 5, none⟩)) rfl rfl (by kernel_rfl) (by kernel_rfl) (by kernel_rfl) (fun _ _ _ h => h) (Or.inl ⟨by rfl, ?_⟩) (by assumption) ?_
          · intro W0 hSw
            (try dsimp only at hSw)
            go_simp
          simp only [List.set_cons_zero, List.set_cons_succ]
          refine Tr.take_at 28 49 (.int .u8 p.F) rfl rfl (by kernel_rfl) (by kernel_rfl) (by kernel_rfl) (fun _ _ _ h => h) (Or.inl ⟨by rfl, ?_⟩) (by assumption) ?_
          · intro W0 hSw
            (try dsimp only at hSw)
            go_simp
          simp only [List.set_cons_zero, List.set_cons_succ]
          refine Tr.take_at 29 50 (.int .u8 (p.F % 4)) rfl rfl (by kernel_rfl) (by kernel_rfl) (by kernel_rfl) (fun _ _ _ h => h) (Or.inl ⟨by rfl, ?_⟩) (by assumption) ?_
          · intro W0 hSw
            (try dsimp only at hSw)
            go_simp
          simp only [List.set_cons_zero, List.set_cons_succ]
          refine Tr.take_at 30 51 (.bool bM) rfl rfl (by kernel_rfl) (by kernel_rfl) (by kernel_rfl) (fun _ _ _ h => h) (Or.inl ⟨by rfl, ?_⟩) (by assumption) ?_
          · intro W0 hSw
            (try dsimp only at hSw)
            go_simp
          simp only [List.set_cons_zero, List.set_cons_succ]
          refine Tr.take_at 31 52 (.pointer (some ⟨wr.heap.size, 5, none⟩)) rfl rfl (by kernel_rfl) (by kernel_rfl) (by kernel_rfl) (fun _ _ _ h => h) (Or.inl ⟨by rfl, ?_⟩) (by assumption) ?_
          · intro W0 hSw
            (try dsimp only at hSw)
            go_simp
          simp only [List.set_cons_zero, List.set_cons_succ]
          refine Tr.take_at 32 53 (.int .u8 p.F) rfl rfl (by kernel_rfl) (by kernel_rfl) (by kernel_rfl) (fun _ _ _ h => h) (Or.inl ⟨by rfl, ?_⟩) (by assumption) ?_
          · intro W0 hSw
            (try dsimp only at hSw)
            go_simp
          simp only [List.set_cons_zero, List.set_cons_succ]
          refine Tr.take_at 33 54 (.int .u8 (p.F / 4)) rfl rfl (by kernel_rfl) (by kernel_rfl) (by kernel_rfl) (fun _ _ _ h => h) (Or.inl ⟨by rfl, ?_⟩) (by assumption) ?_
          · intro W0 hSw
            (try dsimp only at hSw)
            go_simp
          simp only [List.set_cons_zero, List.set_cons_succ]
          refine Tr.take_at 34 55 (.int .u8 (p.F / 4 % 3)) rfl rfl (by kernel_rfl) (by kernel_rfl) (by kernel_rfl) (fun _ _ _ h => h) (Or.inl ⟨by rfl, ?_⟩) (by assumption) ?_
          · intro W0 hSw
            (try dsimp only at hSw)
            go_simp
          simp only [List.set_cons_zero, List.set_cons_succ]
          refine Tr.take_at 35 56 (.bool bS) rfl rfl (by kernel_rfl) (by kernel_rfl) (by kernel_rfl) (fun _ _ _ h => h) (Or.inl ⟨by rfl, ?_⟩) (by assumption) ?_
          · intro W0 hSw
            (try dsimp only at hSw)
            go_simp
          simp only [List.set_cons_zero, List.set_cons_succ]
          refine Tr.take_at 36 57 (.agg #[.int .i64 (qP - 1), .int .i64 qX, .int .i64 qY, .int .i64 (1 + uW % 12), .int .i64 (1 + uH % 10), .bool bM, .bool bS, .slice none 0 0]) rfl rfl (by kernel_rfl) (by kernel_rfl) (by kernel_rfl) (fun _ _ _ h => h) (Or.inl ⟨by rfl, ?_⟩) (by assumption) ?_
          · intro W0 hSw
            apply y_build
            as_aux_lemma => kernel_rfl
          simp only [List.set_cons_zero, List.set_cons_succ]
          refine wpAnyH_ready (rs := [37]) (by kernel_rfl) (by simp) ?_
          refine AllReadyH.cons rfl (fun K hK => ?_) AllReadyH.nil
          go_simp
          have KA37 := Lib.hid (show Blk (X1.alloc (.cells #[.int .i64 0, .int .i64 0, .int .i64 0, .int .i64 0, .int .i64 0, .bool false, .bool false, .slice none 0 0] 33)).drew (X1.heap.size) 33 #[.int .i64 0, .int .i64 0, .int .i64 0, .int .i64 0, .int .i64 0, .bool false, .bool false, .slice none 0 0] from Blk.new X1.drew 33 #[.int .i64 0, .int .i64 0, .int .i64 0, .int .i64 0, .int .i64 0, .bool false, .bool false, .slice none 0 0])
          have HL37 := Lib.hid (show X1.heap.size ≤ X1.heap.size from HBW.out.size)
          have hbA : Below X1.drew.heap.size X1.drew ((X1.alloc (.cells #[.int .i64 0, .int .i64 0, .int .i64 0, .int .i64 0, .int .i64 0, .bool false, .bool false, .slice none 0 0] 33)).drew) := bal (bre X1.drew) (.cells #[.int .i64 0, .int .i64 0, .int .i64 0, .int .i64 0, .int .i64 0, .bool false, .bool false, .slice none 0 0] 33)
          replace HBW := Lib.hid (bstep HBW.out hbA)
          clear hbA
          refine hK.out _ _ ?_ (fun hHeld => ?_)
          · (try dsimp only)
            exact ⟨(K5.out.belowS HBW.out).cellV (i := 0) rfl, (K5.out.belowS HBW.out).cellV (i := 1) rfl, (K5.out.belowS HBW.out).cellV (i := 2) rfl, (K5.out.belowS HBW.out).cellV (i := 3) rfl, (K5.out.belowS HBW.out).cellV (i := 4) rfl, (K5.out.belowS HBW.out).cellV (i := 5) rfl⟩
          clear hK K
          refine wpAnyH_ready (rs := [38]) (by kernel_rfl) (by simp) ?_
          refine AllReadyH.cons rfl (fun K hK => ?_) AllReadyH.nil
          refine Tr.wanted_plain rfl ?_
          refine store_mid0 rfl 33 _ _ rfl (X1.heap.size) 0 #[.int .i64 (qP - 1), .int .i64 qX, .int .i64 qY, .int .i64 (1 + uW % 12), .int .i64 (1 + uH % 10), .bool bM, .bool bS, .slice none 0 0] (by rfl) (by rfl) (by have h := there_blk KA37.out; exact h) Tryz.sizeW (by simp [Value.oneCell']) ?_
          have xK := blk_putsAll (#[.int .i64 (qP - 1), .int .i64 qX, .int .i64 qY, .int .i64 (1 + uW % 12), .int .i64 (1 + uH % 10), .bool bM, .bool bS, .slice none 0 0] : Array Value) (by rfl) KA37.out
          have xB := bsets HBW.out HL37.out (#[.int .i64 (qP - 1), .int .i64 qX, .int .i64 qY, .int .i64 (1 + uW % 12), .int .i64 (1 + uH % 10), .bool bM, .bool bS, .slice none 0 0] : Array Value).toList 0
          obtain ⟨wS38, hwS⟩ : ∃ wS, World.setCells (X1.alloc (.cells #[.int .i64 0, .int .i64 0, .int .i64 0, .int .i64 0, .int .i64 0, .bool false, .bool false, .slice none 0 0] 33)).drew (X1.heap.size) 0 (#[.int .i64 (qP - 1), .int .i64 qX, .int .i64 qY, .int .i64 (1 + uW % 12), .int .i64 (1 + uH % 10), .bool bM, .bool bS, .slice none 0 0] : Array Value).toList = wS := ⟨_, rfl⟩
          rw [hwS] at xK xB ⊢
          replace HBW := Lib.hid xB
          replace KA37 := Lib.hid xK
          clear hwS xK xB
          refine hK.out _ _ ?_ (fun hHeld => ?_)
          · (try dsimp only)
            exact ⟨(K5.out.belowS HBW.out).cellV (i := 0) rfl, (K5.out.belowS HBW.out).cellV (i := 1) rfl, (K5.out.belowS HBW.out).cellV (i := 2) rfl, (K5.out.belowS HBW.out).cellV (i := 3) rfl, (K5.out.belowS HBW.out).cellV (i := 4) rfl, (K5.out.belowS HBW.out).cellV (i := 5) rfl⟩
          clear hK K
          refine wpAnyH_done (by kernel_rfl) ?_ _
          refine NoPanic.normal ?_
          go_wp2_with fail
          go_meet
          exact ⟨_, rfl, HL37.out, KA37.out, HBW.out⟩
      obtain ⟨g6, rfl, hg6, hk6, hbc⟩ := hcut
      have K6 := Lib.hid hk6
      have HG6 := Lib.hid hg6
      have HLG := Lib.hid hk6.lt
      have HBC := Lib.hid hbc
      clear hbc hk6 hg6 hqP hqX hqY huW huH hbM hbS
      have HUP := Lib.hid bqP
      cases bS with
      | false =>
        as_aux_lemma =>
          have HBX := Lib.hid HBC.out
          have q6 := K6.out.cellV (i := 6) (v := .bool false) rfl
          have HDW := Lib.hid (show DWok ⟨qP - 1, qX, qY, 1 + uW % 12, 1 + uH % 10, bM, false, none, 0, 0, []⟩ from ⟨by dsimp only; omega, by dsimp only; omega, by dsimp only; omega, by dsimp only; omega, fun _ => rfl, by simp, by simp⟩)
          have HSH := Lib.hid (show RdR wc none 0 [] from ⟨rfl, fun h => absurd h (by decide)⟩)
          have HFR := Lib.hid (show 0 < 0 → ∀ a, (none : Option Addr) = some a → (Value.slice Ao l.length co).ownBlock ≠ some a.block from fun h => absurd h (by decide))
          go_upto_region 13 with fail
          have e0 := K6.out.cellV (i := 0) (v := .int .i64 (qP - 1)) rfl
          have e1 := K6.out.cellV (i := 1) (v := .int .i64 qX) rfl
          have e2 := K6.out.cellV (i := 2) (v := .int .i64 qY) rfl
          have e3 := K6.out.cellV (i := 3) (v := .int .i64 (1 + uW % 12)) rfl
          have e4 := K6.out.cellV (i := 4) (v := .int .i64 (1 + uH % 10)) rfl
          have e5 := K6.out.cellV (i := 5) (v := .bool bM) rfl
          have e6 := K6.out.cellV (i := 6) (v := .bool false) rfl
          have e7 := K6.out.cellV (i := 7) (v := .slice none 0 0) rfl
          have HAW := Lib.hid (HAT.out.below HBX.out)
          have HOA := Lib.hid (HAW.out.own.alloc (.cells #[.int .i64 (qP - 1), .int .i64 qX, .int .i64 qY, .int .i64 (1 + uW % 12), .int .i64 (1 + uH % 10), .bool bM, .bool false, .slice none 0 0] 33))
          go_wp2_with (first | (refine wpList_recs rfl 29 33 1 _ rfl 8 _ i0 Tryz.underlying29 hi0 hz0 hz1 rfl (by decide) (by decide) (by decide) [.agg #[.int .i64 (qP - 1), .int .i64 qX, .int .i64 qY, .int .i64 (1 + uW % 12), .int .i64 (1 + uH % 10), .bool bM, .bool false, .slice none 0 0]] (by simp [Value.cells]) rfl rfl #[.int .i64 (qP - 1), .int .i64 qX, .int .i64 qY, .int .i64 (1 + uW % 12), .int .i64 (1 + uH % 10), .bool bM, .bool false, .slice none 0 0] rfl ?_) | (at_builtin; refine wpList_append_own_at _ rfl _ _ 29 rfl (w.heap.size + 1) 33 i0 _ 8 72 Tryz.underlying29 hi0 hz0 hz1 hz2 rfl (by decide) (.slice Ao l.length co) l.length (l.flatMap DW.cells) rfl HOA.out ⟨wc.heap.size, 0, none⟩ 1 1 [.int .i64 (qP - 1), .int .i64 qX, .int .i64 qY, .int .i64 (1 + uW % 12), .int .i64 (1 + uH % 10), .bool bM, .bool false, .slice none 0 0] rfl rfl (news_new _ [.int .i64 (qP - 1), .int .i64 qX, .int .i64 qY, .int .i64 (1 + uW % 12), .int .i64 (1 + uH % 10), .bool bM, .bool false, .slice none 0 0] _) (by simp [Value.oneCell']) (by have := HLK.out; simp only [maxLen]; omega) (by have := HLK.out; omega) (by have h1 := HBX.out.size; have h2 := HB2.out.size; have h3 := HS0.out; simp; omega) ?_; intro v' w4 hown' hgrow _ hat; have HOW9 := Lib.hid hown'; have HGR9 := Lib.hid hgrow; have HAT9 := Lib.hid hat; clear hown' hgrow hat))
          have h9 := (HAW.out.below (bal (bre wc) _)).snoc (d := ⟨qP - 1, qX, qY, 1 + uW % 12, 1 + uH % 10, bM, false, none, 0, 0, []⟩) HDW.out (by have := HLK.out; have h1 := HUP.out; dsimp only; omega) (HSH.out.below (bal (bre wc) _)) HFR.out HGR9.out HOW9.out HAT9.out
          have hb9 := ((bal (bstep HB2.out HBX.out) (.cells #[.int .i64 (qP - 1), .int .i64 qX, .int .i64 qY, .int .i64 (1 + uW % 12), .int .i64 (1 + uH % 10), .bool bM, .bool false, .slice none 0 0] 33)).grown HGR9.out (bal (bstep HB2.out HBX.out) _).size (fun q e => by have h1 := own_ge HAW.out.own q e; have h2 := HS0.out; omega))
          have hlk := HLK.out
          go_roundw
          case rel => exact ⟨k + 1, _, by go_num, by have := HK.out; omega, by simp [hlk], h9, hb9⟩
          case measure => simp [intOf]; omega
      | true =>
        as_aux_lemma =>
          have q6 := K6.out.cellV (i := 6) (v := .bool true) rfl
          go_upto_region 9 with fail
          go_loopw [7] (fun i wr => ∃ (kk : Nat) (v8 : Value) (rs : List RC), i = .int .i64 kk ∧ kk ≤ 2 ∧ rs.length = kk ∧ (∀ r ∈ rs, ((0 ≤ r.X ∧ r.X ≤ 50) ∧ 0 ≤ r.Y ∧ r.Y ≤ 50) ∧ (0 ≤ r.W ∧ r.W ≤ 50) ∧ 0 ≤ r.H ∧ r.H ≤ 50) ∧ Blk wr g6 33 #[.int .i64 (qP - 1), .int .i64 qX, .int .i64 qY, .int .i64 (1 + uW % 12), .int .i64 (1 + uH % 10), .bool bM, .bool true, v8] ∧ wr.ownsRow wc.heap.size 103 4 v8 kk (rcs rs) ∧ Below X1.heap.size X1 wr ∧ wc.heap.size ≤ wr.heap.size) (fun i _ => 2 - (intOf i).toNat)
          case atStart => exact ⟨0, _, [], rfl, by omega, rfl, by simp, K6.out, World.ownsRow_nil _ _ _ _, HBC.out, Nat.le_refl _⟩
          case round =>
            obtain ⟨kk, v8, rs, rfl, hkk, hrl, hsm, h6, hown, hbx, hsz⟩ := hrel
            obtain ⟨A8, c8, rfl, _⟩ := own_form hown
            replace K6 := Lib.hid h6
            have HBX := Lib.hid hbx
            have HRL := Lib.hid hrl
            have HSM := Lib.hid hsm
            have HO8 := Lib.hid hown
            have HSZ := Lib.hid hsz
            clear h6 hbx hrl hsm hown hsz q6
            by_cases hk2 : kk < 2
            · rcases (show kk = 0 ∨ kk = 1 by omega) with rfl | rfl
              · as_aux_lemma =>
                  have c0 := (K5.out.belowS HBX.out).cellV (i := 6) (v := .int .u8 p.s0) rfl
                  have c1 := (K5.out.belowS HBX.out).cellV (i := 7) (v := .int .u8 p.s1) rfl
                  have c2 := (K5.out.belowS HBX.out).cellV (i := 8) (v := .int .u8 p.s2) rfl
                  have c3 := (K5.out.belowS HBX.out).cellV (i := 9) (v := .int .u8 p.s3) rfl
                  have b9 := HPK.out.s
                  obtain ⟨y0, y1, y2, y3⟩ := b9.1
                  clear b9
                  go_upto_region 12 with fail
                  have xK6 := K6.out.alloc (.cells #[.int .u8 p.s0, .int .u8 p.s1, .int .u8 p.s2, .int .u8 p.s3] 167)
                  have xO := HO8.out.alloc (.cells #[.int .u8 p.s0, .int .u8 p.s1, .int .u8 p.s2, .int .u8 p.s3] 167)
                  have xB := bal HBX.out (.cells #[.int .u8 p.s0, .int .u8 p.s1, .int .u8 p.s2, .int .u8 p.s3] 167)
                  have xKq := Blk.new wr 167 #[.int .u8 p.s0, .int .u8 p.s1, .int .u8 p.s2, .int .u8 p.s3]
                  have hsz : wr.heap.size ≤ (wr.alloc (.cells #[.int .u8 p.s0, .int .u8 p.s1, .int .u8 p.s2, .int .u8 p.s3] 167)).heap.size := by simp
                  obtain ⟨X3, hX3⟩ : ∃ X3, wr.alloc (.cells #[.int .u8 p.s0, .int .u8 p.s1, .int .u8 p.s2, .int .u8 p.s3] 167) = X3 := ⟨_, rfl⟩
                  rw [hX3] at xK6 xO xB xKq hsz ⊢
                  replace K6 := Lib.hid xK6
                  replace HO8 := Lib.hid xO
                  replace HBX := Lib.hid xB
                  have HS3 := Lib.hid hsz
                  have d0 := xKq.cellV (i := 0) (v := .int .u8 p.s0) rfl
                  have d1 := xKq.cellV (i := 1) (v := .int .u8 p.s1) rfl
                  have d2 := xKq.cellV (i := 2) (v := .int .u8 p.s2) rfl
                  have d3 := xKq.cellV (i := 3) (v := .int .u8 p.s3) rfl
                  have q7 := xK6.cellV (i := 7) (v := .slice A8 0 c8) rfl
                  clear xK6 xO xB xKq hsz hX3 c0 c1 c2 c3
                  go_wp2_with (at_builtin; refine wpList_append_own _ rfl _ _ 31 rfl wc.heap.size 103 j0 _ 4 32 Tryz.underlying31 hj0 hy0 hy1 hy2 rfl (by decide) (.slice A8 0 c8) 0 (rcs rs) rfl (HO8.out.alloc _) ⟨X3.heap.size, 0, none⟩ 1 1 [.int .i64 (p.s0 % 8), .int .i64 (p.s1 % 8), .int .i64 (p.s2 % 8), .int .i64 (p.s3 % 8)] rfl rfl (news_new _ [.int .i64 (p.s0 % 8), .int .i64 (p.s1 % 8), .int .i64 (p.s2 % 8), .int .i64 (p.s3 % 8)] _) (by simp [Value.oneCell']) (by simp only [maxLen]; omega) (by omega) (by have h1 := HSZ.out; have h2 := HS3.out; simp; omega) ?_; intro v' w4 hown' hgrow _; obtain ⟨A9, c9, rfl, _⟩ := own_form hown'; have HO9 := Lib.hid hown'; have b6 := (K6.out.alloc (.cells #[.int .i64 (p.s0 % 8), .int .i64 (p.s1 % 8), .int .i64 (p.s2 % 8), .int .i64 (p.s3 % 8)] 103)).grown hgrow (by intro e; have := own_ge HO8.out _ e.symm; have := HLG.out; omega); have HB9 := Lib.hid ((bal HBX.out (.cells #[.int .i64 (p.s0 % 8), .int .i64 (p.s1 % 8), .int .i64 (p.s2 % 8), .int .i64 (p.s3 % 8)] 103)).grown hgrow (bal HBX.out _).size (fun q e => by have h1 := own_ge HO8.out q e; have h2 := HBC.out.size; omega)); have HS9 := Lib.hid hgrow.size; have f6 := b6.frozen 7; have l6 := b6.lt; have q8 := b6.cellV (i := 7) (v := .slice A8 0 c8) rfl; have B6 := Lib.hid b6; clear hown' hgrow b6; go_step)
                  have hb10 := bset (p := ⟨g6, 7, none⟩) HB9.out HG6.out (.slice A9 1 c9)
                  have ho10 := own_far HO9.out (p := ⟨g6, 7, none⟩) (by show g6 < wc.heap.size; exact HLG.out) (.slice A9 1 c9)
                  have hs10 : wc.heap.size ≤ (w4.setCell ⟨g6, 7, none⟩ (.slice A9 1 c9)).heap.size := by have h1 := HSZ.out; have h2 := HS3.out; have h3 := HS9.out; simp at h3 ⊢; omega
                  go_roundw
                  case rel => exact ⟨1, _, rs ++ [⟨p.s0 % 8, p.s1 % 8, p.s2 % 8, p.s3 % 8⟩], by go_num, by omega, by simp [HRL.out], fun r hr => by
                      rcases List.mem_append.1 hr with h1 | h1
                      · exact HSM.out r h1
                      · obtain rfl := List.mem_singleton.1 h1
                        dsimp only
                        omega, B6.out.set_ 7 _, by rw [rcs_append, rcs_one]; exact ho10, hb10, hs10⟩
                  case measure => simp [intOf]
              · as_aux_lemma =>
                  have c0 := (K5.out.belowS HBX.out).cellV (i := 10) (v := .int .u8 p.s4) rfl
                  have c1 := (K5.out.belowS HBX.out).cellV (i := 11) (v := .int .u8 p.s5) rfl
                  have c2 := (K5.out.belowS HBX.out).cellV (i := 12) (v := .int .u8 p.s6) rfl
                  have c3 := (K5.out.belowS HBX.out).cellV (i := 13) (v := .int .u8 p.s7) rfl
                  have b9 := HPK.out.s
                  obtain ⟨y0, y1, y2, y3⟩ := b9.2
                  clear b9
                  go_upto_region 12 with fail
                  have xK6 := K6.out.alloc (.cells #[.int .u8 p.s4, .int .u8 p.s5, .int .u8 p.s6, .int .u8 p.s7] 167)
                  have xO := HO8.out.alloc (.cells #[.int .u8 p.s4, .int .u8 p.s5, .int .u8 p.s6, .int .u8 p.s7] 167)
                  have xB := bal HBX.out (.cells #[.int .u8 p.s4, .int .u8 p.s5, .int .u8 p.s6, .int .u8 p.s7] 167)
                  have xKq := Blk.new wr 167 #[.int .u8 p.s4, .int .u8 p.s5, .int .u8 p.s6, .int .u8 p.s7]
                  have hsz : wr.heap.size ≤ (wr.alloc (.cells #[.int .u8 p.s4, .int .u8 p.s5, .int .u8 p.s6, .int .u8 p.s7] 167)).heap.size := by simp
                  obtain ⟨X3, hX3⟩ : ∃ X3, wr.alloc (.cells #[.int .u8 p.s4, .int .u8 p.s5, .int .u8 p.s6, .int .u8 p.s7] 167) = X3 := ⟨_, rfl⟩
                  rw [hX3] at xK6 xO xB xKq hsz ⊢
                  replace K6 := Lib.hid xK6
                  replace HO8 := Lib.hid xO
                  replace HBX := Lib.hid xB
                  have HS3 := Lib.hid hsz
                  have d0 := xKq.cellV (i := 0) (v := .int .u8 p.s4) rfl
                  have d1 := xKq.cellV (i := 1) (v := .int .u8 p.s5) rfl
                  have d2 := xKq.cellV (i := 2) (v := .int .u8 p.s6) rfl
                  have d3 := xKq.cellV (i := 3) (v := .int .u8 p.s7) rfl
                  have q7 := xK6.cellV (i := 7) (v := .slice A8 1 c8) rfl
                  clear xK6 xO xB xKq hsz hX3 c0 c1 c2 c3
                  go_wp2_with (at_builtin; refine wpList_append_own _ rfl _ _ 31 rfl wc.heap.size 103 j0 _ 4 32 Tryz.underlying31 hj0 hy0 hy1 hy2 rfl (by decide) (.slice A8 1 c8) 1 (rcs rs) rfl (HO8.out.alloc _) ⟨X3.heap.size, 0, none⟩ 1 1 [.int .i64 (p.s4 % 8), .int .i64 (p.s5 % 8), .int .i64 (p.s6 % 8), .int .i64 (p.s7 % 8)] rfl rfl (news_new _ [.int .i64 (p.s4 % 8), .int .i64 (p.s5 % 8), .int .i64 (p.s6 % 8), .int .i64 (p.s7 % 8)] _) (by simp [Value.oneCell']) (by simp only [maxLen]; omega) (by omega) (by have h1 := HSZ.out; have h2 := HS3.out; simp; omega) ?_; intro v' w4 hown' hgrow _; obtain ⟨A9, c9, rfl, _⟩ := own_form hown'; have HO9 := Lib.hid hown'; have b6 := (K6.out.alloc (.cells #[.int .i64 (p.s4 % 8), .int .i64 (p.s5 % 8), .int .i64 (p.s6 % 8), .int .i64 (p.s7 % 8)] 103)).grown hgrow (by intro e; have := own_ge HO8.out _ e.symm; have := HLG.out; omega); have HB9 := Lib.hid ((bal HBX.out (.cells #[.int .i64 (p.s4 % 8), .int .i64 (p.s5 % 8), .int .i64 (p.s6 % 8), .int .i64 (p.s7 % 8)] 103)).grown hgrow (bal HBX.out _).size (fun q e => by have h1 := own_ge HO8.out q e; have h2 := HBC.out.size; omega)); have HS9 := Lib.hid hgrow.size; have f6 := b6.frozen 7; have l6 := b6.lt; have q8 := b6.cellV (i := 7) (v := .slice A8 1 c8) rfl; have B6 := Lib.hid b6; clear hown' hgrow b6; go_step)
                  have hb10 := bset (p := ⟨g6, 7, none⟩) HB9.out HG6.out (.slice A9 2 c9)
                  have ho10 := own_far HO9.out (p := ⟨g6, 7, none⟩) (by show g6 < wc.heap.size; exact HLG.out) (.slice A9 2 c9)
                  have hs10 : wc.heap.size ≤ (w4.setCell ⟨g6, 7, none⟩ (.slice A9 2 c9)).heap.size := by have h1 := HSZ.out; have h2 := HS3.out; have h3 := HS9.out; simp at h3 ⊢; omega
                  go_roundw
                  case rel => exact ⟨2, _, rs ++ [⟨p.s4 % 8, p.s5 % 8, p.s6 % 8, p.s7 % 8⟩], by go_num, by omega, by simp [HRL.out], fun r hr => by
                      rcases List.mem_append.1 hr with h1 | h1
                      · exact HSM.out r h1
                      · obtain rfl := List.mem_singleton.1 h1
                        dsimp only
                        omega, B6.out.set_ 7 _, by rw [rcs_append, rcs_one]; exact ho10, hb10, hs10⟩
                  case measure => simp [intOf]
            · obtain rfl : kk = 2 := by omega
              have HSH := Lib.hid (RdR.of_own HO8.out HRL.out)
              have HDW := Lib.hid (show DWok ⟨qP - 1, qX, qY, 1 + uW % 12, 1 + uH % 10, bM, true, A8, 2, c8, rs⟩ from ⟨by dsimp only; omega, by dsimp only; omega, by dsimp only; omega, by dsimp only; omega, (fun h => by cases h), (by have := HRL.out; dsimp only; omega), (fun r hr => by have h1 := HSM.out r hr; omega)⟩)
              have HFR := Lib.hid (show 0 < 2 → ∀ a, A8 = some a → (Value.slice Ao l.length co).ownBlock ≠ some a.block from fun _ a ha e => by
                have h1 := HAT.out.own.lt _ e
                have h2 := own_ge HO8.out a.block (by rw [ha]; rfl)
                have h3 := HBC.out.size
                omega)
              go_upto_region 13 with fail
              have e0 := K6.out.cellV (i := 0) (v := .int .i64 (qP - 1)) rfl
              have e1 := K6.out.cellV (i := 1) (v := .int .i64 qX) rfl
              have e2 := K6.out.cellV (i := 2) (v := .int .i64 qY) rfl
              have e3 := K6.out.cellV (i := 3) (v := .int .i64 (1 + uW % 12)) rfl
              have e4 := K6.out.cellV (i := 4) (v := .int .i64 (1 + uH % 10)) rfl
              have e5 := K6.out.cellV (i := 5) (v := .bool bM) rfl
              have e6 := K6.out.cellV (i := 6) (v := .bool true) rfl
              have e7 := K6.out.cellV (i := 7) (v := .slice A8 2 c8) rfl
              have HAW := Lib.hid (HAT.out.below HBX.out)
              have HOA := Lib.hid (HAW.out.own.alloc (.cells #[.int .i64 (qP - 1), .int .i64 qX, .int .i64 qY, .int .i64 (1 + uW % 12), .int .i64 (1 + uH % 10), .bool bM, .bool true, .slice A8 2 c8] 33))
              go_wp2_with (first | (refine wpList_recs rfl 29 33 1 _ rfl 8 _ i0 Tryz.underlying29 hi0 hz0 hz1 rfl (by decide) (by decide) (by decide) [.agg #[.int .i64 (qP - 1), .int .i64 qX, .int .i64 qY, .int .i64 (1 + uW % 12), .int .i64 (1 + uH % 10), .bool bM, .bool true, .slice A8 2 c8]] (by simp [Value.cells]) rfl rfl #[.int .i64 (qP - 1), .int .i64 qX, .int .i64 qY, .int .i64 (1 + uW % 12), .int .i64 (1 + uH % 10), .bool bM, .bool true, .slice A8 2 c8] rfl ?_) | (at_builtin; refine wpList_append_own_at _ rfl _ _ 29 rfl (w.heap.size + 1) 33 i0 _ 8 72 Tryz.underlying29 hi0 hz0 hz1 hz2 rfl (by decide) (.slice Ao l.length co) l.length (l.flatMap DW.cells) rfl HOA.out ⟨wr.heap.size, 0, none⟩ 1 1 [.int .i64 (qP - 1), .int .i64 qX, .int .i64 qY, .int .i64 (1 + uW % 12), .int .i64 (1 + uH % 10), .bool bM, .bool true, .slice A8 2 c8] rfl rfl (news_new _ [.int .i64 (qP - 1), .int .i64 qX, .int .i64 qY, .int .i64 (1 + uW % 12), .int .i64 (1 + uH % 10), .bool bM, .bool true, .slice A8 2 c8] _) (by simp [Value.oneCell']) (by have := HLK.out; simp only [maxLen]; omega) (by have := HLK.out; omega) (by have h1 := HBX.out.size; have h2 := HB2.out.size; have h3 := HS0.out; simp; omega) ?_; intro v' w4 hown' hgrow _ hat; have HOW9 := Lib.hid hown'; have HGR9 := Lib.hid hgrow; have HAT9 := Lib.hid hat; clear hown' hgrow hat))
              have h9 := (HAW.out.below (bal (bre wr) _)).snoc (d := ⟨qP - 1, qX, qY, 1 + uW % 12, 1 + uH % 10, bM, true, A8, 2, c8, rs⟩) HDW.out (by have := HLK.out; have h1 := HUP.out; dsimp only; omega) (HSH.out.below (bal (bre wr) _)) HFR.out HGR9.out HOW9.out HAT9.out
              have hb9 := ((bal (bstep HB2.out HBX.out) (.cells #[.int .i64 (qP - 1), .int .i64 qX, .int .i64 qY, .int .i64 (1 + uW % 12), .int .i64 (1 + uH % 10), .bool bM, .bool true, .slice A8 2 c8] 33)).grown HGR9.out (bal (bstep HB2.out HBX.out) _).size (fun q e => by have h1 := own_ge HAW.out.own q e; have h2 := HS0.out; omega))
              have hlk := HLK.out
              go_roundw
              case rel => exact ⟨k + 1, _, by go_num, by have := HK.out; omega, by simp [hlk], h9, hb9⟩
              case measure => simp [intOf]; omega
    · obtain rfl : k = n := by omega
      have k1 : ¬ (k : Int) < (k : Int) := by omega
      go_wp2_with fail
      go_ret
      exact ⟨.slice Ao l.length co, rfl, l, HLK.out, HAT.out, bstep HB.out HB2.out⟩
end Go.Proofs.YtdaedkolpfkdjaaGreat
end
