/-
  The walks of region.moved and region.Shift.
-/
import Derived.Test.YtdaedkolpfkdjaaGreatZT18
import Derived.Deep.DeepCutAuto
section
namespace Go.Proofs.YtdaedkolpfkdjaaGreat
open Go.RowKit Go.Maps Go.Shelf

def mvA (a d : Int) : Int := max (a + d) (-1048576)
def mvN (a n d : Int) : Int := min (a + d + n) 1048576 - max (a + d) (-1048576)
set_option maxRecDepth 100000 in
theorem moved_any (a n d : Int) (w : World) (ha : -1048576 ≤ a ∧ a ≤ 1048576) (hn : 0 ≤ n ∧ a + n ≤ 1048576) (hd : -2097152 ≤ d ∧ d ≤ 2097152) :
 Calls Tryz.prog 149 #[.int .i64 a, .int .i64 n, .int .i64 d] w fun e w' => e = .returned (.tuple #[.int .i64 (mvA a d), .int .i64 (mvN a n d)]) ∧ w = w' := by
 have h1 : (max (a + d) (-1048576) = a + d ∧ -1048576 ≤ a + d) ∨ (max (a + d) (-1048576) = -1048576 ∧ a + d < -1048576) := by omega
 have h2 : (min (a + d + n) 1048576 = a + d + n ∧ a + d + n ≤ 1048576) ∨ (min (a + d + n) 1048576 = 1048576 ∧ 1048576 < a + d + n) := by omega
 unfold mvA mvN
 rcases h1 with ⟨e1, h1⟩ | ⟨e1, h1⟩ <;> rcases h2 with ⟨e2, h2⟩ | ⟨e2, h2⟩ <;> rw [e1, e2]
 all_goals
  go_enter Tryz.func149, Tryz.ntmps149
  go_wp2_with fail
  go_ret2
  exact ⟨rfl, rfl⟩

/-- a new slice of one's own that reads as these rectangles. -/
def EndO (w : World) (n : Nat) (rs : List RC) (e : Ending) (w' : World) : Prop := ∃ A c, e = .returned (.slice A n c) ∧ w'.ownsRow w.heap.size 103 4 (.slice A n c) n (rcs rs) ∧ Below w.heap.size w w'

set_option maxRecDepth 100000 in
set_option maxHeartbeats 1000000 in
theorem cloneO_any (A : Option Addr) (n c : Nat) (rs : List RC) (w : World) (hn : n ≤ 1000000000000) (hr : RdR w A n rs) :
 Calls Tryz.prog 181 #[.slice A n c] w fun e w' => EndO w n rs e w' := by
 obtain ⟨i0, hi0, hz0, hz1, hz2⟩ := info_parts Tryz.infoR
 have qn : ∀ (w : World) (a : Option Addr) (n c n' c' : Nat), (binOp .eql 31 (.slice a n c) (.slice none n' c')).run Tryz.prog w = .ok (.bool a.isNone) w := fun w a n c n' c' => Lib.run_eql_slice_nil w _ _ a n c n' c' Tryz.underlying31
 have HR := Lib.hid hr
 clear hr
 cases A with
 | none =>
  obtain ⟨rfl, rfl⟩ := RdR_none HR.out rfl
  go_enter Tryz.func181, Tryz.ntmps181
  go_wp2_with fail
  go_ret
  exact ⟨none, 0, rfl, World.ownsRow_nil _ _ _ _, bre _⟩
 | some a =>
  go_enter Tryz.func181, Tryz.ntmps181
  have hown : (w.alloc (.cells #[] 103)).ownsRow w.heap.size 103 4 (.slice (some ⟨w.heap.size, 0, none⟩) 0 0) 0 (rcs []) := rcs_own (cs := []) (Nat.le_refl _) (Nat.le_refl _) (Nat.zero_le _) (Blk.new w _ _) rfl rfl rfl
  have HOWN := Lib.hid hown
  have hnews : ∀ j u, (rcs rs)[j]? = some u → (w.alloc (.cells #[] 103)).cell? (a.add j) = some u := fun j u hj => by
   have hl := (List.getElem?_eq_some_iff.1 hj).1
   rw [rcs_len, HR.out.1] at hl
   obtain ⟨b, off, e, hb, hc⟩ := HR.out.2 (by omega)
   injection e with e
   subst e
   have h1 := rcs_flat' rs off hc j u hj
   have h2 := (World.cell?_alloc_lt w (.cells #[] 103) ⟨b, off + j, none⟩ hb).trans h1
   unfold Addr.add
   split
   ·
    rename_i e0; subst e0; exact h2
   ·
    exact h2
  have HNEW := Lib.hid hnews
  have hrl : (rcs rs).length = n * 4 := by rw [rcs_len, HR.out.1]
  have HRL := Lib.hid hrl
  clear hown hnews hrl
  go_wp2_with (at_builtin; refine wpList_append_own _ rfl _ _ 31 rfl w.heap.size 103 i0 _ 4 32 Tryz.underlying31 hi0 hz0 hz1 hz2 rfl (by decide) _ _ _ rfl HOWN.out a n c (rcs rs) rfl HRL.out HNEW.out (rcs_one' rs) (by simp only [maxLen]; omega) (by omega) (by simp) ?_; intro v' w4 hown' hgrow _; have HO' := Lib.hid hown'; have HG := Lib.hid hgrow; clear hown' hgrow)
  have ho : w4.ownsRow w.heap.size 103 4 v' n (rcs rs) := by
   have := HO'.out
   rwa [Nat.zero_add, show rcs [] = [] from rfl, List.nil_append] at this
  have hB : Below w.heap.size w w4 := (bal (bre w) _).grown HG.out (by simp) (fun g e => by cases e; exact Nat.le_refl _)
  have hcm : ∃ A c, v' = .slice A n c ∧ n ≤ c ∧ c ≤ maxLen := by
   rcases ho.2 with ⟨rfl, rfl⟩ | ⟨g, cap, cur, rfl, _, _, hc, hm, _⟩
   ·
    exact ⟨_, _, rfl, Nat.le_refl _, Nat.zero_le _⟩
   ·
    exact ⟨_, _, rfl, hc, hm⟩
  obtain ⟨A', c', rfl, hc1, hc2⟩ := hcm
  go_ret
  exact ⟨A', c', rfl, ho, hB⟩


set_option maxRecDepth 100000 in
set_option maxHeartbeats 1000000 in
theorem rectsO_any (v : Value) (rs : List RC) (w : World) (hr : RegAt w v rs) :
 Calls Tryz.prog 148 #[v] w fun e w' => EndO w rs.length rs e w' := by
 obtain ⟨A, c, rfl, hr, _, hn, _⟩ := hr
 have HR := Lib.hid hr
 obtain ⟨n, hn'⟩ : ∃ n, rs.length = n := ⟨_, rfl⟩
 rw [hn'] at HR hn ⊢
 clear hr hn'
 go_enter Tryz.func148, Tryz.ntmps148
 go_wp2_with (go_at_call 181; refine (cloneO_any _ _ _ rs _ hn (HR.out.below (bal (bre w) _))).mono ?_; rintro e w1 ⟨A', c', rfl, hr1, hb1⟩; have HR1 := Lib.hid hr1; have HB1 := Lib.hid hb1; clear hr1 hb1)
 go_ret
 exact ⟨A', c', rfl, ownsRow_base HR1.out (by simp), bstep (bal (bre w) _) HB1.out⟩

/-- a rectangle farther on. -/
def mvR (dx dy : Int) (r : RC) : RC := ⟨mvA r.X dx, mvA r.Y dy, mvN r.X r.W dx, mvN r.Y r.H dy⟩
def mixR (dx dy : Int) (l : List RC) (k : Nat) : List RC := (l.take k).map (mvR dx dy) ++ l.drop k
theorem mixR_at (dx dy : Int) {l : List RC} {k : Nat} {r : RC} (h : l[k]? = some r) : (mixR dx dy l k)[k]? = some r := by
 have hk := (List.getElem?_eq_some_iff.1 h).1
 unfold mixR
 rw [List.getElem?_append_right (by simp; omega)]
 simp only [List.length_map, List.length_take, Nat.min_eq_left (Nat.le_of_lt hk), Nat.sub_self, List.getElem?_drop, Nat.add_zero]
 exact h
theorem mixR_set (dx dy : Int) {l : List RC} {k : Nat} {r q : RC} (h : l[k]? = some r) : ((mixR dx dy l k).set k q).set k (mvR dx dy r) = mixR dx dy l (k + 1) := by
 obtain ⟨hk, e⟩ := List.getElem?_eq_some_iff.1 h
 rw [List.set_set]
 unfold mixR
 rw [List.set_append_right _ _ (by simp; omega), List.take_add_one, h, List.map_append]
 simp only [List.length_map, List.length_take, Nat.min_eq_left (Nat.le_of_lt hk), Nat.sub_self, Option.toList_some, List.map_cons, List.map_nil, List.append_assoc, List.singleton_append]
 rw [List.drop_eq_getElem_cons hk]
 rfl
/-- where a rectangle's first and third number are written. -/
theorem rdR_putX {W : World} {g n k : Nat} {t : TypeId} {cs : Array Value} {l : List RC} {r : RC} (hB : Blk W g t cs) (hR : RdR W (some ⟨g, 0, none⟩) n l) (hk : l[k]? = some r) (x u : Int) : RdR ((W.setCell ⟨g, k * 4, none⟩ (.int .i64 x)).setCell ⟨g, k * 4 + 2, none⟩ (.int .i64 u)) (some ⟨g, 0, none⟩) n (l.set k ⟨x, r.Y, u, r.H⟩) := by
 have hB2 := (hB.set_ (k * 4) (.int .i64 x)).set_ (k * 4 + 2) (.int .i64 u)
 refine ⟨by rw [List.length_set]; exact hR.1, fun hn => ⟨g, 0, rfl, hB2.lt, fun i q hi => ?_⟩⟩
 obtain ⟨b, off, e, hb, hc⟩ := hR.2 hn
 cases e
 by_cases hik : k = i
 ·
  subst hik
  obtain ⟨c0, c1, c2, c3⟩ := hc k r hk
  rw [List.getElem?_set_self (List.getElem?_eq_some_iff.1 hk).1] at hi
  cases hi
  rw [Nat.zero_add, hB.cell] at c0 c1 c2 c3
  have s0 := (Array.getElem?_eq_some_iff.1 c0).1
  have s2 := (Array.getElem?_eq_some_iff.1 c2).1
  refine ⟨?_, ?_, ?_, ?_⟩ <;> rw [Nat.zero_add, hB2.cell] <;> simp only [Array.getElem?_setIfInBounds, Array.size_setIfInBounds]
  ·
   rw [if_neg (by omega), if_pos trivial, if_pos s0]
  ·
   rw [if_neg (by omega), if_neg (by omega)]; exact c1
  ·
   rw [if_pos trivial, if_pos s2]
  ·
   rw [if_neg (by omega), if_neg (by omega)]; exact c3
 ·
  rw [List.getElem?_set_ne hik] at hi
  obtain ⟨c0, c1, c2, c3⟩ := hc i q hi
  rw [Nat.zero_add, hB.cell] at c0 c1 c2 c3
  refine ⟨?_, ?_, ?_, ?_⟩ <;> rw [Nat.zero_add, hB2.cell] <;> simp only [Array.getElem?_setIfInBounds] <;> rw [if_neg (by omega), if_neg (by omega)] <;> assumption
/-- where its second and fourth number are written. -/
theorem rdR_putY {W : World} {g n k : Nat} {t : TypeId} {cs : Array Value} {l : List RC} {r : RC} (hB : Blk W g t cs) (hR : RdR W (some ⟨g, 0, none⟩) n l) (hk : l[k]? = some r) (y u : Int) : RdR ((W.setCell ⟨g, k * 4 + 1, none⟩ (.int .i64 y)).setCell ⟨g, k * 4 + 3, none⟩ (.int .i64 u)) (some ⟨g, 0, none⟩) n (l.set k ⟨r.X, y, r.W, u⟩) := by
 have hB2 := (hB.set_ (k * 4 + 1) (.int .i64 y)).set_ (k * 4 + 3) (.int .i64 u)
 refine ⟨by rw [List.length_set]; exact hR.1, fun hn => ⟨g, 0, rfl, hB2.lt, fun i q hi => ?_⟩⟩
 obtain ⟨b, off, e, hb, hc⟩ := hR.2 hn
 cases e
 by_cases hik : k = i
 ·
  subst hik
  obtain ⟨c0, c1, c2, c3⟩ := hc k r hk
  rw [List.getElem?_set_self (List.getElem?_eq_some_iff.1 hk).1] at hi
  cases hi
  rw [Nat.zero_add, hB.cell] at c0 c1 c2 c3
  have s1 := (Array.getElem?_eq_some_iff.1 c1).1
  have s3 := (Array.getElem?_eq_some_iff.1 c3).1
  refine ⟨?_, ?_, ?_, ?_⟩ <;> rw [Nat.zero_add, hB2.cell] <;> simp only [Array.getElem?_setIfInBounds, Array.size_setIfInBounds]
  ·
   rw [if_neg (by omega), if_neg (by omega)]; exact c0
  ·
   rw [if_neg (by omega), if_pos trivial, if_pos s1]
  ·
   rw [if_neg (by omega), if_neg (by omega)]; exact c2
  ·
   rw [if_pos trivial, if_pos s3]
 ·
  rw [List.getElem?_set_ne hik] at hi
  obtain ⟨c0, c1, c2, c3⟩ := hc i q hi
  rw [Nat.zero_add, hB.cell] at c0 c1 c2 c3
  refine ⟨?_, ?_, ?_, ?_⟩ <;> rw [Nat.zero_add, hB2.cell] <;> simp only [Array.getElem?_setIfInBounds] <;> rw [if_neg (by omega), if_neg (by omega)] <;> assumption
/-- an own slice: its block. -/
theorem ownR_blk {w : World} {B n c : Nat} {A : Option Addr} {xs : List Value} (h : w.ownsRow B 103 4 (.slice A n c) n xs) : ∀ a, A = some a → a.off = 0 ∧ a.spot = none ∧ B ≤ a.block ∧ ∃ cs, Blk w a.block 103 cs := fun a e => by
 rcases h.2 with ⟨e1, _⟩ | ⟨g, cap, cur, e1, hb, hg, _⟩
 ·
  injection e1 with e1
  rw [e1] at e
  cases e
 ·
  injection e1 with e1
  rw [e1] at e
  cases e
  exact ⟨rfl, rfl, hb, cur, hg⟩

set_option maxRecDepth 100000 in
set_option maxHeartbeats 8000000 in
theorem shift_any (v : Value) (l : List RC) (dx dy : Int) (w : World) (hr : RegAt w v l) (hx : -2097152 ≤ dx ∧ dx ≤ 2097152) (hy : -2097152 ≤ dy ∧ dy ≤ 2097152) (hn : l.length ≤ 100000) :
 Calls Tryz.prog 89 #[v, .int .i64 dx, .int .i64 dy] w fun e w' => ∃ v' out, e = .returned v' ∧ RegAt w' v' out ∧ (∀ x y, InR out x y ↔ InR ((l.map (mvR dx dy)).filter RC.cnt) x y) ∧ Below w.heap.size w w' := by
 have HRA := Lib.hid hr
 obtain ⟨A0, c0, rfl, _, _, _, hcn⟩ := hr
 have HCN := Lib.hid hcn
 obtain ⟨n, hnl⟩ : ∃ n, l.length = n := ⟨_, rfl⟩
 have HNL := Lib.hid hnl
 have hra := HRA.out
 rw [hnl] at hra hn ⊢
 have hba := bal (bal (bre w) (.cells #[.slice A0 n c0] 57)) (.cells #[.slice none 0 0] 57)
 have xK6 := blk_new2 w (.cells #[.slice A0 n c0] 57) 57 #[.slice none 0 0]
 have xRA := hra.below hba
 have e1 : ¬ dx < -2097152 := by omega
 have e2 : ¬ 2097152 < dx := by omega
 have e3 : ¬ dy < -2097152 := by omega
 have e4 : ¬ 2097152 < dy := by omega
 clear hra HRA hnl hcn
 go_enter Tryz.func89, Tryz.ntmps89
 go_wp2_with fail
 obtain ⟨Z, hZ⟩ : ∃ Z, (w.alloc (.cells #[.slice A0 n c0] 57)).alloc (.cells #[.slice none 0 0] 57) = Z := ⟨_, rfl⟩
 rw [hZ] at hba xK6 xRA ⊢
 have HBZ := Lib.hid hba
 have K6 := Lib.hid xK6
 have HRA := Lib.hid xRA
 have HZ := Lib.hid (show w.heap.size + 2 ≤ Z.heap.size by rw [← hZ]; simp)
 clear hba xK6 xRA hZ e1 e2 e3 e4
 refine (rectsO_any _ l _ HRA.out).mono ?_
 rintro e w1 ⟨A, cc, rfl, ho, hb1⟩
 rw [HNL.out] at ho ⊢
 have HO := Lib.hid ho
 have HB1 := Lib.hid hb1
 clear ho hb1
 go_wp2_with fail
 go_loopw [28, 8] (fun i _ wr => ∃ k : Nat, i = .int .i64 k ∧ k ≤ n ∧ RdR wr A n (mixR dx dy l k) ∧ (∀ a, A = some a → a.off = 0 ∧ a.spot = none ∧ Z.heap.size ≤ a.block ∧ ∃ cs, Blk wr a.block 103 cs) ∧ Below Z.heap.size Z wr) (fun i _ _ => n - (intOf i).toNat)
 case atStart => exact ⟨0, rfl, by omega, by simpa [mixR] using RdR.of_own HO.out HNL.out, ownR_blk HO.out, HB1.out⟩
 case round =>
  obtain ⟨k, rfl, hk, hrd, hbk, hB⟩ := hrel
  have HRD := Lib.hid hrd
  have HBK := Lib.hid hbk
  have HB := Lib.hid hB
  clear hrd hbk hB
  by_cases hlt : k < n
  ·
   as_aux_lemma =>
    obtain ⟨r, hx⟩ : ∃ r, l[k]? = some r := ⟨_, List.getElem?_eq_getElem (by rw [HNL.out]; exact hlt)⟩
    have HX := Lib.hid hx
    obtain ⟨bX, bY⟩ := cntI r (HCN.out r (List.mem_of_getElem? hx))
    obtain ⟨⟨g, o, st⟩, rfl⟩ : ∃ a, A = some a := by
     obtain ⟨b, off, e, _⟩ := HRD.out.2 (by omega)
     exact ⟨_, e⟩
    obtain ⟨h1, h2, hzg, cs, hcs⟩ := HBK.out _ rfl
    dsimp only at h1 h2 hzg hcs
    subst h1 h2
    have KB := Lib.hid hcs
    have HRK := Lib.hid (mixR_at dx dy hx)
    have k1 : (k : Int) < (n : Int) := by omega
    have k0 : (0 : Int) ≤ (k : Int) := by omega
    clear hcs hx
    go_upto_region 7 with fail
    go_cut [8] (fun s wx => s = .int .i64 (k : Int) ∧ RdR wx (some ⟨g, 0, none⟩) n ((mixR dx dy l k).set k ⟨mvA r.X dx, r.Y, mvN r.X r.W dx, r.H⟩) ∧ (∃ cs, Blk wx g 103 cs) ∧ Below Z.heap.size Z wx)
    case first =>
     obtain ⟨wX, hwX⟩ : ∃ wX : World, wX = wr := ⟨wr, rfl⟩
     subst hwX
     obtain ⟨rX, hrX⟩ : ∃ rX : RC, rX = r := ⟨r, rfl⟩
     subst hrX
     have RX := Lib.hid HRD.out
     refine wp_region_noPanic ?_
     refine wp_region_held_drew (S := fun _ => True) (by kernel_rfl) ?_ (fun hHeld => ?_)
     ·
      trivial
     obtain ⟨wd, hwd⟩ : ∃ wd, wX.drew = wd := ⟨_, rfl⟩
     have xB : Below wX.heap.size wX wd := by rw [← hwd]; exact (bre wX).drew
     rw [hwd]
     have HBD := Lib.hid xB
     have KD := Lib.hid (KB.out.belowS xB)
     have RD := Lib.hid (RX.out.below xB)
     clear xB hwd
     obtain ⟨bq, oq, eq, hbq, hcq⟩ := RD.out.2 (by omega)
     cases eq
     obtain ⟨q0, q1, q2, q3⟩ := hcq k rX HRK.out
     rw [Nat.zero_add] at q0 q1 q2 q3
     have qf := KD.out.frozen (k * 4)
     have ql := KD.out.lt
     clear hcq
     refine Tr.take_at 0 32 (.slice (some ⟨g, 0, none⟩) n cc) rfl rfl (by kernel_rfl) (by kernel_rfl) (by kernel_rfl) (fun _ _ _ h => h) (Or.inl ⟨by rfl, ?_⟩) (by assumption) ?_
     ·
      intro W0 hSw
      (try dsimp only at hSw)
      go_simp
     simp only [List.set_cons_zero, List.set_cons_succ]
     refine Tr.take_at 1 33 (.int .i64 (k : Int)) rfl rfl (by kernel_rfl) (by kernel_rfl) (by kernel_rfl) (fun _ _ _ h => h) (Or.inl ⟨by rfl, ?_⟩) (by assumption) ?_
     ·
      intro W0 hSw
      (try dsimp only at hSw)
      go_simp
     simp only [List.set_cons_zero, List.set_cons_succ]
     refine Tr.take_at 2 34 (.slice (some ⟨g, 0, none⟩) n cc) rfl rfl (by kernel_rfl) (by kernel_rfl) (by kernel_rfl) (fun _ _ _ h => h) (Or.inl ⟨by rfl, ?_⟩) (by assumption) ?_
     ·
      intro W0 hSw
      (try dsimp only at hSw)
      go_simp
     simp only [List.set_cons_zero, List.set_cons_succ]
     refine Tr.take_at 3 35 (.int .i64 (k : Int)) rfl rfl (by kernel_rfl) (by kernel_rfl) (by kernel_rfl) (fun _ _ _ h => h) (Or.inl ⟨by rfl, ?_⟩) (by assumption) ?_
     ·
      intro W0 hSw
      (try dsimp only at hSw)
      go_simp
     simp only [List.set_cons_zero, List.set_cons_succ]
     refine Tr.take_at 4 36 (.slice (some ⟨g, 0, none⟩) n cc) rfl rfl (by kernel_rfl) (by kernel_rfl) (by kernel_rfl) (fun _ _ _ h => h) (Or.inl ⟨by rfl, ?_⟩) (by assumption) ?_
     ·
      intro W0 hSw
      (try dsimp only at hSw)
      go_simp
     simp only [List.set_cons_zero, List.set_cons_succ]
     refine Tr.take_at 5 37 (.int .i64 (k : Int)) rfl rfl (by kernel_rfl) (by kernel_rfl) (by kernel_rfl) (fun _ _ _ h => h) (Or.inl ⟨by rfl, ?_⟩) (by assumption) ?_
     ·
      intro W0 hSw
      (try dsimp only at hSw)
      go_simp
     simp only [List.set_cons_zero, List.set_cons_succ]
     refine Tr.take_at 6 38 (.pointer (some ⟨g, k * 4, none⟩)) rfl rfl (by kernel_rfl) (by kernel_rfl) (by kernel_rfl) (fun _ _ _ h => h) (Or.inl ⟨by rfl, ?_⟩) (by assumption) ?_
     ·
      intro W0 hSw
      (try dsimp only at hSw)
      go_simp
     simp only [List.set_cons_zero, List.set_cons_succ]
     refine Tr.take_at 7 39 (.pointer (some ⟨g, k * 4, none⟩)) rfl rfl (by kernel_rfl) (by kernel_rfl) (by kernel_rfl) (fun _ _ _ h => h) (Or.inl ⟨by rfl, ?_⟩) (by assumption) ?_
     ·
      intro W0 hSw
      (try dsimp only at hSw)
      go_simp
     simp only [List.set_cons_zero, List.set_cons_succ]
     refine Tr.take_at 9 41 (.slice (some ⟨g, 0, none⟩) n cc) rfl rfl (by kernel_rfl) (by kernel_rfl) (by kernel_rfl) (fun _ _ _ h => h) (Or.inl ⟨by rfl, ?_⟩) (by assumption) ?_
     ·
      intro W0 hSw
      (try dsimp only at hSw)
      go_simp
     simp only [List.set_cons_zero, List.set_cons_succ]
     refine Tr.take_at 10 42 (.int .i64 (k : Int)) rfl rfl (by kernel_rfl) (by kernel_rfl) (by kernel_rfl) (fun _ _ _ h => h) (Or.inl ⟨by rfl, ?_⟩) (by assumption) ?_
     ·
      intro W0 hSw
      (try dsimp only at hSw)
      go_simp
     simp only [List.set_cons_zero, List.set_cons_succ]
     refine Tr.take_at 11 43 (.pointer (some ⟨g, k * 4, none⟩)) rfl rfl (by kernel_rfl) (by kernel_rfl) (by kernel_rfl) (fun _ _ _ h => h) (Or.inl ⟨by rfl, ?_⟩) (by assumption) ?_
     ·
      intro W0 hSw
      (try dsimp only at hSw)
      go_simp
     simp only [List.set_cons_zero, List.set_cons_succ]
     refine Tr.take_at 12 44 (.pointer (some ⟨g, k * 4 + 2, none⟩)) rfl rfl (by kernel_rfl) (by kernel_rfl) (by kernel_rfl) (fun _ _ _ h => h) (Or.inl ⟨by rfl, ?_⟩) (by assumption) ?_
     ·
      intro W0 hSw
      (try dsimp only at hSw)
      go_simp
     simp only [List.set_cons_zero, List.set_cons_succ]
     refine Tr.take_at 14 46 (.int .i64 dx) rfl rfl (by kernel_rfl) (by kernel_rfl) (by kernel_rfl) (fun _ _ _ h => h) (Or.inl ⟨by rfl, ?_⟩) (by assumption) ?_
     ·
      intro W0 hSw
      (try dsimp only at hSw)
      go_simp
     simp only [List.set_cons_zero, List.set_cons_succ]
     refine wpAnyH_ready (rs := [8, 13]) (by kernel_rfl) (by simp) ?_
     refine AllReadyH.cons rfl (fun K hK => ?_) (AllReadyH.cons rfl (fun K hK => ?_) AllReadyH.nil)
     ·
      go_simp
      refine hK.out _ _ ?_ (fun hHeld => ?_)
      ·
       (try dsimp only)
      clear hK K
      refine wpAnyH_ready (rs := [13]) (by kernel_rfl) (by simp) ?_
      refine AllReadyH.cons rfl (fun K hK => ?_) AllReadyH.nil
      go_simp
      refine hK.out _ _ ?_ (fun hHeld => ?_)
      ·
       (try dsimp only)
      clear hK K
      refine wpAnyH_ready (rs := [15]) (by kernel_rfl) (by simp) ?_
      refine AllReadyH.cons rfl (fun K hK => ?_) AllReadyH.nil
      go_simp
      refine (moved_any rX.X rX.W dx _ (by omega) (by omega) (by omega)).mono ?_
      rintro e wm ⟨rfl, rfl⟩
      go_simp
      refine hK.out _ _ ?_ (fun hHeld => ?_)
      ·
       (try dsimp only)
      clear hK K
      refine Tr.take_at 16 31 (.tuple #[.int .i64 (mvA rX.X dx), .int .i64 (mvN rX.X rX.W dx)]) rfl rfl (by kernel_rfl) (by kernel_rfl) (by kernel_rfl) (fun _ _ _ h => h) (Or.inl ⟨by rfl, ?_⟩) (by assumption) ?_
      ·
       intro W0 hSw
       (try dsimp only at hSw)
       go_simp
      simp only [List.set_cons_zero, List.set_cons_succ]
      refine Tr.take_at 17 48 (.int .i64 (mvA rX.X dx)) rfl rfl (by kernel_rfl) (by kernel_rfl) (by kernel_rfl) (fun _ _ _ h => h) (Or.inl ⟨by rfl, ?_⟩) (by assumption) ?_
      ·
       intro W0 hSw
       (try dsimp only at hSw)
       go_simp
      simp only [List.set_cons_zero, List.set_cons_succ]
      refine Tr.take_at 18 49 (.int .i64 (mvN rX.X rX.W dx)) rfl rfl (by kernel_rfl) (by kernel_rfl) (by kernel_rfl) (fun _ _ _ h => h) (Or.inl ⟨by rfl, ?_⟩) (by assumption) ?_
      ·
       intro W0 hSw
       (try dsimp only at hSw)
       go_simp
      simp only [List.set_cons_zero, List.set_cons_succ]
      refine Tr.take_at 19 50 (.pointer (some ⟨g, k * 4, none⟩)) rfl rfl (by kernel_rfl) (by kernel_rfl) (by kernel_rfl) (fun _ _ _ h => h) (Or.inl ⟨by rfl, ?_⟩) (by assumption) ?_
      ·
       intro W0 hSw
       (try dsimp only at hSw)
       go_simp
      simp only [List.set_cons_zero, List.set_cons_succ]
      refine Tr.take_at 20 51 (.pointer (some ⟨g, k * 4, none⟩)) rfl rfl (by kernel_rfl) (by kernel_rfl) (by kernel_rfl) (fun _ _ _ h => h) (Or.inl ⟨by rfl, ?_⟩) (by assumption) ?_
      ·
       intro W0 hSw
       (try dsimp only at hSw)
       go_simp
      simp only [List.set_cons_zero, List.set_cons_succ]
      refine wpAnyH_ready (rs := [21]) (by kernel_rfl) (by simp) ?_
      refine AllReadyH.cons rfl (fun K hK => ?_) AllReadyH.nil
      go_simp
      refine hK.out _ _ ?_ (fun hHeld => ?_)
      ·
       (try dsimp only)
      clear hK K
      have xB1 := KD.out.set_ (k * 4) (.int .i64 (mvA rX.X dx))
      obtain ⟨W1, hW1⟩ : ∃ W1, wd.setCell ⟨g, k * 4, none⟩ (.int .i64 (mvA rX.X dx)) = W1 := ⟨_, rfl⟩
      rw [hW1] at xB1 ⊢
      have c9 : W1.cell? ⟨g, k * 4 + 2, none⟩ = some (.int .i64 rX.W) := by
       rw [← hW1]
       exact (World.cell?_setCell_other wd ⟨g, k * 4, none⟩ ⟨g, k * 4 + 2, none⟩ _ (fun e' => by injection e' with _ e'; omega)).trans (by assumption)
      have f9 := xB1.frozen (k * 4 + 2)
      have l9 := xB1.lt
      refine Tr.take_at 22 52 (.pointer (some ⟨g, k * 4, none⟩)) rfl rfl (by kernel_rfl) (by kernel_rfl) (by kernel_rfl) (fun _ _ _ h => h) (Or.inl ⟨by rfl, ?_⟩) (by assumption) ?_
      ·
       intro W0 hSw
       (try dsimp only at hSw)
       go_simp
      simp only [List.set_cons_zero, List.set_cons_succ]
      refine Tr.take_at 23 53 (.pointer (some ⟨g, k * 4 + 2, none⟩)) rfl rfl (by kernel_rfl) (by kernel_rfl) (by kernel_rfl) (fun _ _ _ h => h) (Or.inl ⟨by rfl, ?_⟩) (by assumption) ?_
      ·
       intro W0 hSw
       (try dsimp only at hSw)
       go_simp
      simp only [List.set_cons_zero, List.set_cons_succ]
      refine wpAnyH_ready (rs := [24]) (by kernel_rfl) (by simp) ?_
      refine AllReadyH.cons rfl (fun K hK => ?_) AllReadyH.nil
      go_simp
      refine hK.out _ _ ?_ (fun hHeld => ?_)
      ·
       (try dsimp only)
      clear hK K
      refine wpAnyH_done (by kernel_rfl) ?_ _
      refine NoPanic.normal ?_
      subst hW1
      go_wp2_with fail
      go_meet
      exact ⟨rfl, rdR_putX KD.out RD.out HRK.out _ _, ⟨_, (KD.out.set_ _ _).set_ _ _⟩, bset (p := ⟨g, k * 4 + 2, none⟩) (bset (p := ⟨g, k * 4, none⟩) (bstep HB.out HBD.out) hzg _) hzg _⟩
     ·
      go_simp
      refine hK.out _ _ ?_ (fun hHeld => ?_)
      ·
       (try dsimp only)
      clear hK K
      refine wpAnyH_ready (rs := [8]) (by kernel_rfl) (by simp) ?_
      refine AllReadyH.cons rfl (fun K hK => ?_) AllReadyH.nil
      go_simp
      refine hK.out _ _ ?_ (fun hHeld => ?_)
      ·
       (try dsimp only)
      clear hK K
      refine wpAnyH_ready (rs := [15]) (by kernel_rfl) (by simp) ?_
      refine AllReadyH.cons rfl (fun K hK => ?_) AllReadyH.nil
      go_simp
      refine (moved_any rX.X rX.W dx _ (by omega) (by omega) (by omega)).mono ?_
      rintro e wm ⟨rfl, rfl⟩
      go_simp
      refine hK.out _ _ ?_ (fun hHeld => ?_)
      ·
       (try dsimp only)
      clear hK K
      refine Tr.take_at 16 31 (.tuple #[.int .i64 (mvA rX.X dx), .int .i64 (mvN rX.X rX.W dx)]) rfl rfl (by kernel_rfl) (by kernel_rfl) (by kernel_rfl) (fun _ _ _ h => h) (Or.inl ⟨by rfl, ?_⟩) (by assumption) ?_
      ·
       intro W0 hSw
       (try dsimp only at hSw)
       go_simp
      simp only [List.set_cons_zero, List.set_cons_succ]
      refine Tr.take_at 17 48 (.int .i64 (mvA rX.X dx)) rfl rfl (by kernel_rfl) (by kernel_rfl) (by kernel_rfl) (fun _ _ _ h => h) (Or.inl ⟨by rfl, ?_⟩) (by assumption) ?_
      ·
       intro W0 hSw
       (try dsimp only at hSw)
       go_simp
      simp only [List.set_cons_zero, List.set_cons_succ]
      refine Tr.take_at 18 49 (.int .i64 (mvN rX.X rX.W dx)) rfl rfl (by kernel_rfl) (by kernel_rfl) (by kernel_rfl) (fun _ _ _ h => h) (Or.inl ⟨by rfl, ?_⟩) (by assumption) ?_
      ·
       intro W0 hSw
       (try dsimp only at hSw)
       go_simp
      simp only [List.set_cons_zero, List.set_cons_succ]
      refine Tr.take_at 19 50 (.pointer (some ⟨g, k * 4, none⟩)) rfl rfl (by kernel_rfl) (by kernel_rfl) (by kernel_rfl) (fun _ _ _ h => h) (Or.inl ⟨by rfl, ?_⟩) (by assumption) ?_
      ·
       intro W0 hSw
       (try dsimp only at hSw)
       go_simp
      simp only [List.set_cons_zero, List.set_cons_succ]
      refine Tr.take_at 20 51 (.pointer (some ⟨g, k * 4, none⟩)) rfl rfl (by kernel_rfl) (by kernel_rfl) (by kernel_rfl) (fun _ _ _ h => h) (Or.inl ⟨by rfl, ?_⟩) (by assumption) ?_
      ·
       intro W0 hSw
       (try dsimp only at hSw)
       go_simp
      simp only [List.set_cons_zero, List.set_cons_succ]
      refine wpAnyH_ready (rs := [21]) (by kernel_rfl) (by simp) ?_
      refine AllReadyH.cons rfl (fun K hK => ?_) AllReadyH.nil
      go_simp
      refine hK.out _ _ ?_ (fun hHeld => ?_)
      ·
       (try dsimp only)
      clear hK K
      have xB1 := KD.out.set_ (k * 4) (.int .i64 (mvA rX.X dx))
      obtain ⟨W1, hW1⟩ : ∃ W1, wd.setCell ⟨g, k * 4, none⟩ (.int .i64 (mvA rX.X dx)) = W1 := ⟨_, rfl⟩
      rw [hW1] at xB1 ⊢
      have c9 : W1.cell? ⟨g, k * 4 + 2, none⟩ = some (.int .i64 rX.W) := by
       rw [← hW1]
       exact (World.cell?_setCell_other wd ⟨g, k * 4, none⟩ ⟨g, k * 4 + 2, none⟩ _ (fun e' => by injection e' with _ e'; omega)).trans (by assumption)
      have f9 := xB1.frozen (k * 4 + 2)
      have l9 := xB1.lt
      refine Tr.take_at 22 52 (.pointer (some ⟨g, k * 4, none⟩)) rfl rfl (by kernel_rfl) (by kernel_rfl) (by kernel_rfl) (fun _ _ _ h => h) (Or.inl ⟨by rfl, ?_⟩) (by assumption) ?_
      ·
       intro W0 hSw
       (try dsimp only at hSw)
       go_simp
      simp only [List.set_cons_zero, List.set_cons_succ]
      refine Tr.take_at 23 53 (.pointer (some ⟨g, k * 4 + 2, none⟩)) rfl rfl (by kernel_rfl) (by kernel_rfl) (by kernel_rfl) (fun _ _ _ h => h) (Or.inl ⟨by rfl, ?_⟩) (by assumption) ?_
      ·
       intro W0 hSw
       (try dsimp only at hSw)
       go_simp
      simp only [List.set_cons_zero, List.set_cons_succ]
      refine wpAnyH_ready (rs := [24]) (by kernel_rfl) (by simp) ?_
      refine AllReadyH.cons rfl (fun K hK => ?_) AllReadyH.nil
      go_simp
      refine hK.out _ _ ?_ (fun hHeld => ?_)
      ·
       (try dsimp only)
      clear hK K
      refine wpAnyH_done (by kernel_rfl) ?_ _
      refine NoPanic.normal ?_
      subst hW1
      go_wp2_with fail
      go_meet
      exact ⟨rfl, rdR_putX KD.out RD.out HRK.out _ _, ⟨_, (KD.out.set_ _ _).set_ _ _⟩, bset (p := ⟨g, k * 4 + 2, none⟩) (bset (p := ⟨g, k * 4, none⟩) (bstep HB.out HBD.out) hzg _) hzg _⟩
    case rest =>
     obtain ⟨rfl, hrx, ⟨csx, hcx⟩, hbx⟩ := hcut
     have KB := Lib.hid hcx
     have RX := Lib.hid hrx
     have HBX := Lib.hid hbx
     have hlen := HRD.out.1
     obtain ⟨rX, hrX⟩ : ∃ rX : RC, (⟨mvA r.X dx, r.Y, mvN r.X r.W dx, r.H⟩ : RC) = rX := ⟨_, rfl⟩
     have hrk : ((mixR dx dy l k).set k ⟨mvA r.X dx, r.Y, mvN r.X r.W dx, r.H⟩)[k]? = some rX := by rw [List.getElem?_set_self (by omega), hrX]
     have HRK := Lib.hid hrk
     have hmm := mixR_set dx dy (q := ⟨mvA r.X dx, r.Y, mvN r.X r.W dx, r.H⟩) HX.out
     have hmv : (⟨rX.X, mvA rX.Y dy, rX.W, mvN rX.Y rX.H dy⟩ : RC) = mvR dx dy r := by rw [← hrX]; rfl
     have HMM := Lib.hid hmm
     have HMV := Lib.hid hmv
     have yY : -1048576 ≤ rX.Y ∧ 0 < rX.H ∧ rX.Y + rX.H ≤ 1048576 := by rw [← hrX]; exact bY
     clear hcx hrx hbx hrk hmm hmv hlen hrX
     obtain ⟨wX, hwX⟩ : ∃ wX : World, wX = wc := ⟨wc, rfl⟩
     subst hwX
     go_upto_region 8 with fail
     refine wp_region_noPanic ?_
     refine wp_region_held_drew (S := fun _ => True) (by kernel_rfl) ?_ (fun hHeld => ?_)
     ·
      trivial
     obtain ⟨wd, hwd⟩ : ∃ wd, wX.drew = wd := ⟨_, rfl⟩
     have xB : Below wX.heap.size wX wd := by rw [← hwd]; exact (bre wX).drew
     rw [hwd]
     have HBD := Lib.hid xB
     have KD := Lib.hid (KB.out.belowS xB)
     have RD := Lib.hid (RX.out.below xB)
     clear xB hwd
     obtain ⟨bq, oq, eq, hbq, hcq⟩ := RD.out.2 (by omega)
     cases eq
     obtain ⟨q0, q1, q2, q3⟩ := hcq k rX HRK.out
     rw [Nat.zero_add] at q0 q1 q2 q3
     have qf := KD.out.frozen (k * 4 + 1)
     have ql := KD.out.lt
     clear hcq
     refine Tr.take_at 0 55 (.slice (some ⟨g, 0, none⟩) n cc) rfl rfl (by kernel_rfl) (by kernel_rfl) (by kernel_rfl) (fun _ _ _ h => h) (Or.inl ⟨by rfl, ?_⟩) (by assumption) ?_
     ·
      intro W0 hSw
      (try dsimp only at hSw)
      go_simp
     simp only [List.set_cons_zero, List.set_cons_succ]
     refine Tr.take_at 1 56 (.int .i64 (k : Int)) rfl rfl (by kernel_rfl) (by kernel_rfl) (by kernel_rfl) (fun _ _ _ h => h) (Or.inl ⟨by rfl, ?_⟩) (by assumption) ?_
     ·
      intro W0 hSw
      (try dsimp only at hSw)
      go_simp
     simp only [List.set_cons_zero, List.set_cons_succ]
     refine Tr.take_at 2 57 (.slice (some ⟨g, 0, none⟩) n cc) rfl rfl (by kernel_rfl) (by kernel_rfl) (by kernel_rfl) (fun _ _ _ h => h) (Or.inl ⟨by rfl, ?_⟩) (by assumption) ?_
     ·
      intro W0 hSw
      (try dsimp only at hSw)
      go_simp
     simp only [List.set_cons_zero, List.set_cons_succ]
     refine Tr.take_at 3 58 (.int .i64 (k : Int)) rfl rfl (by kernel_rfl) (by kernel_rfl) (by kernel_rfl) (fun _ _ _ h => h) (Or.inl ⟨by rfl, ?_⟩) (by assumption) ?_
     ·
      intro W0 hSw
      (try dsimp only at hSw)
      go_simp
     simp only [List.set_cons_zero, List.set_cons_succ]
     refine Tr.take_at 4 59 (.slice (some ⟨g, 0, none⟩) n cc) rfl rfl (by kernel_rfl) (by kernel_rfl) (by kernel_rfl) (fun _ _ _ h => h) (Or.inl ⟨by rfl, ?_⟩) (by assumption) ?_
     ·
      intro W0 hSw
      (try dsimp only at hSw)
      go_simp
     simp only [List.set_cons_zero, List.set_cons_succ]
     refine Tr.take_at 5 60 (.int .i64 (k : Int)) rfl rfl (by kernel_rfl) (by kernel_rfl) (by kernel_rfl) (fun _ _ _ h => h) (Or.inl ⟨by rfl, ?_⟩) (by assumption) ?_
     ·
      intro W0 hSw
      (try dsimp only at hSw)
      go_simp
     simp only [List.set_cons_zero, List.set_cons_succ]
     refine Tr.take_at 6 61 (.pointer (some ⟨g, k * 4, none⟩)) rfl rfl (by kernel_rfl) (by kernel_rfl) (by kernel_rfl) (fun _ _ _ h => h) (Or.inl ⟨by rfl, ?_⟩) (by assumption) ?_
     ·
      intro W0 hSw
      (try dsimp only at hSw)
      go_simp
     simp only [List.set_cons_zero, List.set_cons_succ]
     refine Tr.take_at 7 62 (.pointer (some ⟨g, k * 4 + 1, none⟩)) rfl rfl (by kernel_rfl) (by kernel_rfl) (by kernel_rfl) (fun _ _ _ h => h) (Or.inl ⟨by rfl, ?_⟩) (by assumption) ?_
     ·
      intro W0 hSw
      (try dsimp only at hSw)
      go_simp
     simp only [List.set_cons_zero, List.set_cons_succ]
     refine Tr.take_at 9 64 (.slice (some ⟨g, 0, none⟩) n cc) rfl rfl (by kernel_rfl) (by kernel_rfl) (by kernel_rfl) (fun _ _ _ h => h) (Or.inl ⟨by rfl, ?_⟩) (by assumption) ?_
     ·
      intro W0 hSw
      (try dsimp only at hSw)
      go_simp
     simp only [List.set_cons_zero, List.set_cons_succ]
     refine Tr.take_at 10 65 (.int .i64 (k : Int)) rfl rfl (by kernel_rfl) (by kernel_rfl) (by kernel_rfl) (fun _ _ _ h => h) (Or.inl ⟨by rfl, ?_⟩) (by assumption) ?_
     ·
      intro W0 hSw
      (try dsimp only at hSw)
      go_simp
     simp only [List.set_cons_zero, List.set_cons_succ]
     refine Tr.take_at 11 66 (.pointer (some ⟨g, k * 4, none⟩)) rfl rfl (by kernel_rfl) (by kernel_rfl) (by kernel_rfl) (fun _ _ _ h => h) (Or.inl ⟨by rfl, ?_⟩) (by assumption) ?_
     ·
      intro W0 hSw
      (try dsimp only at hSw)
      go_simp
     simp only [List.set_cons_zero, List.set_cons_succ]
     refine Tr.take_at 12 67 (.pointer (some ⟨g, k * 4 + 3, none⟩)) rfl rfl (by kernel_rfl) (by kernel_rfl) (by kernel_rfl) (fun _ _ _ h => h) (Or.inl ⟨by rfl, ?_⟩) (by assumption) ?_
     ·
      intro W0 hSw
      (try dsimp only at hSw)
      go_simp
     simp only [List.set_cons_zero, List.set_cons_succ]
     refine Tr.take_at 14 69 (.int .i64 dy) rfl rfl (by kernel_rfl) (by kernel_rfl) (by kernel_rfl) (fun _ _ _ h => h) (Or.inl ⟨by rfl, ?_⟩) (by assumption) ?_
     ·
      intro W0 hSw
      (try dsimp only at hSw)
      go_simp
     simp only [List.set_cons_zero, List.set_cons_succ]
     refine wpAnyH_ready (rs := [8, 13]) (by kernel_rfl) (by simp) ?_
     refine AllReadyH.cons rfl (fun K hK => ?_) (AllReadyH.cons rfl (fun K hK => ?_) AllReadyH.nil)
     ·
      go_simp
      refine hK.out _ _ ?_ (fun hHeld => ?_)
      ·
       (try dsimp only)
      clear hK K
      refine wpAnyH_ready (rs := [13]) (by kernel_rfl) (by simp) ?_
      refine AllReadyH.cons rfl (fun K hK => ?_) AllReadyH.nil
      go_simp
      refine hK.out _ _ ?_ (fun hHeld => ?_)
      ·
       (try dsimp only)
      clear hK K
      refine wpAnyH_ready (rs := [15]) (by kernel_rfl) (by simp) ?_
      refine AllReadyH.cons rfl (fun K hK => ?_) AllReadyH.nil
      go_simp
      refine (moved_any rX.Y rX.H dy _ (by omega) (by omega) (by omega)).mono ?_
      rintro e wm ⟨rfl, rfl⟩
      go_simp
      refine hK.out _ _ ?_ (fun hHeld => ?_)
      ·
       (try dsimp only)
      clear hK K
      refine Tr.take_at 16 54 (.tuple #[.int .i64 (mvA rX.Y dy), .int .i64 (mvN rX.Y rX.H dy)]) rfl rfl (by kernel_rfl) (by kernel_rfl) (by kernel_rfl) (fun _ _ _ h => h) (Or.inl ⟨by rfl, ?_⟩) (by assumption) ?_
      ·
       intro W0 hSw
       (try dsimp only at hSw)
       go_simp
      simp only [List.set_cons_zero, List.set_cons_succ]
      refine Tr.take_at 17 71 (.int .i64 (mvA rX.Y dy)) rfl rfl (by kernel_rfl) (by kernel_rfl) (by kernel_rfl) (fun _ _ _ h => h) (Or.inl ⟨by rfl, ?_⟩) (by assumption) ?_
      ·
       intro W0 hSw
       (try dsimp only at hSw)
       go_simp
      simp only [List.set_cons_zero, List.set_cons_succ]
      refine Tr.take_at 18 72 (.int .i64 (mvN rX.Y rX.H dy)) rfl rfl (by kernel_rfl) (by kernel_rfl) (by kernel_rfl) (fun _ _ _ h => h) (Or.inl ⟨by rfl, ?_⟩) (by assumption) ?_
      ·
       intro W0 hSw
       (try dsimp only at hSw)
       go_simp
      simp only [List.set_cons_zero, List.set_cons_succ]
      refine Tr.take_at 19 73 (.pointer (some ⟨g, k * 4, none⟩)) rfl rfl (by kernel_rfl) (by kernel_rfl) (by kernel_rfl) (fun _ _ _ h => h) (Or.inl ⟨by rfl, ?_⟩) (by assumption) ?_
      ·
       intro W0 hSw
       (try dsimp only at hSw)
       go_simp
      simp only [List.set_cons_zero, List.set_cons_succ]
      refine Tr.take_at 20 74 (.pointer (some ⟨g, k * 4 + 1, none⟩)) rfl rfl (by kernel_rfl) (by kernel_rfl) (by kernel_rfl) (fun _ _ _ h => h) (Or.inl ⟨by rfl, ?_⟩) (by assumption) ?_
      ·
       intro W0 hSw
       (try dsimp only at hSw)
       go_simp
      simp only [List.set_cons_zero, List.set_cons_succ]
      refine wpAnyH_ready (rs := [21]) (by kernel_rfl) (by simp) ?_
      refine AllReadyH.cons rfl (fun K hK => ?_) AllReadyH.nil
      go_simp
      refine hK.out _ _ ?_ (fun hHeld => ?_)
      ·
       (try dsimp only)
      clear hK K
      have xB1 := KD.out.set_ (k * 4 + 1) (.int .i64 (mvA rX.Y dy))
      obtain ⟨W1, hW1⟩ : ∃ W1, wd.setCell ⟨g, k * 4 + 1, none⟩ (.int .i64 (mvA rX.Y dy)) = W1 := ⟨_, rfl⟩
      rw [hW1] at xB1 ⊢
      have c9 : W1.cell? ⟨g, k * 4 + 3, none⟩ = some (.int .i64 rX.H) := by
       rw [← hW1]
       exact (World.cell?_setCell_other wd ⟨g, k * 4 + 1, none⟩ ⟨g, k * 4 + 3, none⟩ _ (fun e' => by injection e' with _ e'; omega)).trans (by assumption)
      have f9 := xB1.frozen (k * 4 + 3)
      have l9 := xB1.lt
      refine Tr.take_at 22 75 (.pointer (some ⟨g, k * 4, none⟩)) rfl rfl (by kernel_rfl) (by kernel_rfl) (by kernel_rfl) (fun _ _ _ h => h) (Or.inl ⟨by rfl, ?_⟩) (by assumption) ?_
      ·
       intro W0 hSw
       (try dsimp only at hSw)
       go_simp
      simp only [List.set_cons_zero, List.set_cons_succ]
      refine Tr.take_at 23 76 (.pointer (some ⟨g, k * 4 + 3, none⟩)) rfl rfl (by kernel_rfl) (by kernel_rfl) (by kernel_rfl) (fun _ _ _ h => h) (Or.inl ⟨by rfl, ?_⟩) (by assumption) ?_
      ·
       intro W0 hSw
       (try dsimp only at hSw)
       go_simp
      simp only [List.set_cons_zero, List.set_cons_succ]
      refine wpAnyH_ready (rs := [24]) (by kernel_rfl) (by simp) ?_
      refine AllReadyH.cons rfl (fun K hK => ?_) AllReadyH.nil
      go_simp
      refine hK.out _ _ ?_ (fun hHeld => ?_)
      ·
       (try dsimp only)
      clear hK K
      refine wpAnyH_done (by kernel_rfl) ?_ _
      refine NoPanic.normal ?_
      subst hW1
      go_wp2_with fail
      go_roundw
      case rel =>
       have hq := rdR_putY KD.out RD.out HRK.out (mvA rX.Y dy) (mvN rX.Y rX.H dy)
       rw [HMV.out, HMM.out] at hq
       exact ⟨k + 1, by go_num, by omega, hq, fun a e => by cases e; exact ⟨rfl, rfl, hzg, _, (KD.out.set_ _ _).set_ _ _⟩, bset (p := ⟨g, k * 4 + 3, none⟩) (bset (p := ⟨g, k * 4 + 1, none⟩) (bstep HBX.out HBD.out) hzg _) hzg _⟩
      case measure => simp [intOf]; omega
     ·
      go_simp
      refine hK.out _ _ ?_ (fun hHeld => ?_)
      ·
       (try dsimp only)
      clear hK K
      refine wpAnyH_ready (rs := [8]) (by kernel_rfl) (by simp) ?_
      refine AllReadyH.cons rfl (fun K hK => ?_) AllReadyH.nil
      go_simp
      refine hK.out _ _ ?_ (fun hHeld => ?_)
      ·
       (try dsimp only)
      clear hK K
      refine wpAnyH_ready (rs := [15]) (by kernel_rfl) (by simp) ?_
      refine AllReadyH.cons rfl (fun K hK => ?_) AllReadyH.nil
      go_simp
      refine (moved_any rX.Y rX.H dy _ (by omega) (by omega) (by omega)).mono ?_
      rintro e wm ⟨rfl, rfl⟩
      go_simp
      refine hK.out _ _ ?_ (fun hHeld => ?_)
      ·
       (try dsimp only)
      clear hK K
      refine Tr.take_at 16 54 (.tuple #[.int .i64 (mvA rX.Y dy), .int .i64 (mvN rX.Y rX.H dy)]) rfl rfl (by kernel_rfl) (by kernel_rfl) (by kernel_rfl) (fun _ _ _ h => h) (Or.inl ⟨by rfl, ?_⟩) (by assumption) ?_
      ·
       intro W0 hSw
       (try dsimp only at hSw)
       go_simp
      simp only [List.set_cons_zero, List.set_cons_succ]
      refine Tr.take_at 17 71 (.int .i64 (mvA rX.Y dy)) rfl rfl (by kernel_rfl) (by kernel_rfl) (by kernel_rfl) (fun _ _ _ h => h) (Or.inl ⟨by rfl, ?_⟩) (by assumption) ?_
      ·
       intro W0 hSw
       (try dsimp only at hSw)
       go_simp
      simp only [List.set_cons_zero, List.set_cons_succ]
      refine Tr.take_at 18 72 (.int .i64 (mvN rX.Y rX.H dy)) rfl rfl (by kernel_rfl) (by kernel_rfl) (by kernel_rfl) (fun _ _ _ h => h) (Or.inl ⟨by rfl, ?_⟩) (by assumption) ?_
      ·
       intro W0 hSw
       (try dsimp only at hSw)
       go_simp
      simp only [List.set_cons_zero, List.set_cons_succ]
      refine Tr.take_at 19 73 (.pointer (some ⟨g, k * 4, none⟩)) rfl rfl (by kernel_rfl) (by kernel_rfl) (by kernel_rfl) (fun _ _ _ h => h) (Or.inl ⟨by rfl, ?_⟩) (by assumption) ?_
      ·
       intro W0 hSw
       (try dsimp only at hSw)
       go_simp
      simp only [List.set_cons_zero, List.set_cons_succ]
      refine Tr.take_at 20 74 (.pointer (some ⟨g, k * 4 + 1, none⟩)) rfl rfl (by kernel_rfl) (by kernel_rfl) (by kernel_rfl) (fun _ _ _ h => h) (Or.inl ⟨by rfl, ?_⟩) (by assumption) ?_
      ·
       intro W0 hSw
       (try dsimp only at hSw)
       go_simp
      simp only [List.set_cons_zero, List.set_cons_succ]
      refine wpAnyH_ready (rs := [21]) (by kernel_rfl) (by simp) ?_
      refine AllReadyH.cons rfl (fun K hK => ?_) AllReadyH.nil
      go_simp
      refine hK.out _ _ ?_ (fun hHeld => ?_)
      ·
       (try dsimp only)
      clear hK K
      have xB1 := KD.out.set_ (k * 4 + 1) (.int .i64 (mvA rX.Y dy))
      obtain ⟨W1, hW1⟩ : ∃ W1, wd.setCell ⟨g, k * 4 + 1, none⟩ (.int .i64 (mvA rX.Y dy)) = W1 := ⟨_, rfl⟩
      rw [hW1] at xB1 ⊢
      have c9 : W1.cell? ⟨g, k * 4 + 3, none⟩ = some (.int .i64 rX.H) := by
       rw [← hW1]
       exact (World.cell?_setCell_other wd ⟨g, k * 4 + 1, none⟩ ⟨g, k * 4 + 3, none⟩ _ (fun e' => by injection e' with _ e'; omega)).trans (by assumption)
      have f9 := xB1.frozen (k * 4 + 3)
      have l9 := xB1.lt
      refine Tr.take_at 22 75 (.pointer (some ⟨g, k * 4, none⟩)) rfl rfl (by kernel_rfl) (by kernel_rfl) (by kernel_rfl) (fun _ _ _ h => h) (Or.inl ⟨by rfl, ?_⟩) (by assumption) ?_
      ·
       intro W0 hSw
       (try dsimp only at hSw)
       go_simp
      simp only [List.set_cons_zero, List.set_cons_succ]
      refine Tr.take_at 23 76 (.pointer (some ⟨g, k * 4 + 3, none⟩)) rfl rfl (by kernel_rfl) (by kernel_rfl) (by kernel_rfl) (fun _ _ _ h => h) (Or.inl ⟨by rfl, ?_⟩) (by assumption) ?_
      ·
       intro W0 hSw
       (try dsimp only at hSw)
       go_simp
      simp only [List.set_cons_zero, List.set_cons_succ]
      refine wpAnyH_ready (rs := [24]) (by kernel_rfl) (by simp) ?_
      refine AllReadyH.cons rfl (fun K hK => ?_) AllReadyH.nil
      go_simp
      refine hK.out _ _ ?_ (fun hHeld => ?_)
      ·
       (try dsimp only)
      clear hK K
      refine wpAnyH_done (by kernel_rfl) ?_ _
      refine NoPanic.normal ?_
      subst hW1
      go_wp2_with fail
      go_roundw
      case rel =>
       have hq := rdR_putY KD.out RD.out HRK.out (mvA rX.Y dy) (mvN rX.Y rX.H dy)
       rw [HMV.out, HMM.out] at hq
       exact ⟨k + 1, by go_num, by omega, hq, fun a e => by cases e; exact ⟨rfl, rfl, hzg, _, (KD.out.set_ _ _).set_ _ _⟩, bset (p := ⟨g, k * 4 + 3, none⟩) (bset (p := ⟨g, k * 4 + 1, none⟩) (bstep HBX.out HBD.out) hzg _) hzg _⟩
      case measure => simp [intOf]; omega
  ·
   as_aux_lemma =>
    obtain rfl : k = n := by omega
    have k1 : ¬ (k : Int) < (k : Int) := by omega
    have hmx : mixR dx dy l k = l.map (mvR dx dy) := by
     unfold mixR
     rw [List.take_of_length_le (by rw [HNL.out]; exact Nat.le_refl _), List.drop_of_length_le (by rw [HNL.out]; exact Nat.le_refl _), List.append_nil]
    have hrd := HRD.out
    rw [hmx] at hrd
    have HRD := Lib.hid hrd
    have HBR := Lib.hid (bstep HBZ.out HB.out)
    have HK6 := Lib.hid (K6.out.below HB.out (by have := HZ.out; omega))
    clear hrd hmx
    go_wp2_with fail
    refine (of_any A k cc (l.map (mvR dx dy)) _ hn HRD.out (fun r hr => by
     obtain ⟨q, hq, rfl⟩ := List.mem_map.1 hr
     obtain ⟨bX, bY⟩ := cntI q (HCN.out q hq)
     unfold mvR mvA
     dsimp only
     omega)).mono ?_
    rintro e w5 ⟨out, A', c', rfl, hr5, hc5, hi5, hl5, hb5⟩
    have b5 := HK6.out.belowS hb5
    have HR5 := Lib.hid hr5
    have HC5 := Lib.hid hc5
    have HI5 := Lib.hid hi5
    have HL5 := Lib.hid hl5
    have HB5 := Lib.hid (bstep HBR.out hb5)
    have q0 := b5.cellV (i := 0) (v := .slice none 0 0) rfl
    have f0 := b5.frozen 0
    have l5 := b5.lt
    have K5 := Lib.hid b5
    clear hb5 b5 hr5 hc5 hi5 hl5
    go_wp2_with fail
    have hb9 := K5.out.set_ 0 (.slice A' out.length c')
    have r0 := hb9.cellV (i := 0) (v := .slice A' out.length c') rfl
    have hra : RegAt w5 (.agg #[.slice A' out.length c']) out := ⟨A', c', rfl, HR5.out, HC5.out, HL5.out, canon_cnt (al := (l.map (mvR dx dy)).filter RC.cnt) (fun r hr => (List.mem_filter.1 hr).2) HC5.out (fun x y h => (HI5.out x y).1 h)⟩
    exact bodyPost_ret (v := .agg #[.slice A' out.length c']) (by simp [results, Tryz.results89, go_sem, r0]) rfl ⟨_, out, rfl, hra.farS K5.out _, HI5.out, bset (p := ⟨w.heap.size + 1, 0, none⟩) HB5.out (by show w.heap.size ≤ w.heap.size + 1; omega) _⟩

  end Go.Proofs.YtdaedkolpfkdjaaGreat
end
