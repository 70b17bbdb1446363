/-
  The walk of view.Of's inner function: what shows of a window and of all below it.
-/
import Derived.Test.YtdaedkolpfkdjaaGreatZT20
import Derived.Sort.CutIn
import Derived.Deep.MidRow
section
namespace Go.Proofs.YtdaedkolpfkdjaaGreat
open Go.RowKit Go.Maps Go.Shelf

attribute [local go_sem] Oper.semAt_some
set_option maxRecDepth 1000000 in
set_option maxHeartbeats 8000000 in
theorem hand_step {wB w0 : World} {bp bt bh bv mv : Nat} {mp mk mu : Option Nat} {n nk : Nat} {fk : Int → Option Value} {ns : Nodes} {bs : Bxs} {bx : Int → Option VB} {RW RH : Int}
 (C : VCtx wB w0 bp bt bh bv mv mp mk mu n nk fk ns bs bx RW RH) (f : Nat)
 (ih : ∀ (id : Int) (v1 v2 : Value) (pl lf : List RC) (es : List (Int × Places)) (x : World), (belowAt ns id).length ≤ f → es.length + f * 1100000 ≤ 10000000000000 → hasN ns id = true → orgOk ns bs id = true → RegAt x v1 pl → RegAt x v2 lf → InRoot RW RH pl → InRoot RW RH lf → HandAt w0 mv ns bs es x →
  Calls Tryz.prog 86 #[.int .u32 id, v1, v2, .pointer (some ⟨bp, 0, none⟩), .pointer (some ⟨bt, 0, none⟩), .pointer (some ⟨bh, 0, none⟩), .pointer (some ⟨bv, 0, none⟩)] x fun e x' => e = .returned (.tuple #[]) ∧ HandAt w0 mv ns bs (es ++ handF ns bx (f) id (inB pl) (inB lf)) x' ∧ x.grownBy x' (some mv))
 (id : Int) (v1 v2 : Value) (pl lf : List RC) (es : List (Int × Places)) (x : World) (hlen : (belowAt ns id).length ≤ f + 1) (hfw : es.length + (f + 1) * 1100000 ≤ 10000000000000) (hh : hasN ns id = true) (ho : orgOk ns bs id = true) (h1 : RegAt x v1 pl) (h2 : RegAt x v2 lf) (hp1 : InRoot RW RH pl) (hp2 : InRoot RW RH lf) (hat : HandAt w0 mv ns bs es x) :
  Calls Tryz.prog 86 #[.int .u32 id, v1, v2, .pointer (some ⟨bp, 0, none⟩), .pointer (some ⟨bt, 0, none⟩), .pointer (some ⟨bh, 0, none⟩), .pointer (some ⟨bv, 0, none⟩)] x fun e x' => e = .returned (.tuple #[]) ∧ HandAt w0 mv ns bs (es ++ handF ns bx (f + 1) id (inB pl) (inB lf)) x' ∧ x.grownBy x' (some mv) := by
 have IH := Lib.hid ih
 have HC := Lib.hid C
 have HL := Lib.hid hlen
 have HFW := Lib.hid hfw
 have HH := Lib.hid hh
 have HO := Lib.hid ho
 have HP1 := Lib.hid hp1
 have HP2 := Lib.hid hp2
 have hid : 0 ≤ id ∧ id ≤ 4294967295 := by
  rcases hasN_iff.1 hh with e | ⟨p, hp⟩
  ·
   rw [e]; omega
  ·
   exact (C.tree.ok _ (upOf_some hp)).1
 have HQ1 := h1
 have HQ2 := h2
 obtain ⟨A1, c1, rfl, _⟩ := h1
 obtain ⟨A2, c2, rfl, _⟩ := h2
 obtain ⟨n1, hn1⟩ : ∃ n1, pl.length = n1 := ⟨_, rfl⟩
 obtain ⟨n2, hn2⟩ : ∃ n2, lf.length = n2 := ⟨_, rfl⟩
 rw [hn1] at HQ1 ⊢
 rw [hn2] at HQ2 ⊢
 have HN2 := Lib.hid hn2
 have hba := bal (bal (bre x) (.cells #[.slice A1 n1 c1] 57)) (.cells #[.slice A2 n2 c2] 57)
 have xHAT := hat.below hba
 have xHR1 := HQ1.below hba
 have xHR2 := HQ2.below hba
 have xK3 := (C.k3.grown hat.grown (fun e => C.n3 (Option.some.inj e))).belowS hba
 have xK4 := (C.k4.grown hat.grown (fun e => C.n4 (Option.some.inj e))).belowS hba
 have xK5 := (C.k5.grown hat.grown (fun e => C.n5 (Option.some.inj e))).belowS hba
 have xK6 := (C.k6.grown hat.grown (fun e => C.n6 (Option.some.inj e))).belowS hba
 have xK8 := (Blk.new x 57 #[.slice A1 n1 c1]).alloc (.cells #[.slice A2 n2 c2] 57)
 have xK9 := blk_new2 x (.cells #[.slice A1 n1 c1] 57) 57 #[.slice A2 n2 c2]
 have HS0 := Lib.hid hat.grown.size
 have HG0 := Lib.hid hat.grown
 clear ih hlen hh ho hp1 hp2 HQ1 HQ2 C hat hn1 hn2
 refine (callsIn_wide (n := 5)).1 ?_
 refine callsIn_of_wp_marks Tryz.func86 rfl trivial ?_ rfl
 simp only [Tryz.ntmps86, List.size_toArray, List.length_cons, List.length_nil, Nat.reduceAdd, Nat.reduceSub, Array.replicate_succ, Array.replicate_zero, List.push_toArray, List.append_toArray, List.nil_append, List.cons_append]
 refine wpIn_wide.2 ?_
 go_upto_region 1 with fail
 obtain ⟨X2, hX2⟩ : ∃ X2, (x.alloc (.cells #[.slice A1 n1 c1] 57)).alloc (.cells #[.slice A2 n2 c2] 57) = X2 := ⟨_, rfl⟩
 have LX2 := Lib.hid (show x.heap.size + 1 < X2.heap.size by rw [← hX2]; simp)
 rw [hX2] at hba xHAT xHR1 xHR2 xK3 xK4 xK5 xK6 xK8 xK9 ⊢
 have HBX := Lib.hid hba
 have HAT := Lib.hid xHAT
 have HR1 := Lib.hid xHR1
 have HR2 := Lib.hid xHR2
 have K3 := Lib.hid xK3
 have K4 := Lib.hid xK4
 have K5 := Lib.hid xK5
 have K6 := Lib.hid xK6
 have K8 := Lib.hid xK8
 have K9 := Lib.hid xK9
 clear hba hX2 xHAT xHR1 xHR2 xK3 xK4 xK5 xK6 xK8 xK9
 have HWB := Lib.hid (HC.out.at_ HAT.out.grown)
 have d3 := K3.out.cellV (i := 0) (v := .map mp) rfl
 have d4 := K4.out.cellV (i := 0) (v := .map mk) rfl
 have d5 := K4.out.cellV (i := 1) (v := .map mu) rfl
 go_wp2_with fail
 refine (origin_any (.agg #[.map mp]) (.agg #[.map mk, .map mu]) n bs ns mk mu nk fk id _ hid (HC.out.place.below HWB.out) (HC.out.tree.below HWB.out) HC.out.tok HC.out.nearb).mono ?_
 rintro e w1 ⟨rfl, hb1⟩
 rw [HO.out]
 obtain ⟨ox, hox⟩ : ∃ ox, orgX ns bs id = ox := ⟨_, rfl⟩
 obtain ⟨oy, hoy⟩ : ∃ oy, orgY ns bs id = oy := ⟨_, rfl⟩
 rw [hox, hoy]
 have HOX := Lib.hid hox
 have HOY := Lib.hid hoy
 clear hox hoy d3 d4 d5 HWB
 have HLX := Lib.hid hb1.size
 replace HBX := Lib.hid (bstep HBX.out hb1)
 replace HAT := Lib.hid (HAT.out.below hb1)
 replace HR1 := Lib.hid (HR1.out.below hb1)
 replace HR2 := Lib.hid (HR2.out.below hb1)
 replace K3 := Lib.hid (K3.out.belowS hb1)
 replace K4 := Lib.hid (K4.out.belowS hb1)
 replace K5 := Lib.hid (K5.out.belowS hb1)
 replace K6 := Lib.hid (K6.out.belowS hb1)
 replace K8 := Lib.hid (K8.out.belowS hb1)
 replace K9 := Lib.hid (K9.out.belowS hb1)
 clear hb1
 go_upto_region 2 with fail
 have hba : Below w1.heap.size w1 (w1.alloc (.cells #[.int .i64 ox, .int .i64 oy] 179)) := bal (bre w1) _
 have xHBX := bstep HBX.out hba
 have xHAT := HAT.out.below hba
 have xHR1 := HR1.out.below hba
 have xHR2 := HR2.out.below hba
 have xK3 := K3.out.belowS hba
 have xK4 := K4.out.belowS hba
 have xK5 := K5.out.belowS hba
 have xK6 := K6.out.belowS hba
 have xK8 := K8.out.belowS hba
 have xK9 := K9.out.belowS hba
 have xK10 := Blk.new w1 179 #[.int .i64 ox, .int .i64 oy]
 have xLK10 : w1.heap.size < (w1.alloc (.cells #[.int .i64 ox, .int .i64 oy] 179)).heap.size := by rw [World.size_alloc]; omega
 obtain ⟨X3, hX3⟩ : ∃ X3, w1.alloc (.cells #[.int .i64 ox, .int .i64 oy] 179) = X3 := ⟨_, rfl⟩
 rw [hX3] at xHBX xHAT xHR1 xHR2 xK3 xK4 xK5 xK6 xK8 xK9 xK10 xLK10 ⊢
 replace HBX := Lib.hid xHBX
 replace HAT := Lib.hid xHAT
 replace HR1 := Lib.hid xHR1
 replace HR2 := Lib.hid xHR2
 replace K3 := Lib.hid xK3
 replace K4 := Lib.hid xK4
 replace K5 := Lib.hid xK5
 replace K6 := Lib.hid xK6
 replace K8 := Lib.hid xK8
 replace K9 := Lib.hid xK9
 have K10 := Lib.hid xK10
 have LK10 := Lib.hid xLK10
 clear hba hX3 xHBX xHAT xHR1 xHR2 xK3 xK4 xK5 xK6 xK8 xK9 xK10 xLK10
 have HWB := Lib.hid (HC.out.at_ HAT.out.grown)
 have d4 := K4.out.cellV (i := 0) (v := .map mk) rfl
 have d5 := K4.out.cellV (i := 1) (v := .map mu) rfl
 go_wp2_with fail
 refine (kids_any _ ns mk mu nk fk id _ hid (HC.out.tree.below HWB.out)).mono ?_
 rintro e w3 ⟨u, rfl, hou, hb3⟩
 obtain ⟨Ak, ck, rfl, hck⟩ := own_form hou
 have hrk := Rd.of_own hou
 have HAK := Lib.hid (show ∀ a, Ak = some a → X3.heap.size ≤ a.block ∧ a.block < w3.heap.size from fun a e => by subst e; exact hou.lt a.block rfl)
 have HSX3 := Lib.hid hb3.size
 have hkl := kids_len (HC.out.tree.few) id
 obtain ⟨m, hm⟩ : ∃ m, (kidsOf ns id).length = m := ⟨_, rfl⟩
 rw [hm] at hrk hck hkl ⊢
 have HRK := Lib.hid hrk
 have HM := Lib.hid hm
 clear hou hrk hm d4 d5 HWB
 replace HBX := Lib.hid (bstep HBX.out hb3)
 replace HAT := Lib.hid (HAT.out.below hb3)
 replace HR1 := Lib.hid (HR1.out.below hb3)
 replace HR2 := Lib.hid (HR2.out.below hb3)
 replace K3 := Lib.hid (K3.out.belowS hb3)
 replace K4 := Lib.hid (K4.out.belowS hb3)
 replace K5 := Lib.hid (K5.out.belowS hb3)
 replace K6 := Lib.hid (K6.out.belowS hb3)
 replace K8 := Lib.hid (K8.out.belowS hb3)
 replace K9 := Lib.hid (K9.out.belowS hb3)
 replace K10 := Lib.hid (K10.out.belowS hb3)
 clear hb3
 go_wp2_with fail
 refine (backward_any Ak m ck _).mono ?_
 rintro e w4 ⟨rfl, hw4⟩
 have hba : Below w3.heap.size w3 w4 := by rw [hw4]; exact bal (bre w3) _
 have xK13 : Blk w4 w3.heap.size 43 #[.slice Ak m ck] := by rw [hw4]; exact Blk.new w3 _ _
 have LK13 := Lib.hid (show w4.heap.size = w3.heap.size + 1 by rw [hw4]; simp)
 have K13 := Lib.hid xK13
 have HL13 := Lib.hid (show x.heap.size ≤ w3.heap.size from HBX.out.size)
 replace HBX := Lib.hid (bstep HBX.out hba)
 replace HAT := Lib.hid (HAT.out.below hba)
 replace HR1 := Lib.hid (HR1.out.below hba)
 replace HR2 := Lib.hid (HR2.out.below hba)
 replace K3 := Lib.hid (K3.out.belowS hba)
 replace K4 := Lib.hid (K4.out.belowS hba)
 replace K5 := Lib.hid (K5.out.belowS hba)
 replace K6 := Lib.hid (K6.out.belowS hba)
 replace K8 := Lib.hid (K8.out.belowS hba)
 replace K9 := Lib.hid (K9.out.belowS hba)
 replace K10 := Lib.hid (K10.out.belowS hba)
 replace HRK := Lib.hid (HRK.out.below hba)
 clear hba hw4 xK13
 go_wp2_with fail
 have HKB4 := Lib.hid (show ∀ b, rowP w3.heap.size Ak b → b < w4.heap.size ∧ b ≠ mv ∧ b ≠ x.heap.size + 1 from fun b hb => by
  have h1 := HAT.out.lt
  have h2 := HS0.out
  have h3 := LX2.out
  have h4 := LK13.out
  have h5 := HL13.out
  have h6 := LK10.out
  have h7 := HSX3.out
  have h8 := HLX.out
  rcases hb with rfl | ⟨a, e, rfl⟩
  ·
   omega
  ·
   have := HAK.out a e
   omega)
 have HST := Lib.hid (back1_stops 4 (by omega) w3.heap.size m ck Ak (kidsOf ns id) w4 (by omega) (K13.out.cellV (i := 0) rfl) HRK.out)
 have HL10 := Lib.hid (show w1.heap.size < w4.heap.size ∧ x.heap.size + 1 < w1.heap.size by have := LX2.out; have := HLX.out; have := LK10.out; have := HSX3.out; have := LK13.out; omega)
 have HL9 := Lib.hid (show x.heap.size + 1 < w4.heap.size by have := LX2.out; have := HLX.out; have := LK10.out; have := HSX3.out; have := LK13.out; omega)
 have HS4 := Lib.hid (show w0.heap.size ≤ w4.heap.size from HAT.out.grown.size)
 refine wpIn_wide (n := 5) |>.1 ?_
 refine wpIn_rangeFunc_ownH rfl (by omega) (gf := 147) (lb := #[.pointer (some ⟨w3.heap.size, 0, none⟩)]) rfl trivial (enters_of Tryz.func147 (by kernel_rfl) rfl)
  HST.out KeepS.trans (fun W l o o' hl _ _ _ => KeepS.putObj (fun b hb => (HKB4.out b hb).1) hl) (Below.refl _ _) (fun _ => rfl)
  (fun pre W' => HandAt w0 mv ns bs (es ++ (foldS ns bx f id (inB pl) (inB lf) pre).1) W' ∧ LeftAt RW RH W' (x.heap.size + 1) (foldS ns bx f id (inB pl) (inB lf) pre).2 ∧ KeepS (fun b => b < w4.heap.size ∧ b ≠ mv ∧ b ≠ x.heap.size + 1) w4 W')
  (fun _ _ _ => False)
  (fun pre X' Y' row hs hg hr => ⟨hs.1.keepRow hg (fun r e => ⟨Nat.le_trans HS4.out (hr r e).1, fun ob ho => by obtain ⟨_, o', h1, h2⟩ := hr r e; rw [h1] at ho; cases ho; exact h2⟩), hs.2.1.keepRow hg (fun r e => ⟨by have := (hr r e).1; have := LX2.out; have := HL9.out; omega, fun ob ho => by obtain ⟨_, o', h1, h2⟩ := hr r e; rw [h1] at ho; cases ho; exact h2⟩), hs.2.2.stepG (fun b hb => ⟨hb.1, fun e => by have := (hr b e.symm).1; omega⟩) hg⟩)
  (fun _ _ _ _ _ hs _ _ => hs)
  ⟨by simpa [foldS] using HAT.out, ⟨lf, A2, c2, by rw [HN2.out]; exact K9.out, by rw [HN2.out]; exact HR2.out, HP2.out, fun _ _ => rfl⟩, KeepS.refl _ _⟩
  (fun p a' _ => a' = { tmps := #[.int .u32 id, .agg #[.slice A1 n1 c1], .agg #[.slice A2 n2 c2], .pointer (some ⟨bp, 0, none⟩), .pointer (some ⟨bt, 0, none⟩), .pointer (some ⟨bh, 0, none⟩), .pointer (some ⟨bv, 0, none⟩), undef, .pointer (some ⟨x.heap.size, 0, none⟩), .pointer (some ⟨x.heap.size + 1, 0, none⟩), .pointer (some ⟨w1.heap.size, 0, none⟩), .bool true, .slice Ak m ck, undef, .int .u32 ((kidsOf ns id).getD p.val 0), undef, undef, undef, .tuple #[.agg #[.int .i64 ox, .int .i64 oy], .bool true], .agg #[.map mp], .agg #[.map mk, .map mu], .int .u32 id, .tuple #[.agg #[.int .i64 ox, .int .i64 oy], .bool true], .agg #[.int .i64 ox, .int .i64 oy], .bool true, .agg #[.map mk, .map mu], .int .u32 id, .slice Ak m ck, .slice Ak m ck, .func (.func 147) #[] #[.pointer (some ⟨w3.heap.size, 0, none⟩)], .int .i64 (p.val : Int), .int .u32 ((kidsOf ns id).getD p.val 0), undef, undef, undef, undef, undef, undef, undef, undef, undef, undef, undef, undef, undef, undef, undef, undef, undef, undef, undef, undef, undef, undef, undef, undef, undef, undef, undef, undef, undef, undef, undef, undef, undef, undef, undef, undef, undef, undef, undef, undef, undef, undef, undef, undef, undef, undef], defers := [] })
  (fun _ _ _ _ _ _ hs _ _ => hs)
  ?assign ?body ?done ?stop
 case assign =>
  rintro l pre p W K hI hK
  obtain ⟨kid, hkid⟩ : ∃ kid, (kidsOf ns id).getD p.val 0 = kid := ⟨_, rfl⟩
  dsimp only at hK ⊢
  rw [hkid] at hK ⊢
  gi_wp2_with fail
  exact hK _ _ (KeepsFrom.refl _ _) (KeepS.refl _ _) hI rfl
 case stop =>
  rintro D c pre W _ _ h _
  exact h.elim
 case done =>
  rintro D ys W hD hS ⟨hat, hleft, hks⟩ hK
  subst hS
  have hsl := foldS_len (bx := bx) HC.out.tok (f := f) (P := inB pl) (L := inB lf) HM.out (revF m)
  have hmul : (revF m).length * (ns.length + 1) ≤ 1000 * 1001 := Nat.mul_le_mul (by rw [revF_len]; exact hkl) (by have := HC.out.tree.few; omega)
  rw [foldS_all HM.out] at hat hleft hsl
  obtain ⟨s, hs⟩ : ∃ s, (kidsOf ns id).reverse.foldl (stepK bx (handF ns bx f) (orgN ns bx id) (inB pl)) ([], inB lf) = s := ⟨_, rfl⟩
  rw [hs] at hat hleft hsl
  have HSLN := Lib.hid (show (es ++ s.1).length ≤ 10000000000000 by rw [List.length_append]; have := HFW.out; omega)
  clear hsl hmul
  obtain ⟨ll, Al, cl, hkl9, hrl, hil, hpl⟩ := hleft
  obtain ⟨nl, hnl⟩ : ∃ nl, ll.length = nl := ⟨_, rfl⟩
  rw [hnl] at hkl9 hrl
  have K6w := HC.out.k6.grown hat.grown (fun e => HC.out.n6 (Option.some.inj e))
  have K10w := hks.blk K10.out ⟨by have := HL10.out; omega, by have := HL10.out; have := hat.lt; have := HS0.out; omega, by have := HL10.out; omega⟩
  have v1 := K6w.cellV (i := 1) (v := .map (some mv)) rfl
  have o0 := K10w.cellV (i := 0) (v := .int .i64 ox) rfl
  have o1 := K10w.cellV (i := 1) (v := .int .i64 oy) rfl
  have l0 := hkl9.cellV (i := 0) (v := .slice Al nl cl) rfl
  have HAT9 := Lib.hid hat
  obtain ⟨nm, fm, hnm, hmm, hf1, hf2⟩ := hat.map
  have HMM := Lib.hid hmm
  have HF := Lib.hid (And.intro hf1 hf2)
  have HNM := Lib.hid hnm
  have HRL := Lib.hid hrl
  have HPL := Lib.hid hpl
  have HSS := Lib.hid hs
  have HNL := Lib.hid hnl
  have HWF := Lib.hid (u32_wf hid)
  have HKS := Lib.hid hks
  have HKK := Lib.hid hK
  have HDD := Lib.hid hD
  clear hat hmm hf1 hf2 hnm hrl hpl hs hnl hks hK K6w K10w hkl9 hil hD
  go_wp2_with (at_mapUpdate; refine map_put rfl _ _ _ 50 rfl 48 188 .u32 Tryz.underlying48 Tryz.underlying50 mv nm fm rfl HMM.out (by have := HNM.out; have := HSLN.out; simp only [maxLen]; omega) id (shV ox oy Al nl cl) rfl rfl HWF.out ?_; intro w7 hm7 hg7; have HM7 := Lib.hid hm7; have HG7 := Lib.hid hg7; clear hm7 hg7)
  have hlt9 := HAT9.out.lt
  have hD4 := HDD.out
  have hS4 := HS4.out
  have hKw := HKK.out
  have hK7 := (HG7.out.block D (Array.getElem?_eq_some_iff.1 hKw).1 (fun e => by cases e; omega)).trans hKw
  have hy : MapIs Tryz.prog 48 .u32 w7 mv (if (fm id).isSome then nm else nm + 1) (fun j => if j = id then some (shV (orgX ns bs id) (orgY ns bs id) Al ll.length cl) else fm j) := by
   rw [HOX.out, HOY.out, HNL.out]
   exact HM7.out
  have hfin := HAT9.out.put (P := s.2) HNM.out HMM.out HF.out (by rw [HNL.out]; exact HRL.out) HPL.out hy HG7.out
  have e9 : es ++ handF ns bx (f + 1) id (inB pl) (inB lf) = (es ++ s.1) ++ [(id, s.2)] := by
   unfold handF
   rw [HSS.out, List.append_assoc]
  refine ⟨by simp, .inl ⟨_, _, rfl, run_takeDeferred hK7, ?_⟩⟩
  refine ⟨_, results_none rfl _ _ _, rfl, ?_, ?_⟩
  ·
   rw [e9]
   exact hfin.keepRow (grownBy_putObj' w7 D _) (fun r e => by
    cases e
    exact ⟨by omega, fun ob ho => by rw [hK7] at ho; cases ho; rfl⟩)
  ·
   have hg9 := (hfin.grown).andThen (grownBy_putObj' w7 D (.deferred none)) (fun j hj => .inl (by cases hj; omega))
   have hg0 := HG0.out
   have hks := HKS.out
   have hbx := HBX.out
   have hxs := hbx.size
   refine ⟨hg9.os.trans hg0.os.symm, hg9.tape.trans hg0.tape.symm, hg9.output.trans hg0.output.symm, ?_, fun i hi hne => ?_⟩
   ·
    have h1 := hks.size
    have h2 := HG7.out.size
    have h3 := (grownBy_putObj' w7 D (.deferred none)).size
    omega
   ·
    have hne2 : i ≠ mv := fun e => hne (by rw [e])
    have h1 := hbx.block i hi
    have h2 := hks.block i ⟨by omega, hne2, by omega⟩
    have h3 := HG7.out.block i (by have := hks.size; omega) (fun e => hne2 (Option.some.inj e))
    have h4 := (grownBy_putObj' w7 D (.deferred none)).block i (by have := hks.size; have := HG7.out.size; omega) (fun e => by cases e; omega)
    exact h4.trans (h3.trans (h2.trans h1))
 case body =>
  rintro l pre p a' W hl _ ⟨hat, hleft, hks⟩ rfl hlt
  obtain ⟨kid, hkid⟩ : ∃ kid, (kidsOf ns id).getD p.val 0 = kid := ⟨_, rfl⟩
  have hkk : kid ∈ kidsOf ns id := by
   rw [← hkid, List.getD_eq_getElem?_getD, List.getElem?_eq_getElem (by rw [HM.out]; exact p.isLt)]
   exact List.getElem_mem _
  have hsl := foldS_len (bx := bx) HC.out.tok (f := f) (P := inB pl) (L := inB lf) HM.out pre
  obtain ⟨s, hs⟩ : ∃ s, foldS ns bx f id (inB pl) (inB lf) pre = s := ⟨_, rfl⟩
  rw [hkid]
  rw [hs] at hat hleft hsl
  have hmul : pre.length * (ns.length + 1) ≤ 1000 * 1001 := Nat.mul_le_mul (by omega) (by have := HC.out.tree.few; omega)
  have HFW2 := Lib.hid (show (es ++ s.1).length + f * 1100000 ≤ 10000000000000 by rw [List.length_append]; have := HFW.out; omega)
  have HSKIP := Lib.hid (fun (h : kidA bx (orgN ns bx id) kid = none) => (foldS_skip (f := f) (P := inB pl) (L := inB lf) pre p hkid h).trans hs)
  have HTAKE := Lib.hid (show ∀ (A : Places) (h : kidA bx (orgN ns bx id) kid = some A), foldS ns bx f id (inB pl) (inB lf) (pre ++ [p]) = (s.1 ++ handF ns bx f kid (fun x y => A x y && inB pl x y) (fun x y => (A x y && inB pl x y) && s.2 x y), fun x y => s.2 x y && !(A x y && inB pl x y)) from fun A h => by have h9 := foldS_take (f := f) (P := inB pl) (L := inB lf) pre p hkid h; rw [hs] at h9; exact h9)
  have HKK := Lib.hid hkk
  have HIDK := Lib.hid (HC.out.tree.ok _ (kids_mem.1 hkk)).1
  have hms : mv < x.heap.size := by have := hat.lt; have := HS0.out; omega
  have HMX := Lib.hid hms
  obtain ⟨n0, f0, _, hm0, _⟩ := HAT.out.map
  have HWB := Lib.hid (HC.out.at_ hat.grown)
  have K3w := Lib.hid (HC.out.k3.grown hat.grown (fun e => HC.out.n3 (Option.some.inj e)))
  have K5w := Lib.hid (HC.out.k5.grown hat.grown (fun e => HC.out.n5 (Option.some.inj e)))
  have K8w := Lib.hid (hks.blk K8.out ⟨by have := HL9.out; omega, by omega, by omega⟩)
  have K10w := Lib.hid (hks.blk K10.out ⟨by have := HL10.out; omega, by have := HL10.out; omega, by have := HL10.out; omega⟩)
  have HRP := Lib.hid (HR1.out.keep2 K9.out hm0 hks)
  have HLF := Lib.hid hleft
  have HKSW := Lib.hid hks
  have HAT0 := Lib.hid hat
  have HATW := Lib.hid hat
  have hbox := box_any (.agg #[.map mp]) n bs kid W HIDK.out (HC.out.place.below HWB.out)
  have d3 := K3w.out.cellV (i := 0) (v := .map mp) rfl
  clear hm0 hat hleft hks hkk hsl hmul hms hkid hs
  cases hbk : bs kid with
  | none =>
   as_aux_lemma =>
    rw [hbk] at hbox
    have HBX5 := Lib.hid (show Calls Tryz.prog 60 #[.agg #[.map mp], .int .u32 kid] W (fun e w' => e = .returned (.tuple #[.agg #[.int .i64 0, .int .i64 0, .int .i64 0, .int .i64 0, .bool false, .int .i64 0, .int .i64 0, .bool false, .slice none 0 0], .bool false]) ∧ Below W.heap.size W w') from hbox)
    have HBK := Lib.hid hbk
    clear hbox hbk
    gi_wp2_with fail
    refine ⟨trivial, (CallsIn.inRound l (callsIn_wide.2 HBX5.out)).mono ?_⟩
    rintro e w5 ⟨rfl, hb5⟩
    have HB5 := Lib.hid hb5
    clear hb5
    gi_wp2_with fail
    have hsk := HSKIP.out (kidA_no (HC.out.rel.non kid HBK.out))
    (try dsimp only [ownPostG])
    rw [hsk]
    exact round_skip HKB4.out HKSW.out HAT0.out HLF.out (bal HB5.out _)
  | some b =>
   obtain ⟨vb, sh, Ys, Xs, hbx, hvX, hvY, hvM, hsh, har, hed, hYX⟩ := HC.out.rel.each kid b hbk
   have hsd := HC.out.sides kid b hbk
   have hnr := HC.out.nearb kid b hbk
   rw [hbk] at hbox
   obtain ⟨bX, bY, bW, bH, bM, bG, bB, bS, bA, bn, bc⟩ := b
   dsimp only at hvX hvY hvM hsh har hed hsd hnr
   have HBK := Lib.hid hbk
   have HVX := Lib.hid hbx
   cases bM with
   | false =>
    as_aux_lemma =>
     have HBX5 := Lib.hid (show Calls Tryz.prog 60 #[.agg #[.map mp], .int .u32 kid] W (fun e w' => e = .returned (.tuple #[.agg #[.int .i64 bX, .int .i64 bY, .int .i64 bW, .int .i64 bH, .bool false, .int .i64 bG, .int .i64 bB, .bool bS, .slice bA bn bc], .bool true]) ∧ Below W.heap.size W w') from hbox)
     have HKA := Lib.hid (kidA_hid (o := orgN ns bx id) hbx hvM)
     clear hbox hbk hbx hvX hvY hvM hsh har hed hYX hsd hnr
     gi_wp2_with fail
     refine ⟨trivial, (CallsIn.inRound l (callsIn_wide.2 HBX5.out)).mono ?_⟩
     rintro e w5 ⟨rfl, hb5⟩
     have HB5 := Lib.hid hb5
     clear hb5
     gi_wp2_with fail
     have hsk := HSKIP.out HKA.out
     (try dsimp only [ownPostG])
     rw [hsk]
     exact round_skip HKB4.out HKSW.out HAT0.out HLF.out (bal HB5.out _)
   | true =>
    have HBX5 := Lib.hid (show Calls Tryz.prog 60 #[.agg #[.map mp], .int .u32 kid] W (fun e w' => e = .returned (.tuple #[.agg #[.int .i64 bX, .int .i64 bY, .int .i64 bW, .int .i64 bH, .bool true, .int .i64 bG, .int .i64 bB, .bool bS, .slice bA bn bc], .bool true]) ∧ Below W.heap.size W w') from hbox)
    have HKA := Lib.hid (show kidA bx (orgN ns bx id) kid = some (fun x y => vb.area (x - (ox + bX)) (y - (oy + bY))) by
     have h1 := kidA_yes (o := orgN ns bx id) hbx hvM
     rw [orgN_eq HC.out.rel HO.out, HOX.out, HOY.out] at h1 ⊢
     rw [hvX, hvY] at h1
     exact h1)
    have HAR := Lib.hid har
    have HED := Lib.hid hed
    have HSD := Lib.hid hsd
    have HSH0 := Lib.hid (hsh.below HWB.out)
    have hox9 := (HC.out.near id)
    rw [HOX.out, HOY.out] at hox9
    have HDX := Lib.hid (show (-2097152 ≤ ox + bX ∧ ox + bX ≤ 2097152) ∧ -2097152 ≤ oy + bY ∧ oy + bY ≤ 2097152 by omega)
    obtain ⟨ll, Al, cl, hk9, hrl, hil, hpl⟩ := HLF.out
    have K9w := Lib.hid hk9
    have HRL := Lib.hid hrl
    have HIL := Lib.hid hil
    have HPL := Lib.hid hpl
    clear hbox hbk hbx hvX hvY hvM hsh har hed hsd hnr hox9 hk9 hrl hil hpl HWB HLF HSKIP
    gi_wp2_with fail
    refine ⟨trivial, (CallsIn.inRound l (callsIn_wide.2 HBX5.out)).mono ?_⟩
    rintro e w5 ⟨rfl, hb5⟩
    have HB5 := Lib.hid hb5
    clear hb5
    gi_upto_region 7 with fail
    have hba : Below W.heap.size W (w5.alloc (.cells #[.int .i64 bX, .int .i64 bY, .int .i64 bW, .int .i64 bH, .bool true, .int .i64 bG, .int .i64 bB, .bool bS, .slice bA bn bc] 133)) := bal HB5.out _
    have HSH := Lib.hid (HSH0.out.below hba)
    have xHATW := HATW.out.below hba
    have xHRP := HRP.out.below hba
    have xHRL := HRL.out.below hba
    have xK3w := K3w.out.belowS hba
    have xK5w := K5w.out.belowS hba
    have xK8w := K8w.out.belowS hba
    have xK9w := K9w.out.belowS hba
    have xK10w := K10w.out.belowS hba
    have xK15 := Blk.new w5 133 #[.int .i64 bX, .int .i64 bY, .int .i64 bW, .int .i64 bH, .bool true, .int .i64 bG, .int .i64 bB, .bool bS, .slice bA bn bc]
    have xS := HSH.out
    obtain ⟨X5, hX5⟩ : ∃ X5, w5.alloc (.cells #[.int .i64 bX, .int .i64 bY, .int .i64 bW, .int .i64 bH, .bool true, .int .i64 bG, .int .i64 bB, .bool bS, .slice bA bn bc] 133) = X5 := ⟨_, rfl⟩
    rw [hX5] at hba xS xK15 xHATW xHRP xHRL xK3w xK5w xK8w xK9w xK10w ⊢
    replace HATW := Lib.hid xHATW
    replace HRP := Lib.hid xHRP
    replace HRL := Lib.hid xHRL
    replace K3w := Lib.hid xK3w
    replace K5w := Lib.hid xK5w
    replace K8w := Lib.hid xK8w
    replace K9w := Lib.hid xK9w
    replace K10w := Lib.hid xK10w
    replace HSH := Lib.hid xS
    have HX5S := Lib.hid hba.size
    have K15 := Lib.hid xK15
    replace HB5 := Lib.hid hba
    clear d3 hba xS xK15 hX5 HBX5 HSH0 xHATW xHRP xHRL xK3w xK5w xK8w xK9w xK10w
    have HPLC := Lib.hid (HC.out.place.below (HC.out.at_ HATW.out.grown))
    gi_cut [17] from 78 (fun s17 wx => ∃ (g : Nat) (A : Option Addr) (c : Nat) (sh1 oa : List RC), s17 = .pointer (some ⟨g, 0, none⟩) ∧ X5.heap.size ≤ g ∧ Blk wx g 57 #[.slice A sh1.length c] ∧ RegAt wx (.agg #[.slice A sh1.length c]) sh1 ∧ (∀ r ∈ oa, r.cnt = true) ∧ (∀ a b, inB oa a b = (inB [⟨0, 0, bW, bH⟩] a b && (!bS || inB sh a b))) ∧ (∀ a b, InR sh1 a b ↔ InR ((oa.map (mvR (ox + bX) (oy + bY))).filter RC.cnt) a b) ∧ Below X5.heap.size X5 wx)
    case first =>
     as_aux_lemma =>
      have HBW := Lib.hid (show Below X5.heap.size X5 X5.drew from (bre X5).drew)
      have wX : IntKind.i64.wrap (ox + bX) = ox + bX := IntWalk.i64_in _ (by have := HDX.out; omega)
      have wY : IntKind.i64.wrap (oy + bY) = oy + bY := IntWalk.i64_in _ (by have := HDX.out; omega)
      refine wpIn_region_round (S := (fun w' => w'.cell? ⟨bp, 0, none⟩ = some (.map mp) ∧ w'.cell? ⟨w1.heap.size, 0, none⟩ = some (.int .i64 ox) ∧ w'.cell? ⟨w1.heap.size, 1, none⟩ = some (.int .i64 oy) ∧ w'.cell? ⟨w5.heap.size, 0, none⟩ = some (.int .i64 bX) ∧ w'.cell? ⟨w5.heap.size, 1, none⟩ = some (.int .i64 bY))) (by kernel_rfl) (by kernel_rfl) ?_ (fun hHeld => ?_)
      ·
       (try dsimp only)
       exact ⟨(K3w.out.belowS HBW.out).cellV (i := 0) rfl, (K10w.out.belowS HBW.out).cellV (i := 0) rfl, (K10w.out.belowS HBW.out).cellV (i := 1) rfl, (K15.out.belowS HBW.out).cellV (i := 0) rfl, (K15.out.belowS HBW.out).cellV (i := 1) rfl⟩
      refine Tr.take_at 0 45 (.agg #[.map mp]) rfl rfl (by kernel_rfl) (by kernel_rfl) (by kernel_rfl) (fun _ _ _ h => h) (Or.inl ⟨by rfl, ?_⟩) (by assumption) ?_
      ·
       intro W0 hSw
       (try dsimp only at hSw)
       go_simp
      simp only [List.set_cons_zero, List.set_cons_succ]
      refine Tr.take_at 1 46 (.int .u32 kid) rfl rfl (by kernel_rfl) (by kernel_rfl) (by kernel_rfl) (fun _ _ _ h => h) (Or.inl ⟨by rfl, ?_⟩) (by assumption) ?_
      ·
       intro W0 hSw
       (try dsimp only at hSw)
       go_simp
      simp only [List.set_cons_zero, List.set_cons_succ]
      refine Tr.take_at 3 48 (.pointer (some ⟨w1.heap.size, 0, none⟩)) rfl rfl (by kernel_rfl) (by kernel_rfl) (by kernel_rfl) (fun _ _ _ h => h) (Or.inl ⟨by rfl, ?_⟩) (by assumption) ?_
      ·
       intro W0 hSw
       (try dsimp only at hSw)
       go_simp
      simp only [List.set_cons_zero, List.set_cons_succ]
      refine Tr.take_at 4 49 (.int .i64 ox) rfl rfl (by kernel_rfl) (by kernel_rfl) (by kernel_rfl) (fun _ _ _ h => h) (Or.inl ⟨by rfl, ?_⟩) (by assumption) ?_
      ·
       intro W0 hSw
       (try dsimp only at hSw)
       go_simp
      simp only [List.set_cons_zero, List.set_cons_succ]
      refine Tr.take_at 5 50 (.pointer (some ⟨w5.heap.size, 0, none⟩)) rfl rfl (by kernel_rfl) (by kernel_rfl) (by kernel_rfl) (fun _ _ _ h => h) (Or.inl ⟨by rfl, ?_⟩) (by assumption) ?_
      ·
       intro W0 hSw
       (try dsimp only at hSw)
       go_simp
      simp only [List.set_cons_zero, List.set_cons_succ]
      refine Tr.take_at 6 51 (.int .i64 bX) rfl rfl (by kernel_rfl) (by kernel_rfl) (by kernel_rfl) (fun _ _ _ h => h) (Or.inl ⟨by rfl, ?_⟩) (by assumption) ?_
      ·
       intro W0 hSw
       (try dsimp only at hSw)
       go_simp
      simp only [List.set_cons_zero, List.set_cons_succ]
      refine Tr.take_at 7 52 (.int .i64 (ox + bX)) rfl rfl (by kernel_rfl) (by kernel_rfl) (by kernel_rfl) (fun _ _ _ h => h) (Or.inl ⟨by rfl, ?_⟩) (by assumption) ?_
      ·
       intro W0 hSw
       (try dsimp only at hSw)
       go_simp
      simp only [List.set_cons_zero, List.set_cons_succ]
      refine Tr.take_at 8 53 (.pointer (some ⟨w1.heap.size, 1, none⟩)) rfl rfl (by kernel_rfl) (by kernel_rfl) (by kernel_rfl) (fun _ _ _ h => h) (Or.inl ⟨by rfl, ?_⟩) (by assumption) ?_
      ·
       intro W0 hSw
       (try dsimp only at hSw)
       go_simp
      simp only [List.set_cons_zero, List.set_cons_succ]
      refine Tr.take_at 9 54 (.int .i64 oy) rfl rfl (by kernel_rfl) (by kernel_rfl) (by kernel_rfl) (fun _ _ _ h => h) (Or.inl ⟨by rfl, ?_⟩) (by assumption) ?_
      ·
       intro W0 hSw
       (try dsimp only at hSw)
       go_simp
      simp only [List.set_cons_zero, List.set_cons_succ]
      refine Tr.take_at 10 55 (.pointer (some ⟨w5.heap.size, 1, none⟩)) rfl rfl (by kernel_rfl) (by kernel_rfl) (by kernel_rfl) (fun _ _ _ h => h) (Or.inl ⟨by rfl, ?_⟩) (by assumption) ?_
      ·
       intro W0 hSw
       (try dsimp only at hSw)
       go_simp
      simp only [List.set_cons_zero, List.set_cons_succ]
      refine Tr.take_at 11 56 (.int .i64 bY) rfl rfl (by kernel_rfl) (by kernel_rfl) (by kernel_rfl) (fun _ _ _ h => h) (Or.inl ⟨by rfl, ?_⟩) (by assumption) ?_
      ·
       intro W0 hSw
       (try dsimp only at hSw)
       go_simp
      simp only [List.set_cons_zero, List.set_cons_succ]
      refine Tr.take_at 12 57 (.int .i64 (oy + bY)) rfl rfl (by kernel_rfl) (by kernel_rfl) (by kernel_rfl) (fun _ _ _ h => h) (Or.inl ⟨by rfl, ?_⟩) (by assumption) ?_
      ·
       intro W0 hSw
       (try dsimp only at hSw)
       go_simp
      simp only [List.set_cons_zero, List.set_cons_succ]
      refine wpAnyH_ready (rs := [2, 14]) (by kernel_rfl) (by simp) ?_
      refine AllReadyH.cons rfl (fun K hK => ?_) (AllReadyH.cons rfl (fun K hK => ?_) AllReadyH.nil)
      ·
       go_simp
       refine (areaZ_any (.agg #[.map mp]) n bs kid ⟨bX, bY, bW, bH, true, bG, bB, bS, bA, bn, bc⟩ sh Ys Xs _ HIDK.out (HPLC.out.below HBW.out) HBK.out (by have := HSD.out; dsimp only; omega) (HSH.out.below HBW.out) HED.out hYX).mono ?_
       rintro e wA1 ⟨va, oa, rfl, hro, hin, hbA⟩
       have HRO := Lib.hid hro
       have HIN := Lib.hid hin
       have HCN := Lib.hid hro.cnt
       clear hro hin
       replace HBW := Lib.hid (bstep HBW.out hbA)
       clear hbA
       go_simp
       refine hK.out _ _ ?_ (fun hHeld => ?_)
       ·
        (try dsimp only)
        exact ⟨(K3w.out.belowS HBW.out).cellV (i := 0) rfl, (K10w.out.belowS HBW.out).cellV (i := 0) rfl, (K10w.out.belowS HBW.out).cellV (i := 1) rfl, (K15.out.belowS HBW.out).cellV (i := 0) rfl, (K15.out.belowS HBW.out).cellV (i := 1) rfl⟩
       clear hK K
       refine wpAnyH_ready (rs := [13, 14]) (by kernel_rfl) (by simp) ?_
       refine AllReadyH.cons rfl (fun K hK => ?_) (AllReadyH.cons rfl (fun K hK => ?_) AllReadyH.nil)
       ·
        go_simp
        refine (shift_any va oa (ox + bX) (oy + bY) _ HRO.out HDX.out.1 HDX.out.2 (area_few (W := bW) (H := bH) (by obtain ⟨_, _, _, _, h, _⟩ := HRO.out; exact h) (fun a b hab => by
         have h1 := (inB_iff _ _ _).2 hab
         rw [HIN.out, Bool.and_eq_true] at h1
         exact (inB_rect _ _ _ _).1 h1.1) HSD.out)).mono ?_
        rintro e wA2 ⟨vs, sh1, rfl, hrs, hss, hbA⟩
        have HRS := Lib.hid hrs
        have HSS := Lib.hid hss
        obtain ⟨Ash, csh, rfl, _⟩ := hrs
        clear hss
        replace HBW := Lib.hid (bstep HBW.out hbA)
        clear hbA
        go_simp
        refine hK.out _ _ ?_ (fun hHeld => ?_)
        ·
         (try dsimp only)
         exact ⟨(K3w.out.belowS HBW.out).cellV (i := 0) rfl, (K10w.out.belowS HBW.out).cellV (i := 0) rfl, (K10w.out.belowS HBW.out).cellV (i := 1) rfl, (K15.out.belowS HBW.out).cellV (i := 0) rfl, (K15.out.belowS HBW.out).cellV (i := 1) rfl⟩
        clear hK K
        refine wpAnyH_ready (rs := [14]) (by kernel_rfl) (by simp) ?_
        refine AllReadyH.cons rfl (fun K hK => ?_) AllReadyH.nil
        go_simp
        have K22 := Lib.hid (show Blk (wA2.alloc (.cells #[.slice none 0 0] 57)) (wA2.heap.size) 57 #[.slice none 0 0] from Blk.new wA2 57 #[.slice none 0 0])
        have HL22 := Lib.hid (show X5.heap.size ≤ wA2.heap.size from HBW.out.size)
        replace HRS := Lib.hid (HRS.out.below (bal (bre _) (.cells #[.slice none 0 0] 57)))
        replace HBW := Lib.hid (bal HBW.out (.cells #[.slice none 0 0] 57))
        refine hK.out _ _ ?_ (fun hHeld => ?_)
        ·
         (try dsimp only)
         exact ⟨(K3w.out.belowS HBW.out).cellV (i := 0) rfl, (K10w.out.belowS HBW.out).cellV (i := 0) rfl, (K10w.out.belowS HBW.out).cellV (i := 1) rfl, (K15.out.belowS HBW.out).cellV (i := 0) rfl, (K15.out.belowS HBW.out).cellV (i := 1) rfl⟩
        clear hK K
        refine wpAnyH_ready (rs := [15]) (by kernel_rfl) (by simp) ?_
        refine AllReadyH.cons rfl (fun K hK => ?_) AllReadyH.nil
        refine Tr.wanted_plain rfl ?_
        refine store_mid0 rfl 57 _ _ rfl (wA2.heap.size) 0 #[.slice Ash sh1.length csh] (by rfl) (by rfl) (by have h := there_blk K22.out; exact h) Tryz.sizeRg (by simp [Value.oneCell']) ?_
        have xK := blk_puts1 (.slice Ash sh1.length csh) K22.out
        have xB := bsets HBW.out HL22.out (#[.slice Ash sh1.length csh] : Array Value).toList 0
        have xR := (show RegAt (World.setCells (wA2.alloc (.cells #[.slice none 0 0] 57)) (wA2.heap.size) 0 (#[.slice Ash sh1.length csh] : Array Value).toList) (.agg #[.slice Ash sh1.length csh]) sh1 from HRS.out.farS K22.out _)
        obtain ⟨wS, hwS⟩ : ∃ wS, World.setCells (wA2.alloc (.cells #[.slice none 0 0] 57)) (wA2.heap.size) 0 (#[.slice Ash sh1.length csh] : Array Value).toList = wS := ⟨_, rfl⟩
        rw [hwS] at xK xB xR ⊢
        replace HBW := Lib.hid xB
        replace K22 := Lib.hid xK
        replace HRS := Lib.hid xR
        clear xB xK xR hwS
        refine hK.out _ _ ?_ (fun hHeld => ?_)
        ·
         (try dsimp only)
         exact ⟨(K3w.out.belowS HBW.out).cellV (i := 0) rfl, (K10w.out.belowS HBW.out).cellV (i := 0) rfl, (K10w.out.belowS HBW.out).cellV (i := 1) rfl, (K15.out.belowS HBW.out).cellV (i := 0) rfl, (K15.out.belowS HBW.out).cellV (i := 1) rfl⟩
        clear hK K
        refine wpAnyH_done (by kernel_rfl) ?_ _
        refine CalmQ.normal ?_
        gi_wp2_with fail
        gi_meet
        exact ⟨_, Ash, csh, sh1, oa, rfl, HL22.out, K22.out, HRS.out, HCN.out, HIN.out, HSS.out, HBW.out⟩
       ·
        go_simp
        have K22 := Lib.hid (show Blk (wA1.alloc (.cells #[.slice none 0 0] 57)) (wA1.heap.size) 57 #[.slice none 0 0] from Blk.new wA1 57 #[.slice none 0 0])
        have HL22 := Lib.hid (show X5.heap.size ≤ wA1.heap.size from HBW.out.size)
        replace HRO := Lib.hid (HRO.out.below (bal (bre _) (.cells #[.slice none 0 0] 57)))
        replace HBW := Lib.hid (bal HBW.out (.cells #[.slice none 0 0] 57))
        refine hK.out _ _ ?_ (fun hHeld => ?_)
        ·
         (try dsimp only)
         exact ⟨(K3w.out.belowS HBW.out).cellV (i := 0) rfl, (K10w.out.belowS HBW.out).cellV (i := 0) rfl, (K10w.out.belowS HBW.out).cellV (i := 1) rfl, (K15.out.belowS HBW.out).cellV (i := 0) rfl, (K15.out.belowS HBW.out).cellV (i := 1) rfl⟩
        clear hK K
        refine wpAnyH_ready (rs := [13]) (by kernel_rfl) (by simp) ?_
        refine AllReadyH.cons rfl (fun K hK => ?_) AllReadyH.nil
        go_simp
        refine (shift_any va oa (ox + bX) (oy + bY) _ HRO.out HDX.out.1 HDX.out.2 (area_few (W := bW) (H := bH) (by obtain ⟨_, _, _, _, h, _⟩ := HRO.out; exact h) (fun a b hab => by
         have h1 := (inB_iff _ _ _).2 hab
         rw [HIN.out, Bool.and_eq_true] at h1
         exact (inB_rect _ _ _ _).1 h1.1) HSD.out)).mono ?_
        rintro e wA2 ⟨vs, sh1, rfl, hrs, hss, hbA⟩
        have HRS := Lib.hid hrs
        have HSS := Lib.hid hss
        obtain ⟨Ash, csh, rfl, _⟩ := hrs
        clear hss
        replace HBW := Lib.hid (bstep HBW.out hbA)
        replace K22 := Lib.hid (K22.out.belowS hbA)
        clear hbA
        go_simp
        refine hK.out _ _ ?_ (fun hHeld => ?_)
        ·
         (try dsimp only)
         exact ⟨(K3w.out.belowS HBW.out).cellV (i := 0) rfl, (K10w.out.belowS HBW.out).cellV (i := 0) rfl, (K10w.out.belowS HBW.out).cellV (i := 1) rfl, (K15.out.belowS HBW.out).cellV (i := 0) rfl, (K15.out.belowS HBW.out).cellV (i := 1) rfl⟩
        clear hK K
        refine wpAnyH_ready (rs := [15]) (by kernel_rfl) (by simp) ?_
        refine AllReadyH.cons rfl (fun K hK => ?_) AllReadyH.nil
        refine Tr.wanted_plain rfl ?_
        refine store_mid0 rfl 57 _ _ rfl (wA1.heap.size) 0 #[.slice Ash sh1.length csh] (by rfl) (by rfl) (by have h := there_blk K22.out; exact h) Tryz.sizeRg (by simp [Value.oneCell']) ?_
        have xK := blk_puts1 (.slice Ash sh1.length csh) K22.out
        have xB := bsets HBW.out HL22.out (#[.slice Ash sh1.length csh] : Array Value).toList 0
        have xR := (show RegAt (World.setCells (wA2) (wA1.heap.size) 0 (#[.slice Ash sh1.length csh] : Array Value).toList) (.agg #[.slice Ash sh1.length csh]) sh1 from HRS.out.farS K22.out _)
        obtain ⟨wS, hwS⟩ : ∃ wS, World.setCells (wA2) (wA1.heap.size) 0 (#[.slice Ash sh1.length csh] : Array Value).toList = wS := ⟨_, rfl⟩
        rw [hwS] at xK xB xR ⊢
        replace HBW := Lib.hid xB
        replace K22 := Lib.hid xK
        replace HRS := Lib.hid xR
        clear xB xK xR hwS
        refine hK.out _ _ ?_ (fun hHeld => ?_)
        ·
         (try dsimp only)
         exact ⟨(K3w.out.belowS HBW.out).cellV (i := 0) rfl, (K10w.out.belowS HBW.out).cellV (i := 0) rfl, (K10w.out.belowS HBW.out).cellV (i := 1) rfl, (K15.out.belowS HBW.out).cellV (i := 0) rfl, (K15.out.belowS HBW.out).cellV (i := 1) rfl⟩
        clear hK K
        refine wpAnyH_done (by kernel_rfl) ?_ _
        refine CalmQ.normal ?_
        gi_wp2_with fail
        gi_meet
        exact ⟨_, Ash, csh, sh1, oa, rfl, HL22.out, K22.out, HRS.out, HCN.out, HIN.out, HSS.out, HBW.out⟩
      ·
       go_simp
       have K22 := Lib.hid (show Blk (X5.drew.alloc (.cells #[.slice none 0 0] 57)) (X5.heap.size) 57 #[.slice none 0 0] from Blk.new X5.drew 57 #[.slice none 0 0])
       have HL22 := Lib.hid (show X5.heap.size ≤ X5.heap.size from HBW.out.size)
       replace HBW := Lib.hid (bal HBW.out (.cells #[.slice none 0 0] 57))
       refine hK.out _ _ ?_ (fun hHeld => ?_)
       ·
        (try dsimp only)
        exact ⟨(K3w.out.belowS HBW.out).cellV (i := 0) rfl, (K10w.out.belowS HBW.out).cellV (i := 0) rfl, (K10w.out.belowS HBW.out).cellV (i := 1) rfl, (K15.out.belowS HBW.out).cellV (i := 0) rfl, (K15.out.belowS HBW.out).cellV (i := 1) rfl⟩
       clear hK K
       refine wpAnyH_ready (rs := [2]) (by kernel_rfl) (by simp) ?_
       refine AllReadyH.cons rfl (fun K hK => ?_) AllReadyH.nil
       go_simp
       refine (areaZ_any (.agg #[.map mp]) n bs kid ⟨bX, bY, bW, bH, true, bG, bB, bS, bA, bn, bc⟩ sh Ys Xs _ HIDK.out (HPLC.out.below HBW.out) HBK.out (by have := HSD.out; dsimp only; omega) (HSH.out.below HBW.out) HED.out hYX).mono ?_
       rintro e wA1 ⟨va, oa, rfl, hro, hin, hbA⟩
       have HRO := Lib.hid hro
       have HIN := Lib.hid hin
       have HCN := Lib.hid hro.cnt
       clear hro hin
       replace HBW := Lib.hid (bstep HBW.out hbA)
       replace K22 := Lib.hid (K22.out.belowS hbA)
       clear hbA
       go_simp
       refine hK.out _ _ ?_ (fun hHeld => ?_)
       ·
        (try dsimp only)
        exact ⟨(K3w.out.belowS HBW.out).cellV (i := 0) rfl, (K10w.out.belowS HBW.out).cellV (i := 0) rfl, (K10w.out.belowS HBW.out).cellV (i := 1) rfl, (K15.out.belowS HBW.out).cellV (i := 0) rfl, (K15.out.belowS HBW.out).cellV (i := 1) rfl⟩
       clear hK K
       refine wpAnyH_ready (rs := [13]) (by kernel_rfl) (by simp) ?_
       refine AllReadyH.cons rfl (fun K hK => ?_) AllReadyH.nil
       go_simp
       refine (shift_any va oa (ox + bX) (oy + bY) _ HRO.out HDX.out.1 HDX.out.2 (area_few (W := bW) (H := bH) (by obtain ⟨_, _, _, _, h, _⟩ := HRO.out; exact h) (fun a b hab => by
        have h1 := (inB_iff _ _ _).2 hab
        rw [HIN.out, Bool.and_eq_true] at h1
        exact (inB_rect _ _ _ _).1 h1.1) HSD.out)).mono ?_
       rintro e wA2 ⟨vs, sh1, rfl, hrs, hss, hbA⟩
       have HRS := Lib.hid hrs
       have HSS := Lib.hid hss
       obtain ⟨Ash, csh, rfl, _⟩ := hrs
       clear hss
       replace HBW := Lib.hid (bstep HBW.out hbA)
       replace K22 := Lib.hid (K22.out.belowS hbA)
       clear hbA
       go_simp
       refine hK.out _ _ ?_ (fun hHeld => ?_)
       ·
        (try dsimp only)
        exact ⟨(K3w.out.belowS HBW.out).cellV (i := 0) rfl, (K10w.out.belowS HBW.out).cellV (i := 0) rfl, (K10w.out.belowS HBW.out).cellV (i := 1) rfl, (K15.out.belowS HBW.out).cellV (i := 0) rfl, (K15.out.belowS HBW.out).cellV (i := 1) rfl⟩
       clear hK K
       refine wpAnyH_ready (rs := [15]) (by kernel_rfl) (by simp) ?_
       refine AllReadyH.cons rfl (fun K hK => ?_) AllReadyH.nil
       refine Tr.wanted_plain rfl ?_
       refine store_mid0 rfl 57 _ _ rfl (X5.heap.size) 0 #[.slice Ash sh1.length csh] (by rfl) (by rfl) (by have h := there_blk K22.out; exact h) Tryz.sizeRg (by simp [Value.oneCell']) ?_
       have xK := blk_puts1 (.slice Ash sh1.length csh) K22.out
       have xB := bsets HBW.out HL22.out (#[.slice Ash sh1.length csh] : Array Value).toList 0
       have xR := (show RegAt (World.setCells (wA2) (X5.heap.size) 0 (#[.slice Ash sh1.length csh] : Array Value).toList) (.agg #[.slice Ash sh1.length csh]) sh1 from HRS.out.farS K22.out _)
       obtain ⟨wS, hwS⟩ : ∃ wS, World.setCells (wA2) (X5.heap.size) 0 (#[.slice Ash sh1.length csh] : Array Value).toList = wS := ⟨_, rfl⟩
       rw [hwS] at xK xB xR ⊢
       replace HBW := Lib.hid xB
       replace K22 := Lib.hid xK
       replace HRS := Lib.hid xR
       clear xB xK xR hwS
       refine hK.out _ _ ?_ (fun hHeld => ?_)
       ·
        (try dsimp only)
        exact ⟨(K3w.out.belowS HBW.out).cellV (i := 0) rfl, (K10w.out.belowS HBW.out).cellV (i := 0) rfl, (K10w.out.belowS HBW.out).cellV (i := 1) rfl, (K15.out.belowS HBW.out).cellV (i := 0) rfl, (K15.out.belowS HBW.out).cellV (i := 1) rfl⟩
       clear hK K
       refine wpAnyH_done (by kernel_rfl) ?_ _
       refine CalmQ.normal ?_
       gi_wp2_with fail
       gi_meet
       exact ⟨_, Ash, csh, sh1, oa, rfl, HL22.out, K22.out, HRS.out, HCN.out, HIN.out, HSS.out, HBW.out⟩
    obtain ⟨g, A17, c17, sh1, oa, rfl, hg17, hk17, hr17, hcn, hoa, hss, hbc⟩ := hcut
    replace HB5 := Lib.hid (bstep HB5.out hbc)
    replace HATW := Lib.hid (HATW.out.below hbc)
    replace HRP := Lib.hid (HRP.out.below hbc)
    replace HRL := Lib.hid (HRL.out.below hbc)
    replace K3w := Lib.hid (K3w.out.belowS hbc)
    replace K5w := Lib.hid (K5w.out.belowS hbc)
    replace K8w := Lib.hid (K8w.out.belowS hbc)
    replace K9w := Lib.hid (K9w.out.belowS hbc)
    replace K10w := Lib.hid (K10w.out.belowS hbc)
    have K17 := Lib.hid hk17
    have HR17 := Lib.hid hr17
    have HCN := Lib.hid hcn
    have HOA := Lib.hid hoa
    have HSS := Lib.hid hss
    have HG17 := Lib.hid (show W.heap.size ≤ g from Nat.le_trans HX5S.out hg17)
    clear hbc hg17 hk17 hr17 hcn hoa hss K3w K10w K15 HPLC HSH
    have HED1 := Lib.hid (shift_edges (oa := oa) (sh1 := sh1) (b := pl) (dx := ox + bX) (dy := oy + bY) (RW := RW) (RH := RH) (W := bW) (H := bH) HCN.out (fun a b hab => by
     have h1 := (inB_iff _ _ _).2 hab
     rw [HOA.out, Bool.and_eq_true] at h1
     exact (inB_rect _ _ _ _).1 h1.1) HSD.out HSS.out HR17.out.pos HRP.out.pos HC.out.side HP1.out)
    have HGN := Lib.hid (show x.heap.size ≠ g ∧ bh ≠ g ∧ x.heap.size + 1 ≠ g ∧ mv ≠ g ∧ w0.heap.size ≤ g ∧ bh < w0.heap.size ∧ mv < w0.heap.size by
     have h1 := HKSW.out.size
     have h2 := HL9.out
     have h3 := HG17.out
     have h4 := HC.out.k5.lt
     have h5 := HC.out.hm0
     have h6 := HS4.out
     omega)
    have p17 := K17.out.cellV (i := 0) (v := .slice A17 sh1.length c17) rfl
    have p8 := K8w.out.cellV (i := 0) (v := .slice A1 n1 c1) rfl
    gi_wp2_with fail
    refine ⟨trivial, (CallsIn.inRound l (callsIn_wide.2 (meet_any (.agg #[.slice A17 sh1.length c17]) (.agg #[.slice A1 n1 c1]) sh1 pl _ _ _ HR17.out HRP.out HED1.out.1 HED1.out.2))).mono ?_⟩
    rintro e w6 ⟨v6, ar, rfl, hr6, hi6, _, hb6⟩
    have HMS := Lib.hid (meet_spec (area := fun a b => inB [⟨0, 0, bW, bH⟩] a b && (!bS || inB sh a b)) HCN.out HOA.out HSS.out HP1.out HC.out.side hi6)
    have HR6 := Lib.hid hr6
    obtain ⟨A6, c6, rfl, _⟩ := hr6
    clear p17 p8 hi6 HR17 HED1 HSS HOA HCN
    replace HB5 := Lib.hid (bstep HB5.out hb6)
    replace HATW := Lib.hid (HATW.out.below hb6)
    replace HRL := Lib.hid (HRL.out.below hb6)
    replace K5w := Lib.hid (K5w.out.belowS hb6)
    replace K9w := Lib.hid (K9w.out.belowS hb6)
    replace K17 := Lib.hid (K17.out.belowS hb6)
    clear hb6 HRP K8w
    have p17 := K17.out.cellV (i := 0) (v := .slice A17 sh1.length c17) rfl
    have f17 := K17.out.frozen 0
    have l17 := K17.out.lt
    gi_upto_region 9 with fail
    clear p17 f17 l17
    have xHB5 : Below W.heap.size W (w6.setCell ⟨g, 0, none⟩ (.slice A6 ar.length c6)) := bset (p := ⟨g, 0, none⟩) HB5.out HG17.out _
    have xHATW := HATW.out.setReg K17.out HGN.out.2.2.2.2.1 (.slice A6 ar.length c6)
    have xHRL := HRL.out.farS K17.out (.slice A6 ar.length c6)
    have xHR6 := HR6.out.farS K17.out (.slice A6 ar.length c6)
    have xK5w := K5w.out.far (p := ⟨g, 0, none⟩) HGN.out.2.1 (.slice A6 ar.length c6)
    have xK9w := K9w.out.far (p := ⟨g, 0, none⟩) HGN.out.2.2.1 (.slice A6 ar.length c6)
    have xK17 : Blk (w6.setCell ⟨g, 0, none⟩ (.slice A6 ar.length c6)) g 57 #[.slice A6 ar.length c6] := K17.out.set_ 0 (.slice A6 ar.length c6)
    obtain ⟨X7, hX7⟩ : ∃ X7, w6.setCell ⟨g, 0, none⟩ (.slice A6 ar.length c6) = X7 := ⟨_, rfl⟩
    rw [hX7] at xHB5 xHATW xHRL xHR6 xK5w xK9w xK17 ⊢
    replace HB5 := Lib.hid xHB5
    replace HATW := Lib.hid xHATW
    replace HRL := Lib.hid xHRL
    replace HR6 := Lib.hid xHR6
    replace K5w := Lib.hid xK5w
    replace K9w := Lib.hid xK9w
    replace K17 := Lib.hid xK17
    clear xHB5 xHATW xHRL xHR6 xK5w xK9w xK17 hX7
    have HED2 := Lib.hid (root_edges HR6.out.pos HRL.out.pos HC.out.side HMS.out.2 HIL.out)
    have HBW := Lib.hid (show Below X7.heap.size X7 X7.drew from (bre X7).drew)
    refine wpIn_region_round (S := (fun w' => w'.cell? ⟨bh, 0, none⟩ = some (.func (.func 86) #[] #[.pointer (some ⟨bp, 0, none⟩), .pointer (some ⟨bt, 0, none⟩), .pointer (some ⟨bh, 0, none⟩), .pointer (some ⟨bv, 0, none⟩)]) ∧ w'.cell? ⟨g, 0, none⟩ = some (.slice A6 ar.length c6) ∧ w'.cell? ⟨x.heap.size + 1, 0, none⟩ = some (.slice Al ll.length cl))) (by kernel_rfl) (by kernel_rfl) ?_ (fun hHeld => ?_)
    ·
     (try dsimp only)
     exact ⟨(K5w.out.belowS HBW.out).cellV (i := 0) rfl, (K17.out.belowS HBW.out).cellV (i := 0) rfl, (K9w.out.belowS HBW.out).cellV (i := 0) rfl⟩
    refine Tr.take_at 0 62 (.func (.func 86) #[] #[.pointer (some ⟨bp, 0, none⟩), .pointer (some ⟨bt, 0, none⟩), .pointer (some ⟨bh, 0, none⟩), .pointer (some ⟨bv, 0, none⟩)]) rfl rfl (by kernel_rfl) (by kernel_rfl) (by kernel_rfl) (fun _ _ _ h => h) (Or.inl ⟨by rfl, ?_⟩) (by assumption) ?_
    ·
     intro W0 hSw
     (try dsimp only at hSw)
     go_simp
    simp only [List.set_cons_zero, List.set_cons_succ]
    refine Tr.take_at 1 63 (.int .u32 kid) rfl rfl (by kernel_rfl) (by kernel_rfl) (by kernel_rfl) (fun _ _ _ h => h) (Or.inl ⟨by rfl, ?_⟩) (by assumption) ?_
    ·
     intro W0 hSw
     (try dsimp only at hSw)
     go_simp
    simp only [List.set_cons_zero, List.set_cons_succ]
    refine Tr.take_at 2 64 (.agg #[.slice A6 ar.length c6]) rfl rfl (by kernel_rfl) (by kernel_rfl) (by kernel_rfl) (fun _ _ _ h => h) (Or.inl ⟨by rfl, ?_⟩) (by assumption) ?_
    ·
     intro W0 hSw
     (try dsimp only at hSw)
     go_simp
    simp only [List.set_cons_zero, List.set_cons_succ]
    refine Tr.take_at 3 65 (.agg #[.slice A6 ar.length c6]) rfl rfl (by kernel_rfl) (by kernel_rfl) (by kernel_rfl) (fun _ _ _ h => h) (Or.inl ⟨by rfl, ?_⟩) (by assumption) ?_
    ·
     intro W0 hSw
     (try dsimp only at hSw)
     go_simp
    simp only [List.set_cons_zero, List.set_cons_succ]
    refine Tr.take_at 4 66 (.agg #[.slice Al ll.length cl]) rfl rfl (by kernel_rfl) (by kernel_rfl) (by kernel_rfl) (fun _ _ _ h => h) (Or.inl ⟨by rfl, ?_⟩) (by assumption) ?_
    ·
     intro W0 hSw
     (try dsimp only at hSw)
     go_simp
    simp only [List.set_cons_zero, List.set_cons_succ]
    refine wpAnyH_ready (rs := [5]) (by kernel_rfl) (by simp) ?_
    refine AllReadyH.cons rfl (fun K hK => ?_) AllReadyH.nil
    go_simp
    refine (meet_any (.agg #[.slice A6 ar.length c6]) (.agg #[.slice Al ll.length cl]) ar ll _ _ _ (HR6.out.below HBW.out) (HRL.out.below HBW.out) HED2.out.1 HED2.out.2).mono ?_
    rintro e w8 ⟨v8, al, rfl, hr8, hi8, _, hbA⟩
    have HR8 := Lib.hid hr8
    have HI8 := Lib.hid hi8
    replace HBW := Lib.hid (bstep HBW.out hbA)
    clear hbA hr8 hi8
    go_simp
    refine hK.out _ _ ?_ (fun hHeld => ?_)
    ·
     (try dsimp only)
     exact ⟨(K5w.out.belowS HBW.out).cellV (i := 0) rfl, (K17.out.belowS HBW.out).cellV (i := 0) rfl, (K9w.out.belowS HBW.out).cellV (i := 0) rfl⟩
    clear hK K
    have HIA := Lib.hid (show InRoot RW RH al from fun a b hab => HMS.out.2 a b (by
     rw [← inB_iff, HI8.out, Bool.and_eq_true] at hab
     exact (inB_iff _ _ _).1 hab.1))
    have HLEN := Lib.hid (show (belowAt ns kid).length ≤ f by
     have h1 := flat_ge (ns := ns) HKK.out
     have h2 := HL.out
     rw [below_step HC.out.tok, List.length_cons] at h2
     omega)
    have HATX := Lib.hid (HATW.out.below HBW.out)
    have HBX8 := Lib.hid (bstep HB5.out HBW.out)
    have HR68 := Lib.hid (HR6.out.below HBW.out)
    have HRL8 := Lib.hid (HRL.out.below HBW.out)
    replace K5w := Lib.hid (K5w.out.belowS HBW.out)
    replace K9w := Lib.hid (K9w.out.belowS HBW.out)
    replace K17 := Lib.hid (K17.out.belowS HBW.out)
    refine wpAnyH_ready (rs := [6]) (by kernel_rfl) (by simp) ?_
    refine AllReadyH.cons rfl (fun K hK => ?_) AllReadyH.nil
    go_simp
    refine (IH.out kid (.agg #[.slice A6 ar.length c6]) v8 ar al (es ++ s.1) _ HLEN.out HFW2.out (kids_up HC.out.tok HKK.out).2 (org_kid HC.out.tok HKK.out HO.out HBK.out).1 HR68.out HR8.out HMS.out.2 HIA.out HATX.out).mono ?_
    rintro e w9 ⟨rfl, hat9, hg9⟩
    obtain ⟨n9, f9, _, hm9, _⟩ := HATX.out.map
    have HR69 := Lib.hid (HR68.out.map hm9 hg9)
    have HRL9 := Lib.hid (HRL8.out.map hm9 hg9)
    replace K5w := Lib.hid (K5w.out.grown hg9 (fun e => HC.out.n5 (Option.some.inj e)))
    replace K9w := Lib.hid (K9w.out.grown hg9 (fun e => by have := Option.some.inj e; have := HMX.out; omega))
    replace K17 := Lib.hid (K17.out.grown hg9 (fun e => HGN.out.2.2.2.1 (Option.some.inj e).symm))
    have HAT9 := Lib.hid hat9
    have HG9 := Lib.hid hg9
    clear hm9 hat9 hg9
    go_simp
    refine hK.out _ _ ?_ (fun hHeld => ?_)
    ·
     (try dsimp only)
     exact ⟨(K5w.out).cellV (i := 0) rfl, (K17.out).cellV (i := 0) rfl, (K9w.out).cellV (i := 0) rfl⟩
    clear hK K
    refine wpAnyH_done (by kernel_rfl) ?_ _
    refine CalmQ.normal ?_
    have HED3 := Lib.hid (root_edges HRL9.out.pos HR69.out.pos HC.out.side HIL.out HMS.out.2)
    have p9 := K9w.out.cellV (i := 0) (v := .slice Al ll.length cl) rfl
    have p17 := K17.out.cellV (i := 0) (v := .slice A6 ar.length c6) rfl
    gi_wp2_with fail
    refine ⟨trivial, (CallsIn.inRound l (callsIn_wide.2 (minus_any (.agg #[.slice Al ll.length cl]) (.agg #[.slice A6 ar.length c6]) ll ar _ _ _ HRL9.out HR69.out HED3.out.1 HED3.out.2))).mono ?_⟩
    rintro e w10 ⟨v10, lm, rfl, hr10, hi10, _, hb10⟩
    have HRX := Lib.hid hr10
    obtain ⟨A10, c10, rfl, _⟩ := hr10
    have HI10 := Lib.hid hi10
    have HB10 := Lib.hid hb10
    clear p9 p17 hi10 hb10
    have p9 := (K9w.out.belowS HB10.out).cellV (i := 0) (v := .slice Al ll.length cl) rfl
    have f9 := (K9w.out.belowS HB10.out).frozen 0
    have l9 := (K9w.out.belowS HB10.out).lt
    gi_wp2_with fail
    have hA : (fun a b => inB [⟨0, 0, bW, bH⟩] a b && (!bS || inB sh a b)) = vb.area := by funext a b; rw [HAR.out]
    have e1 : inB ar = fun a b => vb.area (a - (ox + bX)) (b - (oy + bY)) && inB pl a b := by rw [HMS.out.1]; funext a b; rw [← hA]
    have e2 : inB al = fun a b => (vb.area (a - (ox + bX)) (b - (oy + bY)) && inB pl a b) && s.2 a b := by funext a b; rw [HI8.out, e1, HPL.out]
    have h9 := HAT9.out
    rw [e1, e2, List.append_assoc] at h9
    have htk := HTAKE.out _ HKA.out
    (try dsimp only [ownPostG])
    rw [htk]
    refine round_take (pK := rowP w3.heap.size Ak) HKB4.out HKSW.out HL9.out (by have := HGN.out; have := HS4.out; omega) (by have := HS0.out; omega) HBX8.out HG9.out h9 HB10.out rfl (K9w.out.belowS HB10.out) HRX.out (fun a b hab => HIL.out a b (by
     rw [← inB_iff, HI10.out, Bool.and_eq_true] at hab
     exact (inB_iff _ _ _).1 hab.1)) (fun a b => by rw [HI10.out, HPL.out, e1])

end Go.Proofs.YtdaedkolpfkdjaaGreat
end
