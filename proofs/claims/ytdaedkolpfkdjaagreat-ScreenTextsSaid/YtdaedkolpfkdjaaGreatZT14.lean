/-
  The walk of band.Of: its loop over the edges, round by round.
-/
import Derived.Test.YtdaedkolpfkdjaaGreatZT13
section
namespace Go.Proofs.YtdaedkolpfkdjaaGreat
open Go.RowKit Go.Shelf Go.Lib Go.Sort

/-- what the loop has between two rounds. -/
structure OfRel (V : World) (g7 : Nat) (al : List RC) (ys : List Int) (k : Nat) (v : Int) (out row : List RC) (above next : Nat) (vo vr : Value) (ds : List Deferred) (wr : World) : Prop where
 atv : ys[k]? = some v
 inv : OfInv al v out row above next
 rowLen : row.length ≤ next
 outLen : out.length ≤ k * al.length
 mem : OfMem V g7 out row vo vr wr
 marks : Marks V.heap.size ds wr
/-- what stays as it is. -/
structure OfCtx (V : World) (g7 ga gy n2 : Nat) (al : List RC) (ys : List Int) : Prop where
 h7 : g7 < V.heap.size
 ga7 : ga < g7
 len : al.length = n2
 pos : 0 < n2
 lenb : n2 ≤ 100000
 yc : ∀ j y, ys[j]? = some y → gy < g7 ∧ V.cell? ⟨gy, j, none⟩ = some (.int .i64 y)
 ra : RdR V (some ⟨ga, 0, none⟩) n2 al
 ac : ∀ r ∈ al, r.cnt = true
 sy : al.Pairwise (fun a b => a.Y ≤ b.Y)
 yr : ys.Pairwise (· < ·)
 ym : ∀ y, y ∈ ys ↔ y ∈ ysL al
 yl : ys.length ≤ 2097153
theorem then_mono {K K' : Act → World → Prop} {Q : Exit → Act → World → Prop} (h : ∀ a w, K a w → K' a w) : ∀ e a w, Exit.then K Q e a w → Exit.then K' Q e a w := by
 intro e a w hq
 cases e <;> first | exact h _ _ hq | exact hq
/-- a round, done. -/
theorem tail_inv {al out out' row row3 : List RC} {v u : Int} {above above' next : Nat} (I : OfInv al v out row above next) (hc : ∀ r ∈ al, r.cnt = true) (hsort : al.Pairwise (fun a b => a.Y ≤ b.Y)) (hvu : v < u) (hE : ∀ r ∈ al, (r.Y ≤ v ∨ u ≤ r.Y) ∧ (r.Y + r.H ≤ v ∨ u ≤ r.Y + r.H))
 (hp : ∀ r, r ∈ row3 ↔ r ∈ keepL v row ++ newAt v (al.drop next)) (hx : row3.Pairwise (fun a b => a.X ≤ b.X)) (hT : TailOk out (bandL v (u - v) (spansL row3)) above (u - v) out' above') :
 OfInv al u out' row3 above' (next + (newAt v (al.drop next)).length) ∧ out'.length ≤ out.length + row3.length := by
 have hcnt : ∀ r ∈ al, 0 < r.W ∧ 0 < r.H := fun r hr => by have := (cnt_iff r).1 (hc r hr); omega
 rcases hT with ⟨h1, h2, h3⟩ | ⟨h1, h2, h3⟩
 ·
  subst h2 h3
  refine ⟨round_new I hcnt hsort hvu hE hp hx h1, ?_⟩
  have := spansL_len row3
  simp only [List.length_append, bandL, List.length_map]
  omega
 ·
  subst h2 h3
  refine ⟨round_old I hcnt hsort hvu hE hp hx h1, ?_⟩
  simp only [List.length_append, List.length_map, List.length_take, List.length_drop]
  omega
theorem ys_in {V : World} {g7 ga gy n2 : Nat} {al : List RC} {ys : List Int} (C : OfCtx V g7 ga gy n2 al ys) {y : Int} (hy : y ∈ ys) : -1048576 ≤ y ∧ y ≤ 1048576 := by
 obtain ⟨r, hr, h⟩ := (mem_ysL _ _).1 ((C.ym y).1 hy)
 have := (cnt_iff r).1 (C.ac r hr)
 omega
def RelV (V : World) (g7 : Nat) (al : List RC) (ys : List Int) (ds : List Deferred) (s8 s9 s10 s11 : Value) (w : World) : Prop :=
 ∃ (k : Nat) (v : Int) (out row : List RC) (above next : Nat) (vo : Value), s9 = .int .i64 (above : Int) ∧ s10 = .int .i64 (next : Int) ∧ s11 = .int .i64 (k : Int) ∧ OfRel V g7 al ys k v out row above next vo s8 ds w
def EndV (V : World) (g7 : Nat) (al : List RC) (ys : List Int) (ds : List Deferred) (w : World) : Prop :=
 ∃ (k : Nat) (v : Int) (out row : List RC) (above next : Nat) (vo vr : Value), ys.length = k + 1 ∧ OfRel V g7 al ys k v out row above next vo vr ds w
set_option maxRecDepth 1000000 in
def WI (V : World) (g7 ga gy n2 ca cy : Nat) (al : List RC) (ys : List Int) (c0 c1 c2 c4 c5 c18 c19 c20 c21 c22 c23 c24 c25 c26 c27 c28 c29 c30 c31 c32 c33 c34 c131 c132 c133 : Value) (a : Act) (w : World) : Prop :=
 ∃ u8 u9 u10 u11 u12 u13 u14 u15 u16 u17 u35 u36 u37 u38 u39 u40 u41 u42 u43 u44 u45 u46 u47 u48 u49 u50 u51 u52 u53 u54 u55 u56 u57 u58 u59 u60 u61 u62 u63 u64 u65 u66 u67 u68 u69 u70 u71 u72 u73 u74 u75 u76 u77 u78 u79 u80 u81 u82 u83 u84 u85 u86 u87 u88 u89 u90 u91 u92 u93 u94 u95 u96 u97 u98 u99 u100 u101 u102 u103 u104 u105 u106 u107 u108 u109 u110 u111 u112 u113 u114 u115 u116 u117 u118 u119 u120 u121 u122 u123 u124 u125 u126 u127 u128 u129 u130 : Value, ∃ ds : List Deferred, RelV V g7 al ys ds u8 u9 u10 u11 w ∧ a = ⟨#[c0, c1, c2, .slice (some ⟨ga, 0, none⟩) n2 ca, c4, c5, .slice (some ⟨gy, 0, none⟩) ys.length cy, .pointer (some ⟨g7, 0, none⟩), u8, u9, u10, u11, u12, u13, u14, u15, u16, u17, c18, c19, c20, c21, c22, c23, c24, c25, c26, c27, c28, c29, c30, c31, c32, c33, c34, u35, u36, u37, u38, u39, u40, u41, u42, u43, u44, u45, u46, u47, u48, u49, u50, u51, u52, u53, u54, u55, u56, u57, u58, u59, u60, u61, u62, u63, u64, u65, u66, u67, u68, u69, u70, u71, u72, u73, u74, u75, u76, u77, u78, u79, u80, u81, u82, u83, u84, u85, u86, u87, u88, u89, u90, u91, u92, u93, u94, u95, u96, u97, u98, u99, u100, u101, u102, u103, u104, u105, u106, u107, u108, u109, u110, u111, u112, u113, u114, u115, u116, u117, u118, u119, u120, u121, u122, u123, u124, u125, u126, u127, u128, u129, u130, c131, c132, c133], ds⟩
set_option maxRecDepth 1000000 in
def WX (V : World) (g7 ga gy n2 ca cy : Nat) (al : List RC) (ys : List Int) (c0 c1 c2 c4 c5 c18 c19 c20 c21 c22 c23 c24 c25 c26 c27 c28 c29 c30 c31 c32 c33 c34 c131 c132 c133 : Value) (a : Act) (w : World) : Prop :=
 ∃ u8 u9 u10 u11 u12 u13 u14 u15 u16 u17 u35 u36 u37 u38 u39 u40 u41 u42 u43 u44 u45 u46 u47 u48 u49 u50 u51 u52 u53 u54 u55 u56 u57 u58 u59 u60 u61 u62 u63 u64 u65 u66 u67 u68 u69 u70 u71 u72 u73 u74 u75 u76 u77 u78 u79 u80 u81 u82 u83 u84 u85 u86 u87 u88 u89 u90 u91 u92 u93 u94 u95 u96 u97 u98 u99 u100 u101 u102 u103 u104 u105 u106 u107 u108 u109 u110 u111 u112 u113 u114 u115 u116 u117 u118 u119 u120 u121 u122 u123 u124 u125 u126 u127 u128 u129 u130 : Value, ∃ ds : List Deferred, EndV V g7 al ys ds w ∧ a = ⟨#[c0, c1, c2, .slice (some ⟨ga, 0, none⟩) n2 ca, c4, c5, .slice (some ⟨gy, 0, none⟩) ys.length cy, .pointer (some ⟨g7, 0, none⟩), u8, u9, u10, u11, u12, u13, u14, u15, u16, u17, c18, c19, c20, c21, c22, c23, c24, c25, c26, c27, c28, c29, c30, c31, c32, c33, c34, u35, u36, u37, u38, u39, u40, u41, u42, u43, u44, u45, u46, u47, u48, u49, u50, u51, u52, u53, u54, u55, u56, u57, u58, u59, u60, u61, u62, u63, u64, u65, u66, u67, u68, u69, u70, u71, u72, u73, u74, u75, u76, u77, u78, u79, u80, u81, u82, u83, u84, u85, u86, u87, u88, u89, u90, u91, u92, u93, u94, u95, u96, u97, u98, u99, u100, u101, u102, u103, u104, u105, u106, u107, u108, u109, u110, u111, u112, u113, u114, u115, u116, u117, u118, u119, u120, u121, u122, u123, u124, u125, u126, u127, u128, u129, u130, c131, c132, c133], ds⟩
def Wmu (ys : List Int) (a : Act) (_ : World) : Nat := ys.length - (intOf (a.tmps.getD 11 undef)).toNat

set_option maxRecDepth 1000000 in
set_option maxHeartbeats 4000000 in
theorem of_more (V : World) (g7 ga gy n2 ca cy : Nat) (al : List RC) (ys : List Int) (C : OfCtx V g7 ga gy n2 al ys) (k : Nat) (v : Int) (out row : List RC) (above next : Nat) (vo : Value) (ds : List Deferred) (wr : World) (c0 c1 c2 c4 c5 c18 c19 c20 c21 c22 c23 c24 c25 c26 c27 c28 c29 c30 c31 c32 c33 c34 c131 c132 c133 u8 u12 u13 u14 u15 u16 u17 u35 u36 u37 u38 u39 u40 u41 u42 u43 u44 u45 u46 u47 u48 u49 u50 u51 u52 u53 u54 u55 u56 u57 u58 u59 u60 u61 u62 u63 u64 u65 u66 u67 u68 u69 u70 u71 u72 u73 u74 u75 u76 u77 u78 u79 u80 u81 u82 u83 u84 u85 u86 u87 u88 u89 u90 u91 u92 u93 u94 u95 u96 u97 u98 u99 u100 u101 u102 u103 u104 u105 u106 u107 u108 u109 u110 u111 u112 u113 u114 u115 u116 u117 u118 u119 u120 u121 u122 u123 u124 u125 u126 u127 u128 u129 u130 : Value) (Q0 : Exit → Act → World → Prop)
 (R : OfRel V g7 al ys k v out row above next vo u8 ds wr) (hlast : k + 1 < ys.length) :
 Code.wp Tryz.prog ofBody (Exit.then (fun a' w'' => WI V g7 ga gy n2 ca cy al ys c0 c1 c2 c4 c5 c18 c19 c20 c21 c22 c23 c24 c25 c26 c27 c28 c29 c30 c31 c32 c33 c34 c131 c132 c133 a' w'' ∧ Wmu ys a' w'' < Wmu ys ⟨#[c0, c1, c2, .slice (some ⟨ga, 0, none⟩) n2 ca, c4, c5, .slice (some ⟨gy, 0, none⟩) ys.length cy, .pointer (some ⟨g7, 0, none⟩), u8, .int .i64 (above : Int), .int .i64 (next : Int), .int .i64 (k : Int), u12, u13, u14, u15, u16, u17, c18, c19, c20, c21, c22, c23, c24, c25, c26, c27, c28, c29, c30, c31, c32, c33, c34, u35, u36, u37, u38, u39, u40, u41, u42, u43, u44, u45, u46, u47, u48, u49, u50, u51, u52, u53, u54, u55, u56, u57, u58, u59, u60, u61, u62, u63, u64, u65, u66, u67, u68, u69, u70, u71, u72, u73, u74, u75, u76, u77, u78, u79, u80, u81, u82, u83, u84, u85, u86, u87, u88, u89, u90, u91, u92, u93, u94, u95, u96, u97, u98, u99, u100, u101, u102, u103, u104, u105, u106, u107, u108, u109, u110, u111, u112, u113, u114, u115, u116, u117, u118, u119, u120, u121, u122, u123, u124, u125, u126, u127, u128, u129, u130, c131, c132, c133], ds⟩ wr) Q0) ⟨#[c0, c1, c2, .slice (some ⟨ga, 0, none⟩) n2 ca, c4, c5, .slice (some ⟨gy, 0, none⟩) ys.length cy, .pointer (some ⟨g7, 0, none⟩), u8, .int .i64 (above : Int), .int .i64 (next : Int), .int .i64 (k : Int), u12, u13, u14, u15, u16, u17, c18, c19, c20, c21, c22, c23, c24, c25, c26, c27, c28, c29, c30, c31, c32, c33, c34, u35, u36, u37, u38, u39, u40, u41, u42, u43, u44, u45, u46, u47, u48, u49, u50, u51, u52, u53, u54, u55, u56, u57, u58, u59, u60, u61, u62, u63, u64, u65, u66, u67, u68, u69, u70, u71, u72, u73, u74, u75, u76, u77, u78, u79, u80, u81, u82, u83, u84, u85, u86, u87, u88, u89, u90, u91, u92, u93, u94, u95, u96, u97, u98, u99, u100, u101, u102, u103, u104, u105, u106, u107, u108, u109, u110, u111, u112, u113, u114, u115, u116, u117, u118, u119, u120, u121, u122, u123, u124, u125, u126, u127, u128, u129, u130, c131, c132, c133], ds⟩ wr := by
 obtain ⟨i0, hi0, hz0, hz1, hz2⟩ := info_parts Tryz.infoR
 have HYV := Lib.hid C.yc
 have HRA7 := Lib.hid C.ra
 have HAC := Lib.hid C.ac
 have HC := Lib.hid C
 have hlen := C.len
 have hpos := C.pos
 have hlenb := C.lenb
 have hyl := C.yl
 have hga7 := C.ga7
 have h7V := C.h7
 have hrl := R.rowLen
 have hol := R.outLen
 have HI := Lib.hid R.inv
 have HMM := Lib.hid R.mem
 have HV := Lib.hid R.atv
 have HMK := Lib.hid R.marks
 have hkl : k < ys.length := (List.getElem?_eq_some_iff.1 R.atv).1
 have HMR := Lib.hid R.mem.rowOwn
 have HMO := Lib.hid R.mem.own
 clear C R
 conv => arg 2; whnf
 obtain ⟨u, hu⟩ : ∃ u, ys[k + 1]? = some u := ⟨_, List.getElem?_eq_getElem hlast⟩
 have hdl : decide ((k : Int) + 1 < (ys.length : Int)) = true := by simp; omega
 obtain ⟨g1, c1⟩ := HYV.out k v HV.out
 obtain ⟨_, c2⟩ := HYV.out (k + 1) u hu
 have d1 := HMM.out.grown.cell c1 (by intro e; injection e with e; dsimp only at e; omega)
 have d2 := HMM.out.grown.cell c2 (by intro e; injection e with e; dsimp only at e; omega)
 have HU := Lib.hid hu
 have hgw : gy < wr.heap.size := by
  have h1 := HMM.out.box.lt
  omega
 clear c1 c2 hu
 have k0 : (0 : Int) ≤ (k : Int) := by omega
 have k1 : (k : Int) < (ys.length : Int) := by omega
 have k2 : (k : Int) + 1 < (ys.length : Int) := by omega
 have k3 : (0 : Int) ≤ (k : Int) + 1 := by omega
 have hwr : IntKind.i64.wrap ((k : Int) + 1) = (k : Int) + 1 := IntWalk.i64_in _ (by omega)
 go_upto_region 16 with fail
 go_cut [12, 13] from 42 to 50 (fun s12 s13 wx => ∃ b12 b13 : Nat, s12 = .pointer (some ⟨b12, 0, none⟩) ∧ s13 = .pointer (some ⟨b13, 0, none⟩) ∧ wr.heap.size ≤ b12 ∧ wr.heap.size ≤ b13 ∧ b12 ≠ b13 ∧ Blk wx b12 3 #[.int .i64 v] ∧ Blk wx b13 3 #[.int .i64 u] ∧ Below wr.heap.size wr wx)
 case first =>
  go_region_held3 (fun w' => w'.cell? ⟨gy, k, none⟩ = some (.int .i64 v) ∧ w'.cell? ⟨gy, k + 1, none⟩ = some (.int .i64 u))
   (go_keep)
   (fail)
  all_goals
   go_wp2_with fail
   go_meet
   first
    | exact ⟨wr.heap.size, wr.heap.size + 1, rfl, rfl, Nat.le_refl _, Nat.le_succ _, by omega, (Blk.new wr _ _).alloc _, Blk.new2 _ _ _ _, (bal (bal (bre wr) _) _).drew⟩
    | exact ⟨wr.heap.size + 1, wr.heap.size, rfl, rfl, Nat.le_succ _, Nat.le_refl _, by omega, Blk.new2 _ _ _ _, (Blk.new wr _ _).alloc _, (bal (bal (bre wr) _) _).drew⟩
 case rest =>
  obtain ⟨b12, b13, rfl, rfl, hb12, hb13, hbne, hk12, hk13, hbx⟩ := hcut
  have HM2 := Lib.hid (HMM.out.below hbx)
  have HK12 := Lib.hid hk12
  have HK13 := Lib.hid hk13
  have HBX := Lib.hid hbx
  have HMK1 := Lib.hid (HMK.out.below hbx)
  clear hk12 hk13 d1 d2 HMM hbx
  obtain ⟨Ar, cr, hvr⟩ : ∃ Ar cr, u8 = .slice Ar row.length cr := by
   rcases HM2.out.rowOwn.2 with ⟨e1, e2⟩ | ⟨g, cap, cur, e1, _⟩
   ·
    exact ⟨none, 0, by rw [e1, e2]⟩
   ·
    exact ⟨_, _, e1⟩
  subst hvr
  have hrok : ∀ r ∈ row, r.ok := fun r hr => cnt_ok (HAC.out r (List.mem_of_mem_take (HI.out.rowIn r hr)))
  have HROK := Lib.hid hrok
  have c12 := HK12.out.cellV (i := 0) (v := .int .i64 v) rfl
  have hVw := HM2.out.grown.size
  have hnl := HI.out.nle
  have hdist : ∀ g, (Value.slice Ar row.length cr).ownBlock = some g → b12 ≠ g := fun g hg => by
   have := own_lt HMR.out g hg
   omega
  have HD := Lib.hid hdist
  clear hrok hdist
  go_upto_region 18 with (go_at_call 130; refine (delF_any V.heap.size _ _ _ row v b12 _ HM2.out.rowOwn rfl (by omega) HROK.out c12 HD.out).mono ?_; rintro e w8 ⟨rfl, ho8, hg8⟩; have HO8 := Lib.hid ho8; have HG8 := Lib.hid hg8; clear ho8 hg8)
  have hnb : ∀ g, (Value.slice Ar (keepL v row).length cr).ownBlock = some g → g < wr.heap.size := fun g hg => own_lt HMR.out g ((own_slice _ _ _ _ _).trans hg)
  have HMK2 := Lib.hid (HMK1.out.grownRow HM2.out.rowOwn HG8.out)
  have M3 := HM2.out.setRow h7V HG8.out HO8.out (fun g h => .inl ((own_slice _ _ _ _ _).trans h))
  have K12 := HK12.out.grown HG8.out (fun e => HD.out b12 e.symm rfl)
  have K13 := HK13.out.grown HG8.out (fun e => by have := own_lt HMR.out b13 e.symm; omega)
  have hvo : ∀ g, vo.ownBlock = some g → g < wr.heap.size := fun g hg => own_lt HMO.out g hg
  have HM3 := Lib.hid M3
  have HNB := Lib.hid hnb
  have HVO := Lib.hid hvo
  have HL12 := Lib.hid K12
  have HL13 := Lib.hid K13
  clear HO8 HG8 HM2 HK12 HK13 HD HMR HMO M3 K12 K13 hnb hvo c12 HROK
  obtain ⟨nw, hnw⟩ : ∃ nw, newAt v (al.drop next) = nw := ⟨_, rfl⟩
  have hnl2 : next + nw.length ≤ al.length := by
   have := newAt_len v (al.drop next)
   rw [List.length_drop, hnw] at this
   omega
  have HNW := Lib.hid hnw
  clear hnw
  go_wp2_with fail
  go_loopw [8, 10] (fun s8 s10 wx => ∃ j q : Nat, s10 = .int .i64 q ∧ q = next + j ∧ j ≤ nw.length ∧ OfMem V g7 out (keepL v row ++ nw.take j) vo s8 wx ∧ (∀ g, s8.ownBlock = some g → g ≠ b12 ∧ g ≠ b13) ∧ Blk wx b12 3 #[.int .i64 v] ∧ Blk wx b13 3 #[.int .i64 u] ∧ Marks V.heap.size ds wx) (fun _ i _ => al.length - (intOf i).toNat)
  case atStart => exact ⟨0, next, rfl, rfl, by omega, by simpa using HM3.out, fun g hg => by have := HNB.out g hg; omega, HL12.out, HL13.out, HMK2.out⟩
  case round =>
   obtain ⟨j, q, rfl, hq, hj, M4, hf, k12, k13, mk4⟩ := hrel
   have c12 := k12.cellV (i := 0) (v := .int .i64 v) rfl
   have HM4 := Lib.hid M4
   have HF := Lib.hid hf
   have HL12 := Lib.hid k12
   have HL13 := Lib.hid k13
   have HMK4 := Lib.hid mk4
   clear M4 hf k12 k13 mk4
   by_cases hjl : j < nw.length
   ·
    obtain ⟨x, hx, hxY, htk⟩ := newAt_at (al := al) (v := v) (next := next) (j := j) (by rw [HNW.out]; exact hjl)
    rw [HNW.out] at htk
    rw [← hq] at hx
    obtain ⟨b, off, e, hbl, hc⟩ := HRA7.out.2 (by omega)
    injection e with e
    injection e with e1 e2
    subst e1
    subst e2
    obtain ⟨x0, x1, x2, x3⟩ := hc q x hx
    have hne : some ga ≠ some g7 := by intro e; injection e with e; omega
    have y0 := HM4.out.grown.cell x0 hne
    have y1 := HM4.out.grown.cell x1 hne
    have y2 := HM4.out.grown.cell x2 hne
    have y3 := HM4.out.grown.cell x3 hne
    rw [Nat.zero_add] at y0 y1 y2 y3
    have HTK := Lib.hid htk
    have hd1 : decide ((q : Int) < (n2 : Int)) = true := by simp; omega
    have hd2 : (x.Y == v) = true := by simp [hxY]
    have k4 : (0 : Int) ≤ (q : Int) := by omega
    have k5 : (q : Int) < (n2 : Int) := by omega
    have HQ := Lib.hid hq
    clear hc x0 x1 x2 x3 htk hx hq hxY
    go_upto_region 19 with fail
    go_quiet (fail)
    have hVw2 := HM4.out.grown.size
    have hkl2 := keepL_len v row
    have htl : (nw.take j).length = j := by rw [List.length_take]; omega
    have hq1 : IntKind.i64.wrap ((q : Int) + 1) = (q : Int) + 1 := IntWalk.i64_in _ (by omega)
    have hol1 : (keepL v row ++ nw.take j).length ≤ 100000 := by rw [List.length_append, htl]; have := HQ.out; omega
    have bD := undrewN wr nq
    obtain ⟨D, hD⟩ : ∃ D, wr.drewN nq = D := ⟨_, rfl⟩
    rw [hD] at bD ⊢
    have hgw2 : ga < wr.heap.size := by omega
    have z0 := (bD.cell (p := ⟨ga, q * 4, none⟩) hgw2).trans y0
    have z1 := (bD.cell (p := ⟨ga, q * 4 + 1, none⟩) hgw2).trans y1
    have z2 := (bD.cell (p := ⟨ga, q * 4 + 1 + 1, none⟩) hgw2).trans y2
    have z3 := (bD.cell (p := ⟨ga, q * 4 + 1 + 1 + 1, none⟩) hgw2).trans y3
    have HM5 := Lib.hid (HM4.out.below bD)
    have HN12 := Lib.hid (HL12.out.belowS bD)
    have HN13 := Lib.hid (HL13.out.belowS bD)
    have HMK5 := Lib.hid (HMK4.out.below bD)
    have hDs := bD.size
    clear hD y0 y1 y2 y3 c12 HL12 HL13 HM4 bD
    go_wp2_with (at_builtin; refine wpList_append_own_at _ rfl _ _ 31 rfl V.heap.size 103 i0 _ 4 32 Tryz.underlying31 hi0 hz0 hz1 hz2 rfl (by decide) _ _ _ rfl (HM5.out.rowOwn.alloc _) ⟨D.heap.size, 0, none⟩ 1 1 [.int .i64 x.X, .int .i64 x.Y, .int .i64 x.W, .int .i64 x.H] rfl rfl (four_new _ _ _ _ _ _) (by simp [Value.oneCell']) (by simp only [maxLen]; omega) (by omega) (by simp; omega) ?_; intro v' w4 hown' hgrow _ hat)
    go_roundw
    case rel =>
     have M6 := HM5.out.below (bal (bre D) (.cells #[.int .i64 x.X, .int .i64 x.Y, .int .i64 x.W, .int .i64 x.H] 103))
     have hl12 := HN12.out.lt
     have hl13 := HN13.out.lt
     refine ⟨j + 1, q + 1, by go_num, by have := HQ.out; omega, by omega, M6.setRow h7V hgrow ?_ (fun g hg => ?_), fun g hg => ?_, (HN12.out.alloc _).grown hgrow (fun e => (HF.out b12 e.symm).1 rfl), (HN13.out.alloc _).grown hgrow (fun e => (HF.out b13 e.symm).2 rfl), (HMK5.out.below (bal (bre D) _)).grownRow M6.rowOwn hgrow⟩
     ·
      rw [HTK.out, ← List.append_assoc, rcs_append, List.length_append]
      exact hown'
     ·
      rcases hat with h | h
      ·
       exact .inl (h.symm.trans hg)
      ·
       rw [h] at hg
       injection hg with hg
       exact .inr (by omega)
     ·
      rcases hat with h | h
      ·
       exact HF.out g (h.symm.trans hg)
      ·
       rw [h] at hg
       injection hg with hg
       simp at hg
       constructor <;> omega
    case measure => simp [intOf]; omega
   ·
    obtain rfl : j = nw.length := by omega
    have M4 := HM4.out
    rw [List.take_length] at M4
    have HM5 := Lib.hid M4
    clear M4 HM4
    by_cases hql : q < n2
    ·
     obtain ⟨x, hx⟩ : ∃ x, al[q]? = some x := ⟨_, List.getElem?_eq_getElem (by omega)⟩
     have hxY : x.Y ≠ v := newAt_end (al := al) (v := v) (next := next) (by rw [HNW.out, ← hq]; exact hx)
     obtain ⟨b, off, e, hbl, hc⟩ := HRA7.out.2 (by omega)
     injection e with e
     injection e with e1 e2
     subst e1
     subst e2
     obtain ⟨x0, x1, x2, x3⟩ := hc q x hx
     have hne : some ga ≠ some g7 := by intro e; injection e with e; omega
     have y1 := HM5.out.grown.cell x1 hne
     rw [Nat.zero_add] at y1
     have hd1 : decide ((q : Int) < (n2 : Int)) = true := by simp; omega
     have hd2 : (x.Y == v) = false := by simp [hxY]
     have k4 : (0 : Int) ≤ (q : Int) := by omega
     have k5 : (q : Int) < (n2 : Int) := by omega
     have HQ := Lib.hid hq
     clear hc x0 x1 x2 x3 hx hq hxY
     go_upto_region 19 with fail
     go_quiet (fail)
     have bD := undrewN wr nq
     obtain ⟨D, hD⟩ : ∃ D, wr.drewN nq = D := ⟨_, rfl⟩
     rw [hD] at bD ⊢
     have M5 := HM5.out.below bD
     have HN12 := Lib.hid (HL12.out.belowS bD)
     have HN13 := Lib.hid (HL13.out.belowS bD)
     have HMK5 := Lib.hid (HMK4.out.below bD)
     obtain ⟨Ar2, cr2, hvr, hcap⟩ := own_form M5.rowOwn
     subst hvr
     obtain ⟨m, hm⟩ : ∃ m, (keepL v row ++ nw).length = m := ⟨_, rfl⟩
     have hkl2 := keepL_len v row
     have hm2 : m ≤ next + nw.length := by rw [← hm, List.length_append]; omega
     rw [hm] at M5 hcap HF ⊢
     have HMM5 := Lib.hid M5
     have HMQ := Lib.hid hm
     have hp : ∀ r, r ∈ keepL v row ++ nw ↔ r ∈ keepL v row ++ newAt v (al.drop next) := fun r => by rw [HNW.out]
     have HP := Lib.hid hp
     clear hD bD M5 hm hp HM5 HL12 HL13 HMK4
     by_cases hnew : next < q
     ·
      have hg1 : decide ((next : Int) < (q : Int)) = true := by simp; omega
      have ho5 : D.ownsRow V.heap.size 103 4 (.slice Ar2 m cr2) m (rcs (keepL v row ++ nw)) := by
       have := HMM5.out.rowOwn
       rwa [HMQ.out] at this
      have HO5 := Lib.hid ho5
      clear ho5
      go_upto_region 24 with (go_at_call 125; refine (sortX_any V.heap.size _ _ _ (keepL v row ++ nw) _ HO5.out HMQ.out (by omega)).mono ?_; rintro e w9 ⟨row3, rfl, hperm, hsort, ho9, hg9⟩; have HPE := Lib.hid hperm; have HSO := Lib.hid hsort; have HO9 := Lib.hid ho9; have HG9 := Lib.hid hg9; clear hperm hsort ho9 hg9)
      rename_i hKK
      have hm3 : row3.length = m := HPE.out.length_eq.trans HMQ.out
      have M6 : OfMem V g7 out row3 vo (.slice Ar2 m cr2) w9 := HMM5.out.setRow h7V HG9.out (by rw [hm3]; exact HO9.out) (fun g h => .inl h)
      have P12 := HN12.out.grown HG9.out (fun e => (HF.out b12 e.symm).1 rfl)
      have P13 := HN13.out.grown HG9.out (fun e => (HF.out b13 e.symm).2 rfl)
      have mk6 := HMK5.out.grownRow HMM5.out.rowOwn HG9.out
      have hx3 : row3.Pairwise (fun a b => a.X ≤ b.X) := HSO.out.imp (by
       intro a b h
       rw [ltX] at h
       simp at h
       omega)
      have hp3 : ∀ r, r ∈ row3 ↔ r ∈ keepL v row ++ newAt v (al.drop next) := fun r => HPE.out.mem_iff.trans (HP.out r)
      obtain ⟨hvu, hbet⟩ := edges_next HC.out.yr HV.out HU.out
      have hE : ∀ r ∈ al, (r.Y ≤ v ∨ u ≤ r.Y) ∧ (r.Y + r.H ≤ v ∨ u ≤ r.Y + r.H) := fun r hr => ⟨hbet _ ((HC.out.ym _).2 ((mem_ysL _ _).2 ⟨r, hr, .inl rfl⟩)), hbet _ ((HC.out.ym _).2 ((mem_ysL _ _).2 ⟨r, hr, .inr rfl⟩))⟩
      have hvb := ys_in HC.out (List.mem_of_getElem? HV.out)
      have hub := ys_in HC.out (List.mem_of_getElem? HU.out)
      have hband := band_cnt HI.out HAC.out HC.out.sy hvu hE hp3 hx3
      have hrow : ∀ r ∈ row3, r.ok := fun r hr => by
       have h1 := (hp3 r).1 hr
       refine cnt_ok (HAC.out r ?_)
       rcases List.mem_append.1 h1 with h2 | h2
       ·
        exact List.mem_of_mem_take (HI.out.rowIn r (List.mem_filter.1 h2).1)
       ·
        exact List.mem_of_mem_drop ((List.takeWhile_sublist _).mem h2)
      have hol2 : out.length ≤ 1000000000000 := Nat.le_trans hol (Nat.le_trans (Nat.mul_le_mul (show k ≤ 2097153 by omega) (show al.length ≤ 100000 by omega)) (by decide))
      have hti := fun out' above' hT => tail_inv (out' := out') (above' := above') HI.out HAC.out HC.out.sy hvu hE hp3 hx3 hT
      rw [HNW.out] at hti
      refine wp_mono (of_tail V g7 b12 b13 m cr2 above Ar2 v u out row3 vo ds _ _ _ _ _ _ _ _ _ _ _ _ _ _ _ _ _ _ _ _ _ _ _ _ _ _ _ _ _ _ _ _ _ _ _ _ _ _ _ _ _ _ _ _ _ _ _ _ _ _ _ _ _ _ _ _ _ _ _ _ _ _ _ _ _ _ _ _ _ _ _ _ _ _ _ _ _ _ _ _ _ _ _ _ _ _ _ _ _ _ _ _ _ _ _ _ _ _ _ _ _ _ _ _ _ _ _ _ _ _ _ _ _ _ _ _ _ _ _ _ _ _ _ _ _ _ _ _ _ _ _ M6 hm3 h7V P12 P13 mk6 (above_le HI.out) hol2 (by omega) hrow (out_cnt HI.out HAC.out) hband hvb.1 hvb.2 hub.1 hub.2 ?_) (then_mono hKK)
      intro out' above' vo' ds' w' x15 x16 x17 x82 x83 x84 x85 x86 x87 x88 x89 x90 x91 x92 x93 x94 x95 x96 x97 x98 x99 x100 x101 x102 x103 x104 x105 x106 x107 x108 x109 x110 x111 x112 x113 x114 x115 x116 x117 x118 x119 x120 x121 x122 x123 x124 x125 x126 x127 x128 x129 x130 hT M' mk'
      obtain ⟨hI', hl'⟩ := hti out' above' hT
      have HI2 := Lib.hid hI'
      have HM2 := Lib.hid M'
      have HMK2 := Lib.hid mk'
      have HROW := Lib.hid hrow
      have HM3 := Lib.hid hm3
      have hk1 : IntKind.i64.wrap ((k : Int) + 1) = (k : Int) + 1 := IntWalk.i64_in _ (by omega)
      clear hI' M' mk' hT hti hband hE hbet hrow hp3 hx3 M6 P12 P13 mk6 hm3 hKK
      go_wp2_with fail
      refine ⟨?_, by simp [Wmu, intOf]; omega⟩
      unfold WI
      refine ⟨_, _, _, _, _, _, _, _, _, _, _, _, _, _, _, _, _, _, _, _, _, _, _, _, _, _, _, _, _, _, _, _, _, _, _, _, _, _, _, _, _, _, _, _, _, _, _, _, _, _, _, _, _, _, _, _, _, _, _, _, _, _, _, _, _, _, _, _, _, _, _, _, _, _, _, _, _, _, _, _, _, _, _, _, _, _, _, _, _, _, _, _, _, _, _, _, _, _, _, _, _, _, _, _, _, _, _, ?_, rfl⟩
      refine ⟨k + 1, u, out', row3, above', next + nw.length, vo', rfl, by rw [HQ.out], by go_num, ⟨HU.out, HI2.out, by rw [HM3.out]; omega, ?_, HM2.out, HMK2.out⟩⟩
      rw [Nat.succ_mul]
      have := HM3.out
      omega
     ·
      have hg1 : decide ((next : Int) < (q : Int)) = false := by simp; omega
      have hnw0 : nw = [] := List.eq_nil_of_length_eq_zero (by have := HQ.out; omega)
      have HNW0 := Lib.hid hnw0
      clear hnw0
      go_upto_region 24 with fail
      rename_i hKK
      obtain ⟨row3, hrow3⟩ : ∃ row3, keepL v row ++ nw = row3 := ⟨_, rfl⟩
      have M6 := HMM5.out
      have P12 := HN12.out
      have P13 := HN13.out
      have mk6 := HMK5.out
      have hm3 := HMQ.out
      have hp3 := HP.out
      have hx3 : (keepL v row ++ nw).Pairwise (fun a b => a.X ≤ b.X) := by
       rw [HNW0.out, List.append_nil]
       exact HI.out.rowX.filter _
      rw [hrow3] at M6 hm3 hp3 hx3
      obtain ⟨hvu, hbet⟩ := edges_next HC.out.yr HV.out HU.out
      have hE : ∀ r ∈ al, (r.Y ≤ v ∨ u ≤ r.Y) ∧ (r.Y + r.H ≤ v ∨ u ≤ r.Y + r.H) := fun r hr => ⟨hbet _ ((HC.out.ym _).2 ((mem_ysL _ _).2 ⟨r, hr, .inl rfl⟩)), hbet _ ((HC.out.ym _).2 ((mem_ysL _ _).2 ⟨r, hr, .inr rfl⟩))⟩
      have hvb := ys_in HC.out (List.mem_of_getElem? HV.out)
      have hub := ys_in HC.out (List.mem_of_getElem? HU.out)
      have hband := band_cnt HI.out HAC.out HC.out.sy hvu hE hp3 hx3
      have hrow : ∀ r ∈ row3, r.ok := fun r hr => by
       have h1 := (hp3 r).1 hr
       refine cnt_ok (HAC.out r ?_)
       rcases List.mem_append.1 h1 with h2 | h2
       ·
        exact List.mem_of_mem_take (HI.out.rowIn r (List.mem_filter.1 h2).1)
       ·
        exact List.mem_of_mem_drop ((List.takeWhile_sublist _).mem h2)
      have hol2 : out.length ≤ 1000000000000 := Nat.le_trans hol (Nat.le_trans (Nat.mul_le_mul (show k ≤ 2097153 by omega) (show al.length ≤ 100000 by omega)) (by decide))
      have hti := fun out' above' hT => tail_inv (out' := out') (above' := above') HI.out HAC.out HC.out.sy hvu hE hp3 hx3 hT
      rw [HNW.out] at hti
      refine wp_mono (of_tail V g7 b12 b13 m cr2 above Ar2 v u out row3 vo ds _ _ _ _ _ _ _ _ _ _ _ _ _ _ _ _ _ _ _ _ _ _ _ _ _ _ _ _ _ _ _ _ _ _ _ _ _ _ _ _ _ _ _ _ _ _ _ _ _ _ _ _ _ _ _ _ _ _ _ _ _ _ _ _ _ _ _ _ _ _ _ _ _ _ _ _ _ _ _ _ _ _ _ _ _ _ _ _ _ _ _ _ _ _ _ _ _ _ _ _ _ _ _ _ _ _ _ _ _ _ _ _ _ _ _ _ _ _ _ _ _ _ _ _ _ _ _ _ _ _ _ M6 hm3 h7V P12 P13 mk6 (above_le HI.out) hol2 (by omega) hrow (out_cnt HI.out HAC.out) hband hvb.1 hvb.2 hub.1 hub.2 ?_) (then_mono hKK)
      intro out' above' vo' ds' w' x15 x16 x17 x82 x83 x84 x85 x86 x87 x88 x89 x90 x91 x92 x93 x94 x95 x96 x97 x98 x99 x100 x101 x102 x103 x104 x105 x106 x107 x108 x109 x110 x111 x112 x113 x114 x115 x116 x117 x118 x119 x120 x121 x122 x123 x124 x125 x126 x127 x128 x129 x130 hT M' mk'
      obtain ⟨hI', hl'⟩ := hti out' above' hT
      have HI2 := Lib.hid hI'
      have HM2 := Lib.hid M'
      have HMK2 := Lib.hid mk'
      have HROW := Lib.hid hrow
      have HM3 := Lib.hid hm3
      have hk1 : IntKind.i64.wrap ((k : Int) + 1) = (k : Int) + 1 := IntWalk.i64_in _ (by omega)
      clear hI' M' mk' hT hti hband hE hbet hrow hp3 hx3 M6 P12 P13 mk6 hm3 hKK
      go_wp2_with fail
      refine ⟨?_, by simp [Wmu, intOf]; omega⟩
      unfold WI
      refine ⟨_, _, _, _, _, _, _, _, _, _, _, _, _, _, _, _, _, _, _, _, _, _, _, _, _, _, _, _, _, _, _, _, _, _, _, _, _, _, _, _, _, _, _, _, _, _, _, _, _, _, _, _, _, _, _, _, _, _, _, _, _, _, _, _, _, _, _, _, _, _, _, _, _, _, _, _, _, _, _, _, _, _, _, _, _, _, _, _, _, _, _, _, _, _, _, _, _, _, _, _, _, _, _, _, _, _, _, ?_, rfl⟩
      refine ⟨k + 1, u, out', row3, above', next + nw.length, vo', rfl, by rw [HQ.out], by go_num, ⟨HU.out, HI2.out, by rw [HM3.out]; omega, ?_, HM2.out, HMK2.out⟩⟩
      rw [Nat.succ_mul]
      have := HM3.out
      omega
    ·
     have hd1 : decide ((q : Int) < (n2 : Int)) = false := by simp; omega
     have HQ := Lib.hid hq
     clear hq
     go_upto_region 19 with fail
     go_quiet (fail)
     have bD := undrewN wr nq
     obtain ⟨D, hD⟩ : ∃ D, wr.drewN nq = D := ⟨_, rfl⟩
     rw [hD] at bD ⊢
     have M5 := HM5.out.below bD
     have HN12 := Lib.hid (HL12.out.belowS bD)
     have HN13 := Lib.hid (HL13.out.belowS bD)
     have HMK5 := Lib.hid (HMK4.out.below bD)
     obtain ⟨Ar2, cr2, hvr, hcap⟩ := own_form M5.rowOwn
     subst hvr
     obtain ⟨m, hm⟩ : ∃ m, (keepL v row ++ nw).length = m := ⟨_, rfl⟩
     have hkl2 := keepL_len v row
     have hm2 : m ≤ next + nw.length := by rw [← hm, List.length_append]; omega
     rw [hm] at M5 hcap HF ⊢
     have HMM5 := Lib.hid M5
     have HMQ := Lib.hid hm
     have hp : ∀ r, r ∈ keepL v row ++ nw ↔ r ∈ keepL v row ++ newAt v (al.drop next) := fun r => by rw [HNW.out]
     have HP := Lib.hid hp
     clear hD bD M5 hm hp HM5 HL12 HL13 HMK4
     by_cases hnew : next < q
     ·
      have hg1 : decide ((next : Int) < (q : Int)) = true := by simp; omega
      have ho5 : D.ownsRow V.heap.size 103 4 (.slice Ar2 m cr2) m (rcs (keepL v row ++ nw)) := by
       have := HMM5.out.rowOwn
       rwa [HMQ.out] at this
      have HO5 := Lib.hid ho5
      clear ho5
      go_upto_region 24 with (go_at_call 125; refine (sortX_any V.heap.size _ _ _ (keepL v row ++ nw) _ HO5.out HMQ.out (by omega)).mono ?_; rintro e w9 ⟨row3, rfl, hperm, hsort, ho9, hg9⟩; have HPE := Lib.hid hperm; have HSO := Lib.hid hsort; have HO9 := Lib.hid ho9; have HG9 := Lib.hid hg9; clear hperm hsort ho9 hg9)
      rename_i hKK
      have hm3 : row3.length = m := HPE.out.length_eq.trans HMQ.out
      have M6 : OfMem V g7 out row3 vo (.slice Ar2 m cr2) w9 := HMM5.out.setRow h7V HG9.out (by rw [hm3]; exact HO9.out) (fun g h => .inl h)
      have P12 := HN12.out.grown HG9.out (fun e => (HF.out b12 e.symm).1 rfl)
      have P13 := HN13.out.grown HG9.out (fun e => (HF.out b13 e.symm).2 rfl)
      have mk6 := HMK5.out.grownRow HMM5.out.rowOwn HG9.out
      have hx3 : row3.Pairwise (fun a b => a.X ≤ b.X) := HSO.out.imp (by
       intro a b h
       rw [ltX] at h
       simp at h
       omega)
      have hp3 : ∀ r, r ∈ row3 ↔ r ∈ keepL v row ++ newAt v (al.drop next) := fun r => HPE.out.mem_iff.trans (HP.out r)
      obtain ⟨hvu, hbet⟩ := edges_next HC.out.yr HV.out HU.out
      have hE : ∀ r ∈ al, (r.Y ≤ v ∨ u ≤ r.Y) ∧ (r.Y + r.H ≤ v ∨ u ≤ r.Y + r.H) := fun r hr => ⟨hbet _ ((HC.out.ym _).2 ((mem_ysL _ _).2 ⟨r, hr, .inl rfl⟩)), hbet _ ((HC.out.ym _).2 ((mem_ysL _ _).2 ⟨r, hr, .inr rfl⟩))⟩
      have hvb := ys_in HC.out (List.mem_of_getElem? HV.out)
      have hub := ys_in HC.out (List.mem_of_getElem? HU.out)
      have hband := band_cnt HI.out HAC.out HC.out.sy hvu hE hp3 hx3
      have hrow : ∀ r ∈ row3, r.ok := fun r hr => by
       have h1 := (hp3 r).1 hr
       refine cnt_ok (HAC.out r ?_)
       rcases List.mem_append.1 h1 with h2 | h2
       ·
        exact List.mem_of_mem_take (HI.out.rowIn r (List.mem_filter.1 h2).1)
       ·
        exact List.mem_of_mem_drop ((List.takeWhile_sublist _).mem h2)
      have hol2 : out.length ≤ 1000000000000 := Nat.le_trans hol (Nat.le_trans (Nat.mul_le_mul (show k ≤ 2097153 by omega) (show al.length ≤ 100000 by omega)) (by decide))
      have hti := fun out' above' hT => tail_inv (out' := out') (above' := above') HI.out HAC.out HC.out.sy hvu hE hp3 hx3 hT
      rw [HNW.out] at hti
      refine wp_mono (of_tail V g7 b12 b13 m cr2 above Ar2 v u out row3 vo ds _ _ _ _ _ _ _ _ _ _ _ _ _ _ _ _ _ _ _ _ _ _ _ _ _ _ _ _ _ _ _ _ _ _ _ _ _ _ _ _ _ _ _ _ _ _ _ _ _ _ _ _ _ _ _ _ _ _ _ _ _ _ _ _ _ _ _ _ _ _ _ _ _ _ _ _ _ _ _ _ _ _ _ _ _ _ _ _ _ _ _ _ _ _ _ _ _ _ _ _ _ _ _ _ _ _ _ _ _ _ _ _ _ _ _ _ _ _ _ _ _ _ _ _ _ _ _ _ _ _ _ M6 hm3 h7V P12 P13 mk6 (above_le HI.out) hol2 (by omega) hrow (out_cnt HI.out HAC.out) hband hvb.1 hvb.2 hub.1 hub.2 ?_) (then_mono hKK)
      intro out' above' vo' ds' w' x15 x16 x17 x82 x83 x84 x85 x86 x87 x88 x89 x90 x91 x92 x93 x94 x95 x96 x97 x98 x99 x100 x101 x102 x103 x104 x105 x106 x107 x108 x109 x110 x111 x112 x113 x114 x115 x116 x117 x118 x119 x120 x121 x122 x123 x124 x125 x126 x127 x128 x129 x130 hT M' mk'
      obtain ⟨hI', hl'⟩ := hti out' above' hT
      have HI2 := Lib.hid hI'
      have HM2 := Lib.hid M'
      have HMK2 := Lib.hid mk'
      have HROW := Lib.hid hrow
      have HM3 := Lib.hid hm3
      have hk1 : IntKind.i64.wrap ((k : Int) + 1) = (k : Int) + 1 := IntWalk.i64_in _ (by omega)
      clear hI' M' mk' hT hti hband hE hbet hrow hp3 hx3 M6 P12 P13 mk6 hm3 hKK
      go_wp2_with fail
      refine ⟨?_, by simp [Wmu, intOf]; omega⟩
      unfold WI
      refine ⟨_, _, _, _, _, _, _, _, _, _, _, _, _, _, _, _, _, _, _, _, _, _, _, _, _, _, _, _, _, _, _, _, _, _, _, _, _, _, _, _, _, _, _, _, _, _, _, _, _, _, _, _, _, _, _, _, _, _, _, _, _, _, _, _, _, _, _, _, _, _, _, _, _, _, _, _, _, _, _, _, _, _, _, _, _, _, _, _, _, _, _, _, _, _, _, _, _, _, _, _, _, _, _, _, _, _, _, ?_, rfl⟩
      refine ⟨k + 1, u, out', row3, above', next + nw.length, vo', rfl, by rw [HQ.out], by go_num, ⟨HU.out, HI2.out, by rw [HM3.out]; omega, ?_, HM2.out, HMK2.out⟩⟩
      rw [Nat.succ_mul]
      have := HM3.out
      omega
     ·
      have hg1 : decide ((next : Int) < (q : Int)) = false := by simp; omega
      have hnw0 : nw = [] := List.eq_nil_of_length_eq_zero (by have := HQ.out; omega)
      have HNW0 := Lib.hid hnw0
      clear hnw0
      go_upto_region 24 with fail
      rename_i hKK
      obtain ⟨row3, hrow3⟩ : ∃ row3, keepL v row ++ nw = row3 := ⟨_, rfl⟩
      have M6 := HMM5.out
      have P12 := HN12.out
      have P13 := HN13.out
      have mk6 := HMK5.out
      have hm3 := HMQ.out
      have hp3 := HP.out
      have hx3 : (keepL v row ++ nw).Pairwise (fun a b => a.X ≤ b.X) := by
       rw [HNW0.out, List.append_nil]
       exact HI.out.rowX.filter _
      rw [hrow3] at M6 hm3 hp3 hx3
      obtain ⟨hvu, hbet⟩ := edges_next HC.out.yr HV.out HU.out
      have hE : ∀ r ∈ al, (r.Y ≤ v ∨ u ≤ r.Y) ∧ (r.Y + r.H ≤ v ∨ u ≤ r.Y + r.H) := fun r hr => ⟨hbet _ ((HC.out.ym _).2 ((mem_ysL _ _).2 ⟨r, hr, .inl rfl⟩)), hbet _ ((HC.out.ym _).2 ((mem_ysL _ _).2 ⟨r, hr, .inr rfl⟩))⟩
      have hvb := ys_in HC.out (List.mem_of_getElem? HV.out)
      have hub := ys_in HC.out (List.mem_of_getElem? HU.out)
      have hband := band_cnt HI.out HAC.out HC.out.sy hvu hE hp3 hx3
      have hrow : ∀ r ∈ row3, r.ok := fun r hr => by
       have h1 := (hp3 r).1 hr
       refine cnt_ok (HAC.out r ?_)
       rcases List.mem_append.1 h1 with h2 | h2
       ·
        exact List.mem_of_mem_take (HI.out.rowIn r (List.mem_filter.1 h2).1)
       ·
        exact List.mem_of_mem_drop ((List.takeWhile_sublist _).mem h2)
      have hol2 : out.length ≤ 1000000000000 := Nat.le_trans hol (Nat.le_trans (Nat.mul_le_mul (show k ≤ 2097153 by omega) (show al.length ≤ 100000 by omega)) (by decide))
      have hti := fun out' above' hT => tail_inv (out' := out') (above' := above') HI.out HAC.out HC.out.sy hvu hE hp3 hx3 hT
      rw [HNW.out] at hti
      refine wp_mono (of_tail V g7 b12 b13 m cr2 above Ar2 v u out row3 vo ds _ _ _ _ _ _ _ _ _ _ _ _ _ _ _ _ _ _ _ _ _ _ _ _ _ _ _ _ _ _ _ _ _ _ _ _ _ _ _ _ _ _ _ _ _ _ _ _ _ _ _ _ _ _ _ _ _ _ _ _ _ _ _ _ _ _ _ _ _ _ _ _ _ _ _ _ _ _ _ _ _ _ _ _ _ _ _ _ _ _ _ _ _ _ _ _ _ _ _ _ _ _ _ _ _ _ _ _ _ _ _ _ _ _ _ _ _ _ _ _ _ _ _ _ _ _ _ _ _ _ _ M6 hm3 h7V P12 P13 mk6 (above_le HI.out) hol2 (by omega) hrow (out_cnt HI.out HAC.out) hband hvb.1 hvb.2 hub.1 hub.2 ?_) (then_mono hKK)
      intro out' above' vo' ds' w' x15 x16 x17 x82 x83 x84 x85 x86 x87 x88 x89 x90 x91 x92 x93 x94 x95 x96 x97 x98 x99 x100 x101 x102 x103 x104 x105 x106 x107 x108 x109 x110 x111 x112 x113 x114 x115 x116 x117 x118 x119 x120 x121 x122 x123 x124 x125 x126 x127 x128 x129 x130 hT M' mk'
      obtain ⟨hI', hl'⟩ := hti out' above' hT
      have HI2 := Lib.hid hI'
      have HM2 := Lib.hid M'
      have HMK2 := Lib.hid mk'
      have HROW := Lib.hid hrow
      have HM3 := Lib.hid hm3
      have hk1 : IntKind.i64.wrap ((k : Int) + 1) = (k : Int) + 1 := IntWalk.i64_in _ (by omega)
      clear hI' M' mk' hT hti hband hE hbet hrow hp3 hx3 M6 P12 P13 mk6 hm3 hKK
      go_wp2_with fail
      refine ⟨?_, by simp [Wmu, intOf]; omega⟩
      unfold WI
      refine ⟨_, _, _, _, _, _, _, _, _, _, _, _, _, _, _, _, _, _, _, _, _, _, _, _, _, _, _, _, _, _, _, _, _, _, _, _, _, _, _, _, _, _, _, _, _, _, _, _, _, _, _, _, _, _, _, _, _, _, _, _, _, _, _, _, _, _, _, _, _, _, _, _, _, _, _, _, _, _, _, _, _, _, _, _, _, _, _, _, _, _, _, _, _, _, _, _, _, _, _, _, _, _, _, _, _, _, _, ?_, rfl⟩
      refine ⟨k + 1, u, out', row3, above', next + nw.length, vo', rfl, by rw [HQ.out], by go_num, ⟨HU.out, HI2.out, by rw [HM3.out]; omega, ?_, HM2.out, HMK2.out⟩⟩
      rw [Nat.succ_mul]
      have := HM3.out
      omega

set_option maxRecDepth 1000000 in
set_option maxHeartbeats 4000000 in
theorem of_last (V : World) (g7 ga gy n2 ca cy : Nat) (al : List RC) (ys : List Int) (C : OfCtx V g7 ga gy n2 al ys) (k : Nat) (v : Int) (out row : List RC) (above next : Nat) (vo : Value) (ds : List Deferred) (wr : World) (c0 c1 c2 c4 c5 c18 c19 c20 c21 c22 c23 c24 c25 c26 c27 c28 c29 c30 c31 c32 c33 c34 c131 c132 c133 u8 u12 u13 u14 u15 u16 u17 u35 u36 u37 u38 u39 u40 u41 u42 u43 u44 u45 u46 u47 u48 u49 u50 u51 u52 u53 u54 u55 u56 u57 u58 u59 u60 u61 u62 u63 u64 u65 u66 u67 u68 u69 u70 u71 u72 u73 u74 u75 u76 u77 u78 u79 u80 u81 u82 u83 u84 u85 u86 u87 u88 u89 u90 u91 u92 u93 u94 u95 u96 u97 u98 u99 u100 u101 u102 u103 u104 u105 u106 u107 u108 u109 u110 u111 u112 u113 u114 u115 u116 u117 u118 u119 u120 u121 u122 u123 u124 u125 u126 u127 u128 u129 u130 : Value) (Q0 : Exit → Act → World → Prop)
 (R : OfRel V g7 al ys k v out row above next vo u8 ds wr) (hlast : ys.length = k + 1) (hexit : ∀ a' w'', WX V g7 ga gy n2 ca cy al ys c0 c1 c2 c4 c5 c18 c19 c20 c21 c22 c23 c24 c25 c26 c27 c28 c29 c30 c31 c32 c33 c34 c131 c132 c133 a' w'' → Q0 (.exit 2) a' w'') :
 Code.wp Tryz.prog ofBody (Exit.then (fun a' w'' => WI V g7 ga gy n2 ca cy al ys c0 c1 c2 c4 c5 c18 c19 c20 c21 c22 c23 c24 c25 c26 c27 c28 c29 c30 c31 c32 c33 c34 c131 c132 c133 a' w'' ∧ Wmu ys a' w'' < Wmu ys ⟨#[c0, c1, c2, .slice (some ⟨ga, 0, none⟩) n2 ca, c4, c5, .slice (some ⟨gy, 0, none⟩) ys.length cy, .pointer (some ⟨g7, 0, none⟩), u8, .int .i64 (above : Int), .int .i64 (next : Int), .int .i64 (k : Int), u12, u13, u14, u15, u16, u17, c18, c19, c20, c21, c22, c23, c24, c25, c26, c27, c28, c29, c30, c31, c32, c33, c34, u35, u36, u37, u38, u39, u40, u41, u42, u43, u44, u45, u46, u47, u48, u49, u50, u51, u52, u53, u54, u55, u56, u57, u58, u59, u60, u61, u62, u63, u64, u65, u66, u67, u68, u69, u70, u71, u72, u73, u74, u75, u76, u77, u78, u79, u80, u81, u82, u83, u84, u85, u86, u87, u88, u89, u90, u91, u92, u93, u94, u95, u96, u97, u98, u99, u100, u101, u102, u103, u104, u105, u106, u107, u108, u109, u110, u111, u112, u113, u114, u115, u116, u117, u118, u119, u120, u121, u122, u123, u124, u125, u126, u127, u128, u129, u130, c131, c132, c133], ds⟩ wr) Q0) ⟨#[c0, c1, c2, .slice (some ⟨ga, 0, none⟩) n2 ca, c4, c5, .slice (some ⟨gy, 0, none⟩) ys.length cy, .pointer (some ⟨g7, 0, none⟩), u8, .int .i64 (above : Int), .int .i64 (next : Int), .int .i64 (k : Int), u12, u13, u14, u15, u16, u17, c18, c19, c20, c21, c22, c23, c24, c25, c26, c27, c28, c29, c30, c31, c32, c33, c34, u35, u36, u37, u38, u39, u40, u41, u42, u43, u44, u45, u46, u47, u48, u49, u50, u51, u52, u53, u54, u55, u56, u57, u58, u59, u60, u61, u62, u63, u64, u65, u66, u67, u68, u69, u70, u71, u72, u73, u74, u75, u76, u77, u78, u79, u80, u81, u82, u83, u84, u85, u86, u87, u88, u89, u90, u91, u92, u93, u94, u95, u96, u97, u98, u99, u100, u101, u102, u103, u104, u105, u106, u107, u108, u109, u110, u111, u112, u113, u114, u115, u116, u117, u118, u119, u120, u121, u122, u123, u124, u125, u126, u127, u128, u129, u130, c131, c132, c133], ds⟩ wr := by
 have hyl := C.yl
 have hdl : decide ((k : Int) + 1 < (ys.length : Int)) = false := by simp; omega
 have hkl : k < ys.length := by omega
 have HR := Lib.hid R
 have HL := Lib.hid hlast
 clear C R hlast
 conv => arg 2; whnf
 go_wp2_with fail
 unfold WX
 refine ⟨_, _, _, _, _, _, _, _, _, _, _, _, _, _, _, _, _, _, _, _, _, _, _, _, _, _, _, _, _, _, _, _, _, _, _, _, _, _, _, _, _, _, _, _, _, _, _, _, _, _, _, _, _, _, _, _, _, _, _, _, _, _, _, _, _, _, _, _, _, _, _, _, _, _, _, _, _, _, _, _, _, _, _, _, _, _, _, _, _, _, _, _, _, _, _, _, _, _, _, _, _, _, _, _, _, _, _, ?_, rfl⟩
 exact ⟨k, v, out, row, above, next, vo, u8, HL.out, HR.out⟩

set_option maxRecDepth 1000000 in
set_option maxHeartbeats 4000000 in
theorem of_loop (V : World) (g7 ga gy n2 ca cy : Nat) (al : List RC) (ys : List Int) (C : OfCtx V g7 ga gy n2 al ys) (ds : List Deferred) (wr : World) (c0 c1 c2 c4 c5 c18 c19 c20 c21 c22 c23 c24 c25 c26 c27 c28 c29 c30 c31 c32 c33 c34 c131 c132 c133 u8 u9 u10 u11 u12 u13 u14 u15 u16 u17 u35 u36 u37 u38 u39 u40 u41 u42 u43 u44 u45 u46 u47 u48 u49 u50 u51 u52 u53 u54 u55 u56 u57 u58 u59 u60 u61 u62 u63 u64 u65 u66 u67 u68 u69 u70 u71 u72 u73 u74 u75 u76 u77 u78 u79 u80 u81 u82 u83 u84 u85 u86 u87 u88 u89 u90 u91 u92 u93 u94 u95 u96 u97 u98 u99 u100 u101 u102 u103 u104 u105 u106 u107 u108 u109 u110 u111 u112 u113 u114 u115 u116 u117 u118 u119 u120 u121 u122 u123 u124 u125 u126 u127 u128 u129 u130 : Value) (Q0 : Exit → Act → World → Prop)
 (hrel : RelV V g7 al ys ds u8 u9 u10 u11 wr) (hexit : ∀ a' w'', WX V g7 ga gy n2 ca cy al ys c0 c1 c2 c4 c5 c18 c19 c20 c21 c22 c23 c24 c25 c26 c27 c28 c29 c30 c31 c32 c33 c34 c131 c132 c133 a' w'' → Q0 (.exit 2) a' w'') :
 Code.wp Tryz.prog (Code.loop ofBody) Q0 ⟨#[c0, c1, c2, .slice (some ⟨ga, 0, none⟩) n2 ca, c4, c5, .slice (some ⟨gy, 0, none⟩) ys.length cy, .pointer (some ⟨g7, 0, none⟩), u8, u9, u10, u11, u12, u13, u14, u15, u16, u17, c18, c19, c20, c21, c22, c23, c24, c25, c26, c27, c28, c29, c30, c31, c32, c33, c34, u35, u36, u37, u38, u39, u40, u41, u42, u43, u44, u45, u46, u47, u48, u49, u50, u51, u52, u53, u54, u55, u56, u57, u58, u59, u60, u61, u62, u63, u64, u65, u66, u67, u68, u69, u70, u71, u72, u73, u74, u75, u76, u77, u78, u79, u80, u81, u82, u83, u84, u85, u86, u87, u88, u89, u90, u91, u92, u93, u94, u95, u96, u97, u98, u99, u100, u101, u102, u103, u104, u105, u106, u107, u108, u109, u110, u111, u112, u113, u114, u115, u116, u117, u118, u119, u120, u121, u122, u123, u124, u125, u126, u127, u128, u129, u130, c131, c132, c133], ds⟩ wr := by
 refine wp_loop (WI V g7 ga gy n2 ca cy al ys c0 c1 c2 c4 c5 c18 c19 c20 c21 c22 c23 c24 c25 c26 c27 c28 c29 c30 c31 c32 c33 c34 c131 c132 c133) (Wmu ys) ?_ ?_
 ·
  unfold WI
  exact ⟨u8, u9, u10, u11, u12, u13, u14, u15, u16, u17, u35, u36, u37, u38, u39, u40, u41, u42, u43, u44, u45, u46, u47, u48, u49, u50, u51, u52, u53, u54, u55, u56, u57, u58, u59, u60, u61, u62, u63, u64, u65, u66, u67, u68, u69, u70, u71, u72, u73, u74, u75, u76, u77, u78, u79, u80, u81, u82, u83, u84, u85, u86, u87, u88, u89, u90, u91, u92, u93, u94, u95, u96, u97, u98, u99, u100, u101, u102, u103, u104, u105, u106, u107, u108, u109, u110, u111, u112, u113, u114, u115, u116, u117, u118, u119, u120, u121, u122, u123, u124, u125, u126, u127, u128, u129, u130, ds, hrel, rfl⟩
 clear hrel u8 u9 u10 u11 u12 u13 u14 u15 u16 u17 u35 u36 u37 u38 u39 u40 u41 u42 u43 u44 u45 u46 u47 u48 u49 u50 u51 u52 u53 u54 u55 u56 u57 u58 u59 u60 u61 u62 u63 u64 u65 u66 u67 u68 u69 u70 u71 u72 u73 u74 u75 u76 u77 u78 u79 u80 u81 u82 u83 u84 u85 u86 u87 u88 u89 u90 u91 u92 u93 u94 u95 u96 u97 u98 u99 u100 u101 u102 u103 u104 u105 u106 u107 u108 u109 u110 u111 u112 u113 u114 u115 u116 u117 u118 u119 u120 u121 u122 u123 u124 u125 u126 u127 u128 u129 u130 ds wr
 intro a wr hI
 unfold WI at hI
 obtain ⟨u8, hI⟩ := hI
 obtain ⟨u9, hI⟩ := hI
 obtain ⟨u10, hI⟩ := hI
 obtain ⟨u11, hI⟩ := hI
 obtain ⟨u12, hI⟩ := hI
 obtain ⟨u13, hI⟩ := hI
 obtain ⟨u14, hI⟩ := hI
 obtain ⟨u15, hI⟩ := hI
 obtain ⟨u16, hI⟩ := hI
 obtain ⟨u17, hI⟩ := hI
 obtain ⟨u35, hI⟩ := hI
 obtain ⟨u36, hI⟩ := hI
 obtain ⟨u37, hI⟩ := hI
 obtain ⟨u38, hI⟩ := hI
 obtain ⟨u39, hI⟩ := hI
 obtain ⟨u40, hI⟩ := hI
 obtain ⟨u41, hI⟩ := hI
 obtain ⟨u42, hI⟩ := hI
 obtain ⟨u43, hI⟩ := hI
 obtain ⟨u44, hI⟩ := hI
 obtain ⟨u45, hI⟩ := hI
 obtain ⟨u46, hI⟩ := hI
 obtain ⟨u47, hI⟩ := hI
 obtain ⟨u48, hI⟩ := hI
 obtain ⟨u49, hI⟩ := hI
 obtain ⟨u50, hI⟩ := hI
 obtain ⟨u51, hI⟩ := hI
 obtain ⟨u52, hI⟩ := hI
 obtain ⟨u53, hI⟩ := hI
 obtain ⟨u54, hI⟩ := hI
 obtain ⟨u55, hI⟩ := hI
 obtain ⟨u56, hI⟩ := hI
 obtain ⟨u57, hI⟩ := hI
 obtain ⟨u58, hI⟩ := hI
 obtain ⟨u59, hI⟩ := hI
 obtain ⟨u60, hI⟩ := hI
 obtain ⟨u61, hI⟩ := hI
 obtain ⟨u62, hI⟩ := hI
 obtain ⟨u63, hI⟩ := hI
 obtain ⟨u64, hI⟩ := hI
 obtain ⟨u65, hI⟩ := hI
 obtain ⟨u66, hI⟩ := hI
 obtain ⟨u67, hI⟩ := hI
 obtain ⟨u68, hI⟩ := hI
 obtain ⟨u69, hI⟩ := hI
 obtain ⟨u70, hI⟩ := hI
 obtain ⟨u71, hI⟩ := hI
 obtain ⟨u72, hI⟩ := hI
 obtain ⟨u73, hI⟩ := hI
 obtain ⟨u74, hI⟩ := hI
 obtain ⟨u75, hI⟩ := hI
 obtain ⟨u76, hI⟩ := hI
 obtain ⟨u77, hI⟩ := hI
 obtain ⟨u78, hI⟩ := hI
 obtain ⟨u79, hI⟩ := hI
 obtain ⟨u80, hI⟩ := hI
 obtain ⟨u81, hI⟩ := hI
 obtain ⟨u82, hI⟩ := hI
 obtain ⟨u83, hI⟩ := hI
 obtain ⟨u84, hI⟩ := hI
 obtain ⟨u85, hI⟩ := hI
 obtain ⟨u86, hI⟩ := hI
 obtain ⟨u87, hI⟩ := hI
 obtain ⟨u88, hI⟩ := hI
 obtain ⟨u89, hI⟩ := hI
 obtain ⟨u90, hI⟩ := hI
 obtain ⟨u91, hI⟩ := hI
 obtain ⟨u92, hI⟩ := hI
 obtain ⟨u93, hI⟩ := hI
 obtain ⟨u94, hI⟩ := hI
 obtain ⟨u95, hI⟩ := hI
 obtain ⟨u96, hI⟩ := hI
 obtain ⟨u97, hI⟩ := hI
 obtain ⟨u98, hI⟩ := hI
 obtain ⟨u99, hI⟩ := hI
 obtain ⟨u100, hI⟩ := hI
 obtain ⟨u101, hI⟩ := hI
 obtain ⟨u102, hI⟩ := hI
 obtain ⟨u103, hI⟩ := hI
 obtain ⟨u104, hI⟩ := hI
 obtain ⟨u105, hI⟩ := hI
 obtain ⟨u106, hI⟩ := hI
 obtain ⟨u107, hI⟩ := hI
 obtain ⟨u108, hI⟩ := hI
 obtain ⟨u109, hI⟩ := hI
 obtain ⟨u110, hI⟩ := hI
 obtain ⟨u111, hI⟩ := hI
 obtain ⟨u112, hI⟩ := hI
 obtain ⟨u113, hI⟩ := hI
 obtain ⟨u114, hI⟩ := hI
 obtain ⟨u115, hI⟩ := hI
 obtain ⟨u116, hI⟩ := hI
 obtain ⟨u117, hI⟩ := hI
 obtain ⟨u118, hI⟩ := hI
 obtain ⟨u119, hI⟩ := hI
 obtain ⟨u120, hI⟩ := hI
 obtain ⟨u121, hI⟩ := hI
 obtain ⟨u122, hI⟩ := hI
 obtain ⟨u123, hI⟩ := hI
 obtain ⟨u124, hI⟩ := hI
 obtain ⟨u125, hI⟩ := hI
 obtain ⟨u126, hI⟩ := hI
 obtain ⟨u127, hI⟩ := hI
 obtain ⟨u128, hI⟩ := hI
 obtain ⟨u129, hI⟩ := hI
 obtain ⟨u130, hI⟩ := hI
 obtain ⟨ds, hrel, ha⟩ := hI
 obtain ⟨k, v, out, row, above, next, vo, e9, e10, e11, R⟩ := hrel
 subst e9
 subst e10
 subst e11
 subst ha
 have hk : k < ys.length := (List.getElem?_eq_some_iff.1 R.atv).1
 by_cases hlast : k + 1 < ys.length
 ·
  exact of_more V g7 ga gy n2 ca cy al ys C k v out row above next vo ds wr c0 c1 c2 c4 c5 c18 c19 c20 c21 c22 c23 c24 c25 c26 c27 c28 c29 c30 c31 c32 c33 c34 c131 c132 c133 u8 u12 u13 u14 u15 u16 u17 u35 u36 u37 u38 u39 u40 u41 u42 u43 u44 u45 u46 u47 u48 u49 u50 u51 u52 u53 u54 u55 u56 u57 u58 u59 u60 u61 u62 u63 u64 u65 u66 u67 u68 u69 u70 u71 u72 u73 u74 u75 u76 u77 u78 u79 u80 u81 u82 u83 u84 u85 u86 u87 u88 u89 u90 u91 u92 u93 u94 u95 u96 u97 u98 u99 u100 u101 u102 u103 u104 u105 u106 u107 u108 u109 u110 u111 u112 u113 u114 u115 u116 u117 u118 u119 u120 u121 u122 u123 u124 u125 u126 u127 u128 u129 u130 Q0 R hlast
 ·
  exact of_last V g7 ga gy n2 ca cy al ys C k v out row above next vo ds wr c0 c1 c2 c4 c5 c18 c19 c20 c21 c22 c23 c24 c25 c26 c27 c28 c29 c30 c31 c32 c33 c34 c131 c132 c133 u8 u12 u13 u14 u15 u16 u17 u35 u36 u37 u38 u39 u40 u41 u42 u43 u44 u45 u46 u47 u48 u49 u50 u51 u52 u53 u54 u55 u56 u57 u58 u59 u60 u61 u62 u63 u64 u65 u66 u67 u68 u69 u70 u71 u72 u73 u74 u75 u76 u77 u78 u79 u80 u81 u82 u83 u84 u85 u86 u87 u88 u89 u90 u91 u92 u93 u94 u95 u96 u97 u98 u99 u100 u101 u102 u103 u104 u105 u106 u107 u108 u109 u110 u111 u112 u113 u114 u115 u116 u117 u118 u119 u120 u121 u122 u123 u124 u125 u126 u127 u128 u129 u130 Q0 R (by omega) hexit

end Go.Proofs.YtdaedkolpfkdjaaGreat
end
