/-
  The last two regions of the law GridBack, as pieces of its code.
-/
import Derived.Test.YtcdecglbkcllaabGridBackM
import Derived.Test.YtcdecglbkcllaabGridWalkM
import Derived.Test.YtcdecglbkcllaabKeepG
import Derived.Test.YtcdecglbkcllaabGridFillE
namespace Go.Proofs.Ytcdecglbkcllaab
open Go.RowKit Go.Shelf

/-- behind the loops. -/
noncomputable def bkTail : Code := sndC (sndC (sndC (sndC (sndC (sndC (sndC (sndC (sndC (sndC (Try.f8.body.getD .skip))))))))))

/-- what holds in the region, whatever part of its operations is done. -/
structure BackFJ (p q : Int) (W H gg c1 : Nat) (px : List Int) (A1 L : Option Addr) (nl cl : Nat) (ss : List Sm) (w : World) (u0 u1 u5 u6 u7 u8 u9 u10 u12 u13 u14 u15 u16 u17 u18 u19 u20 u21 u23 u24 u25 u26 u27 u28 u29 u30 u31 u32 u33 u34 u35 u36 u37 u38 u39 u40 u41 u42 u43 u44 u45 u46 u47 u48 u49 u50 u51 u52 u53 u54 u55 u56 u57 u58 u59 u60 u61 u62 u63 u64 u65 u66 u67 u68 u69 u70 u71 u72 u73 u74 u75 u76 u77 u78 u79 u80 u81 u82 u83 u84 u85 u86 u87 u88 u89 u90 u91 u92 u93 u94 u95 u96 u97 u98 u99 u100 u101 u102 u103 u104 u105 u106 u107 u108 u109 u110 u111 u112 u113 u114 u115 u116 u117 u118 u119 u120 u121 u122 u123 u124 u125 u126 u127 u128 u129 u130 u131 u132 u139 u140 u141 u142 u143 u144 u145 u146 u147 u148 u149 u150 u151 u152 u153 u154 u155 u156 u157 u158 u159 u160 u161 u162 u163 : Value) (d : Nat → Bool) (s133 : Value) (s134 : Value) (s135 : Value) (s136 : Value) (s137 : Value) (s138 : Value) (s22 : Value) (Ar : Option Addr) (cr : Nat) (oL : List RC) (A3 : Option Addr) (c3 : Nat) (A2 : Option Addr) (gA : Nat) (wx : World) : Prop where
  bg : Blk wx gg 25 #[.int .i64 W, .int .i64 H, .slice A1 (W * H) c1]
  bb : Below w.heap.size w wx
  f0 : d 0 = true → s133 = .agg #[.int .i64 W, .int .i64 H, .slice A1 (W * H) c1]
  f1 : d 1 = true → s134 = .slice L nl cl
  f2 : d 2 = true → s135 = .slice Ar nl cr ∧ RdR wx Ar nl (ss.map Sm.rc)
  f3 : d 3 = true → s136 = .agg #[.slice A3 oL.length c3] ∧ RdR wx A3 oL.length oL ∧ Canon oL ∧ (∀ x y, InR oL x y ↔ InR ((ss.map Sm.rc).filter RC.cnt) x y) ∧ oL.length ≤ 1000000000000
  f4 : d 4 = true → s137 = .int .u8 p
  f5 : d 5 = true → s138 = .agg #[.int .i64 W, .int .i64 H, .slice A2 (W * H) (W * H)] ∧ Rd wx A2 (W * H) (U8 (lay W (fun _ _ => some p) (anyP oL) px))
  f6 : d 6 = true → s22 = .pointer (some ⟨gA, 0, none⟩) ∧ w.heap.size ≤ gA
  z6 : d 6 = true → d 7 = false → Blk wx gA 25 #[.int .i64 0, .int .i64 0, .slice none 0 0]
  y6 : d 7 = true → Blk wx gA 25 #[.int .i64 W, .int .i64 H, .slice A2 (W * H) (W * H)]
theorem BackFJ.mono {p q : Int} {W H gg c1 : Nat} {px : List Int} {A1 L : Option Addr} {nl cl : Nat} {ss : List Sm} {w : World} {u0 u1 u5 u6 u7 u8 u9 u10 u12 u13 u14 u15 u16 u17 u18 u19 u20 u21 u23 u24 u25 u26 u27 u28 u29 u30 u31 u32 u33 u34 u35 u36 u37 u38 u39 u40 u41 u42 u43 u44 u45 u46 u47 u48 u49 u50 u51 u52 u53 u54 u55 u56 u57 u58 u59 u60 u61 u62 u63 u64 u65 u66 u67 u68 u69 u70 u71 u72 u73 u74 u75 u76 u77 u78 u79 u80 u81 u82 u83 u84 u85 u86 u87 u88 u89 u90 u91 u92 u93 u94 u95 u96 u97 u98 u99 u100 u101 u102 u103 u104 u105 u106 u107 u108 u109 u110 u111 u112 u113 u114 u115 u116 u117 u118 u119 u120 u121 u122 u123 u124 u125 u126 u127 u128 u129 u130 u131 u132 u139 u140 u141 u142 u143 u144 u145 u146 u147 u148 u149 u150 u151 u152 u153 u154 u155 u156 u157 u158 u159 u160 u161 u162 u163 : Value} {d : Nat → Bool} {s133 : Value} {s134 : Value} {s135 : Value} {s136 : Value} {s137 : Value} {s138 : Value} {s22 : Value} {Ar : Option Addr} {cr : Nat} {oL : List RC} {A3 : Option Addr} {c3 : Nat} {A2 : Option Addr} {gA : Nat} {wx wy : World} (F : BackFJ p q W H gg c1 px A1 L nl cl ss w u0 u1 u5 u6 u7 u8 u9 u10 u12 u13 u14 u15 u16 u17 u18 u19 u20 u21 u23 u24 u25 u26 u27 u28 u29 u30 u31 u32 u33 u34 u35 u36 u37 u38 u39 u40 u41 u42 u43 u44 u45 u46 u47 u48 u49 u50 u51 u52 u53 u54 u55 u56 u57 u58 u59 u60 u61 u62 u63 u64 u65 u66 u67 u68 u69 u70 u71 u72 u73 u74 u75 u76 u77 u78 u79 u80 u81 u82 u83 u84 u85 u86 u87 u88 u89 u90 u91 u92 u93 u94 u95 u96 u97 u98 u99 u100 u101 u102 u103 u104 u105 u106 u107 u108 u109 u110 u111 u112 u113 u114 u115 u116 u117 u118 u119 u120 u121 u122 u123 u124 u125 u126 u127 u128 u129 u130 u131 u132 u139 u140 u141 u142 u143 u144 u145 u146 u147 u148 u149 u150 u151 u152 u153 u154 u155 u156 u157 u158 u159 u160 u161 u162 u163 d s133 s134 s135 s136 s137 s138 s22 Ar cr oL A3 c3 A2 gA wx) {t : Nat} (hk : KeepG w.heap.size t wx wy) (hgg : gg < w.heap.size) (h1 : t ≠ 25) : BackFJ p q W H gg c1 px A1 L nl cl ss w u0 u1 u5 u6 u7 u8 u9 u10 u12 u13 u14 u15 u16 u17 u18 u19 u20 u21 u23 u24 u25 u26 u27 u28 u29 u30 u31 u32 u33 u34 u35 u36 u37 u38 u39 u40 u41 u42 u43 u44 u45 u46 u47 u48 u49 u50 u51 u52 u53 u54 u55 u56 u57 u58 u59 u60 u61 u62 u63 u64 u65 u66 u67 u68 u69 u70 u71 u72 u73 u74 u75 u76 u77 u78 u79 u80 u81 u82 u83 u84 u85 u86 u87 u88 u89 u90 u91 u92 u93 u94 u95 u96 u97 u98 u99 u100 u101 u102 u103 u104 u105 u106 u107 u108 u109 u110 u111 u112 u113 u114 u115 u116 u117 u118 u119 u120 u121 u122 u123 u124 u125 u126 u127 u128 u129 u130 u131 u132 u139 u140 u141 u142 u143 u144 u145 u146 u147 u148 u149 u150 u151 u152 u153 u154 u155 u156 u157 u158 u159 u160 u161 u162 u163 d s133 s134 s135 s136 s137 s138 s22 Ar cr oL A3 c3 A2 gA wy :=
  ⟨hk.blk F.bg (.inr hgg), hk.below F.bb, F.f0, F.f1, fun h => ⟨(F.f2 h).1, hk.rdr (F.f2 h).2⟩, fun h => ⟨(F.f3 h).1, hk.rdr (F.f3 h).2.1, (F.f3 h).2.2⟩, F.f4, fun h => ⟨(F.f5 h).1, hk.rd (F.f5 h).2⟩, F.f6, fun h h2 => hk.blk (F.z6 h h2) (.inl (Ne.symm h1)), fun h => hk.blk (F.y6 h) (.inl (Ne.symm h1))⟩
def BackFJJ (p q : Int) (W H gg c1 : Nat) (px : List Int) (A1 L : Option Addr) (nl cl : Nat) (ss : List Sm) (w : World) (u0 u1 u5 u6 u7 u8 u9 u10 u12 u13 u14 u15 u16 u17 u18 u19 u20 u21 u23 u24 u25 u26 u27 u28 u29 u30 u31 u32 u33 u34 u35 u36 u37 u38 u39 u40 u41 u42 u43 u44 u45 u46 u47 u48 u49 u50 u51 u52 u53 u54 u55 u56 u57 u58 u59 u60 u61 u62 u63 u64 u65 u66 u67 u68 u69 u70 u71 u72 u73 u74 u75 u76 u77 u78 u79 u80 u81 u82 u83 u84 u85 u86 u87 u88 u89 u90 u91 u92 u93 u94 u95 u96 u97 u98 u99 u100 u101 u102 u103 u104 u105 u106 u107 u108 u109 u110 u111 u112 u113 u114 u115 u116 u117 u118 u119 u120 u121 u122 u123 u124 u125 u126 u127 u128 u129 u130 u131 u132 u139 u140 u141 u142 u143 u144 u145 u146 u147 u148 u149 u150 u151 u152 u153 u154 u155 u156 u157 u158 u159 u160 u161 u162 u163 : Value) (ds : List Deferred) (d : Nat → Bool) (act : Act) (wx : World) : Prop :=
  ∃ (s133 : Value) (s134 : Value) (s135 : Value) (s136 : Value) (s137 : Value) (s138 : Value) (s22 : Value) (Ar : Option Addr) (cr : Nat) (oL : List RC) (A3 : Option Addr) (c3 : Nat) (A2 : Option Addr) (gA : Nat), act = ⟨#[u0, u1, .slice L nl cl, .int .u8 p, .int .u8 q, u5, u6, u7, u8, u9, u10, .pointer (some ⟨gg, 0, none⟩), u12, u13, u14, u15, u16, u17, u18, u19, u20, u21, s22, u23, u24, u25, u26, u27, u28, u29, u30, u31, u32, u33, u34, u35, u36, u37, u38, u39, u40, u41, u42, u43, u44, u45, u46, u47, u48, u49, u50, u51, u52, u53, u54, u55, u56, u57, u58, u59, u60, u61, u62, u63, u64, u65, u66, u67, u68, u69, u70, u71, u72, u73, u74, u75, u76, u77, u78, u79, u80, u81, u82, u83, u84, u85, u86, u87, u88, u89, u90, u91, u92, u93, u94, u95, u96, u97, u98, u99, u100, u101, u102, u103, u104, u105, u106, u107, u108, u109, u110, u111, u112, u113, u114, u115, u116, u117, u118, u119, u120, u121, u122, u123, u124, u125, u126, u127, u128, u129, u130, u131, u132, s133, s134, s135, s136, s137, s138, u139, u140, u141, u142, u143, u144, u145, u146, u147, u148, u149, u150, u151, u152, u153, u154, u155, u156, u157, u158, u159, u160, u161, u162, u163], ds⟩ ∧ BackFJ p q W H gg c1 px A1 L nl cl ss w u0 u1 u5 u6 u7 u8 u9 u10 u12 u13 u14 u15 u16 u17 u18 u19 u20 u21 u23 u24 u25 u26 u27 u28 u29 u30 u31 u32 u33 u34 u35 u36 u37 u38 u39 u40 u41 u42 u43 u44 u45 u46 u47 u48 u49 u50 u51 u52 u53 u54 u55 u56 u57 u58 u59 u60 u61 u62 u63 u64 u65 u66 u67 u68 u69 u70 u71 u72 u73 u74 u75 u76 u77 u78 u79 u80 u81 u82 u83 u84 u85 u86 u87 u88 u89 u90 u91 u92 u93 u94 u95 u96 u97 u98 u99 u100 u101 u102 u103 u104 u105 u106 u107 u108 u109 u110 u111 u112 u113 u114 u115 u116 u117 u118 u119 u120 u121 u122 u123 u124 u125 u126 u127 u128 u129 u130 u131 u132 u139 u140 u141 u142 u143 u144 u145 u146 u147 u148 u149 u150 u151 u152 u153 u154 u155 u156 u157 u158 u159 u160 u161 u162 u163 d s133 s134 s135 s136 s137 s138 s22 Ar cr oL A3 c3 A2 gA wx

set_option maxRecDepth 1000000 in
set_option maxHeartbeats 8000000 in
theorem back_fill (p q : Int) (W H gg c1 : Nat) (px : List Int) (A1 L : Option Addr) (nl cl : Nat) (ss : List Sm) (w : World) (u0 u1 u5 u6 u7 u8 u9 u10 u12 u13 u14 u15 u16 u17 u18 u19 u20 u21 u22 u23 u24 u25 u26 u27 u28 u29 u30 u31 u32 u33 u34 u35 u36 u37 u38 u39 u40 u41 u42 u43 u44 u45 u46 u47 u48 u49 u50 u51 u52 u53 u54 u55 u56 u57 u58 u59 u60 u61 u62 u63 u64 u65 u66 u67 u68 u69 u70 u71 u72 u73 u74 u75 u76 u77 u78 u79 u80 u81 u82 u83 u84 u85 u86 u87 u88 u89 u90 u91 u92 u93 u94 u95 u96 u97 u98 u99 u100 u101 u102 u103 u104 u105 u106 u107 u108 u109 u110 u111 u112 u113 u114 u115 u116 u117 u118 u119 u120 u121 u122 u123 u124 u125 u126 u127 u128 u129 u130 u131 u132 u133 u134 u135 u136 u137 u138 u139 u140 u141 u142 u143 u144 u145 u146 u147 u148 u149 u150 u151 u152 u153 u154 u155 u156 u157 u158 u159 u160 u161 u162 u163 : Value) (K0 : Act → World → Prop) (Q : Exit → Act → World → Prop) (hK0 : ∀ a w, Code.wp Try.prog (sndC bkTail) Q a w → K0 a w)
    (hW : 1 ≤ W ∧ W ≤ 16) (hH : 1 ≤ H ∧ H ≤ 16) (hnl : nl ≤ 12) (hgg : gg < w.heap.size) (hbg : Blk w gg 25 #[.int .i64 W, .int .i64 H, .slice A1 (W * H) c1]) (hr : Rd w A1 (W * H) (U8 px)) (hs : RdS w L nl ss) (hok : ∀ s ∈ ss, s.ok)
    (hQ : ∀ (oL : List RC) (A2 : Option Addr) (gA : Nat) (w' : World) (s133 s134 s135 s136 s137 s138 : Value), Below w.heap.size w w' → Blk w' gg 25 #[.int .i64 W, .int .i64 H, .slice A1 (W * H) c1] → Blk w' gA 25 #[.int .i64 W, .int .i64 H, .slice A2 (W * H) (W * H)] → Rd w' A2 (W * H) (U8 (lay W (fun _ _ => some p) (anyP oL) px)) → Canon oL → (∀ x y, InR oL x y ↔ InR ((ss.map Sm.rc).filter RC.cnt) x y) →
      Code.wp Try.prog (sndC bkTail) Q ⟨#[u0, u1, .slice L nl cl, .int .u8 p, .int .u8 q, u5, u6, u7, u8, u9, u10, .pointer (some ⟨gg, 0, none⟩), u12, u13, u14, u15, u16, u17, u18, u19, u20, u21, .pointer (some ⟨gA, 0, none⟩), u23, u24, u25, u26, u27, u28, u29, u30, u31, u32, u33, u34, u35, u36, u37, u38, u39, u40, u41, u42, u43, u44, u45, u46, u47, u48, u49, u50, u51, u52, u53, u54, u55, u56, u57, u58, u59, u60, u61, u62, u63, u64, u65, u66, u67, u68, u69, u70, u71, u72, u73, u74, u75, u76, u77, u78, u79, u80, u81, u82, u83, u84, u85, u86, u87, u88, u89, u90, u91, u92, u93, u94, u95, u96, u97, u98, u99, u100, u101, u102, u103, u104, u105, u106, u107, u108, u109, u110, u111, u112, u113, u114, u115, u116, u117, u118, u119, u120, u121, u122, u123, u124, u125, u126, u127, u128, u129, u130, u131, u132, s133, s134, s135, s136, s137, s138, u139, u140, u141, u142, u143, u144, u145, u146, u147, u148, u149, u150, u151, u152, u153, u154, u155, u156, u157, u158, u159, u160, u161, u162, u163], []⟩ w') :
    Code.wp Try.prog (fstC bkTail) (Exit.then K0 Q) ⟨#[u0, u1, .slice L nl cl, .int .u8 p, .int .u8 q, u5, u6, u7, u8, u9, u10, .pointer (some ⟨gg, 0, none⟩), u12, u13, u14, u15, u16, u17, u18, u19, u20, u21, u22, u23, u24, u25, u26, u27, u28, u29, u30, u31, u32, u33, u34, u35, u36, u37, u38, u39, u40, u41, u42, u43, u44, u45, u46, u47, u48, u49, u50, u51, u52, u53, u54, u55, u56, u57, u58, u59, u60, u61, u62, u63, u64, u65, u66, u67, u68, u69, u70, u71, u72, u73, u74, u75, u76, u77, u78, u79, u80, u81, u82, u83, u84, u85, u86, u87, u88, u89, u90, u91, u92, u93, u94, u95, u96, u97, u98, u99, u100, u101, u102, u103, u104, u105, u106, u107, u108, u109, u110, u111, u112, u113, u114, u115, u116, u117, u118, u119, u120, u121, u122, u123, u124, u125, u126, u127, u128, u129, u130, u131, u132, u133, u134, u135, u136, u137, u138, u139, u140, u141, u142, u143, u144, u145, u146, u147, u148, u149, u150, u151, u152, u153, u154, u155, u156, u157, u158, u159, u160, u161, u162, u163], []⟩ w := by
  have HBG := Lib.hid (show Blk w.drew gg 25 #[.int .i64 W, .int .i64 H, .slice A1 (W * H) c1] from hbg)
  have HRG := Lib.hid hr
  have HS := Lib.hid hs
  have HOK := Lib.hid hok
  have HQ := Lib.hid hQ
  have HK0 := Lib.hid hK0
  clear hbg hr hs hok hQ hK0
  conv => arg 2; whnf
  refine wp_region_inv Try.mixed (BackFJJ p q W H gg c1 px A1 L nl cl ss w u0 u1 u5 u6 u7 u8 u9 u10 u12 u13 u14 u15 u16 u17 u18 u19 u20 u21 u23 u24 u25 u26 u27 u28 u29 u30 u31 u32 u33 u34 u35 u36 u37 u38 u39 u40 u41 u42 u43 u44 u45 u46 u47 u48 u49 u50 u51 u52 u53 u54 u55 u56 u57 u58 u59 u60 u61 u62 u63 u64 u65 u66 u67 u68 u69 u70 u71 u72 u73 u74 u75 u76 u77 u78 u79 u80 u81 u82 u83 u84 u85 u86 u87 u88 u89 u90 u91 u92 u93 u94 u95 u96 u97 u98 u99 u100 u101 u102 u103 u104 u105 u106 u107 u108 u109 u110 u111 u112 u113 u114 u115 u116 u117 u118 u119 u120 u121 u122 u123 u124 u125 u126 u127 u128 u129 u130 u131 u132 u139 u140 u141 u142 u143 u144 u145 u146 u147 u148 u149 u150 u151 u152 u153 u154 u155 u156 u157 u158 u159 u160 u161 u162 u163 []) (by kernel_rfl) ?_ ?_ ?_
  · exact ⟨_, _, _, _, _, _, _, none, 0, [], none, 0, none, 0, rfl, ⟨HBG.out, (bre w).drew, (fun h => by cases h), (fun h => by cases h), (fun h => by cases h), (fun h => by cases h), (fun h => by cases h), (fun h => by cases h), (fun h => by cases h), (fun h _ => by cases h), (fun h => by cases h)⟩⟩
  · intro i o ho
    match i, ho with
    | 0, ho =>
      have eo := Option.some.inj ho
      subst eo
      intro d a' wx K hJ hdi hon hcl hK
      obtain ⟨s133, s134, s135, s136, s137, s138, s22, Ar, cr, oL, A3, c3, A2, gA, rfl, F⟩ := hJ
      have q0 := F.bg.cellV (i := 0) rfl
      have q1 := F.bg.cellV (i := 1) rfl
      have q2 := F.bg.cellV (i := 2) rfl
      have HF := Lib.hid F
      have HCL := Lib.hid hcl
      have HON := Lib.hid hon
      have HDI := Lib.hid hdi
      clear F hon hcl hdi ho
      go_simp
      exact hK.out _ _ ⟨_, _, _, _, _, _, _, Ar, cr, oL, A3, c3, A2, gA, rfl, ⟨HF.out.bg, HF.out.bb, fun _ => rfl, HF.out.f1, HF.out.f2, HF.out.f3, HF.out.f4, HF.out.f5, HF.out.f6, HF.out.z6, HF.out.y6⟩⟩
    | 1, ho =>
      have eo := Option.some.inj ho
      subst eo
      intro d a' wx K hJ hdi hon hcl hK
      obtain ⟨s133, s134, s135, s136, s137, s138, s22, Ar, cr, oL, A3, c3, A2, gA, rfl, F⟩ := hJ
      have HF := Lib.hid F
      have HCL := Lib.hid hcl
      have HON := Lib.hid hon
      have HDI := Lib.hid hdi
      clear F hon hcl hdi ho
      go_simp
      exact hK.out _ _ ⟨_, _, _, _, _, _, _, Ar, cr, oL, A3, c3, A2, gA, rfl, ⟨HF.out.bg, HF.out.bb, HF.out.f0, fun _ => rfl, HF.out.f2, HF.out.f3, HF.out.f4, HF.out.f5, HF.out.f6, HF.out.z6, HF.out.y6⟩⟩
    | 2, ho =>
      have eo := Option.some.inj ho
      subst eo
      intro d a' wx K hJ hdi hon hcl hK
      obtain ⟨s133, s134, s135, s136, s137, s138, s22, Ar, cr, oL, A3, c3, A2, gA, rfl, F⟩ := hJ
      have e := F.f1 (hon 1 (by kernel_rfl))
      subst e
      have hrx := HS.out.below F.bb
      have HRX := Lib.hid hrx
      clear hrx
      have HF := Lib.hid F
      have HCL := Lib.hid hcl
      have HON := Lib.hid hon
      have HDI := Lib.hid hdi
      clear F hon hcl hdi ho
      go_simp
      go_at_call 29
      refine (smalls_any L nl cl ss _ (by omega) HRX.out HOK.out).mono ?_
      rintro e w1 ⟨B1, k1, rfl, r1, _, b1⟩
      have FM := HF.out.mono (KeepG.bel (lo := w.heap.size) (t := 0) b1) hgg (by decide)
      exact hK.out _ _ ⟨_, _, _, _, _, _, _, B1, k1, oL, A3, c3, A2, gA, rfl, ⟨FM.bg, FM.bb, FM.f0, FM.f1, fun _ => ⟨rfl, r1⟩, FM.f3, FM.f4, FM.f5, FM.f6, FM.z6, FM.y6⟩⟩
    | 3, ho =>
      have eo := Option.some.inj ho
      subst eo
      intro d a' wx K hJ hdi hon hcl hK
      obtain ⟨s133, s134, s135, s136, s137, s138, s22, Ar, cr, oL, A3, c3, A2, gA, rfl, F⟩ := hJ
      obtain ⟨e, hrx⟩ := F.f2 (hon 2 (by kernel_rfl))
      subst e
      have HRX := Lib.hid hrx
      clear hrx
      have HF := Lib.hid F
      have HCL := Lib.hid hcl
      have HON := Lib.hid hon
      have HDI := Lib.hid hdi
      clear F hon hcl hdi ho
      go_simp
      go_at_call 28
      refine (of_any Ar nl cr (ss.map Sm.rc) _ (by omega) HRX.out (smalls_big HOK.out)).mono ?_
      rintro e w1 ⟨out1, B1, k1, rfl, r1, hca, hpl, hol, b1⟩
      have FM := HF.out.mono (KeepG.bel (lo := w.heap.size) (t := 0) b1) hgg (by decide)
      exact hK.out _ _ ⟨_, _, _, _, _, _, _, Ar, cr, out1, B1, k1, A2, gA, rfl, ⟨FM.bg, FM.bb, FM.f0, FM.f1, FM.f2, fun _ => ⟨rfl, r1, hca, hpl, hol⟩, FM.f4, (fun h => absurd (HCL.out 5 3 (by kernel_rfl) h) (by rw [HDI.out]; decide)), FM.f6, FM.z6, FM.y6⟩⟩
    | 4, ho =>
      have eo := Option.some.inj ho
      subst eo
      intro d a' wx K hJ hdi hon hcl hK
      obtain ⟨s133, s134, s135, s136, s137, s138, s22, Ar, cr, oL, A3, c3, A2, gA, rfl, F⟩ := hJ
      have HF := Lib.hid F
      have HCL := Lib.hid hcl
      have HON := Lib.hid hon
      have HDI := Lib.hid hdi
      clear F hon hcl hdi ho
      go_simp
      exact hK.out _ _ ⟨_, _, _, _, _, _, _, Ar, cr, oL, A3, c3, A2, gA, rfl, ⟨HF.out.bg, HF.out.bb, HF.out.f0, HF.out.f1, HF.out.f2, HF.out.f3, fun _ => rfl, HF.out.f5, HF.out.f6, HF.out.z6, HF.out.y6⟩⟩
    | 5, ho =>
      have eo := Option.some.inj ho
      subst eo
      intro d a' wx K hJ hdi hon hcl hK
      obtain ⟨s133, s134, s135, s136, s137, s138, s22, Ar, cr, oL, A3, c3, A2, gA, rfl, F⟩ := hJ
      have e0 := F.f0 (hon 0 (by kernel_rfl))
      subst e0
      obtain ⟨e3, hr3, hca, hpl, hol⟩ := F.f3 (hon 3 (by kernel_rfl))
      subst e3
      have e4 := F.f4 (hon 4 (by kernel_rfl))
      subst e4
      have hcn := region_cnt hca hpl
      have HR1 := Lib.hid (HRG.out.below F.bb)
      have HR3 := Lib.hid hr3
      have HCN := Lib.hid hcn
      clear hr3 hcn hca hpl
      have HF := Lib.hid F
      have HCL := Lib.hid hcl
      have HON := Lib.hid hon
      have HDI := Lib.hid hdi
      clear F hon hcl hdi ho
      go_simp
      go_at_call 27
      refine (fill_any W H px p A1 A3 (W * H) c1 oL.length c3 oL _ rfl (by omega) (by omega) HR1.out hol HR3.out HCN.out).mono ?_
      rintro e w1 ⟨B1, rfl, r1, _, b1⟩
      have FM := HF.out.mono (KeepG.bel (lo := w.heap.size) (t := 0) b1) hgg (by decide)
      exact hK.out _ _ ⟨_, _, _, _, _, _, _, Ar, cr, oL, A3, c3, B1, gA, rfl, ⟨FM.bg, FM.bb, FM.f0, FM.f1, FM.f2, FM.f3, FM.f4, fun _ => ⟨rfl, r1⟩, FM.f6, FM.z6, (fun h => absurd (HCL.out 7 5 (by kernel_rfl) h) (by rw [HDI.out]; decide))⟩⟩
    | 6, ho =>
      have eo := Option.some.inj ho
      subst eo
      intro d a' wx K hJ hdi hon hcl hK
      obtain ⟨s133, s134, s135, s136, s137, s138, s22, Ar, cr, oL, A3, c3, A2, gA, rfl, F⟩ := hJ
      have hbs := F.bb.size
      have HF := Lib.hid F
      have HCL := Lib.hid hcl
      have HON := Lib.hid hon
      have HDI := Lib.hid hdi
      clear F hon hcl hdi ho
      go_simp
      have FM := HF.out.mono (KeepG.bel (lo := w.heap.size) (t := 0) (bal (bre wx) (.cells #[.int .i64 0, .int .i64 0, .slice none 0 0] 25))) hgg (by decide)
      exact hK.out _ _ ⟨_, _, _, _, _, _, _, Ar, cr, oL, A3, c3, A2, wx.heap.size, rfl, ⟨FM.bg, FM.bb, FM.f0, FM.f1, FM.f2, FM.f3, FM.f4, FM.f5, fun _ => ⟨rfl, hbs⟩, fun _ _ => Blk.new wx _ _, (fun h => absurd (HCL.out 7 6 (by kernel_rfl) h) (by rw [HDI.out]; decide))⟩⟩
    | 7, ho =>
      have eo := Option.some.inj ho
      subst eo
      intro d a' wx K hJ hdi hon hcl hK
      obtain ⟨s133, s134, s135, s136, s137, s138, s22, Ar, cr, oL, A3, c3, A2, gA, rfl, F⟩ := hJ
      obtain ⟨ep, hgl⟩ := F.f6 (hon 6 (by kernel_rfl))
      subst ep
      have ev := (F.f5 (hon 5 (by kernel_rfl))).1
      subst ev
      have bz := F.z6 (hon 6 (by kernel_rfl)) hdi
      have zc0 := bz.cellV (i := 0) rfl
      have zc1 := bz.cellV (i := 1) rfl
      have zc2 := bz.cellV (i := 2) rfl
      have z0 := bz.frozen 0
      have z1 := bz.frozen 1
      have z2 := bz.frozen 2
      have HBZ := Lib.hid bz
      clear bz
      have HF := Lib.hid F
      have HCL := Lib.hid hcl
      have HON := Lib.hid hon
      have HDI := Lib.hid hdi
      clear F hon hcl hdi ho
      go_simp
      obtain ⟨hk, hb2⟩ := box_set (lo := w.heap.size) (x' := (W : Int)) (y' := (H : Int)) (B' := A2) (n' := W * H) (c' := W * H) HBZ.out hgl
      exact hK.out _ _ ⟨_, _, _, _, _, _, _, Ar, cr, oL, A3, c3, A2, gA, rfl, ⟨hk.blk HF.out.bg (.inr hgg), hk.below HF.out.bb, HF.out.f0, HF.out.f1, fun h => ⟨(HF.out.f2 h).1, hk.rdr (HF.out.f2 h).2⟩, fun h => ⟨(HF.out.f3 h).1, hk.rdr (HF.out.f3 h).2.1, (HF.out.f3 h).2.2⟩, HF.out.f4, fun h => ⟨(HF.out.f5 h).1, hk.rd (HF.out.f5 h).2⟩, HF.out.f6, (fun _ h => by cases h), fun _ => hb2⟩⟩
    | n + 8, ho => simp at ho
  · intro d a' wx hJ hall hcl
    obtain ⟨s133, s134, s135, s136, s137, s138, s22, Ar, cr, oL, A3, c3, A2, gA, rfl, F⟩ := hJ
    have e6 := F.f6 (hall 6 (by decide))
    obtain ⟨e6, h6⟩ := e6
    subst e6
    obtain ⟨_, _, hca, hpl, _⟩ := F.f3 (hall 3 (by decide))
    exact HK0.out _ _ (HQ.out oL A2 gA wx s133 s134 s135 s136 s137 s138 F.bb F.bg (F.y6 (hall 7 (by decide))) (F.f5 (hall 5 (by decide))).2 hca hpl)

theorem bkTail_seq : sndC bkTail = .seq (fstC (sndC bkTail)) (sndC (sndC bkTail)) := by kernel_rfl
theorem bk_wp {Q : Exit → Act → World → Prop} {a : Act} {w : World} (h : Code.wp Try.prog (fstC (sndC bkTail)) (Exit.then (Code.wp Try.prog (sndC (sndC bkTail)) Q) Q) a w) : Code.wp Try.prog (sndC bkTail) Q a w := by
  rw [bkTail_seq]
  exact wp_seq h
theorem bkRet : sndC (sndC bkTail) = .ret := by kernel_rfl

set_option maxRecDepth 1000000 in
set_option maxHeartbeats 8000000 in
theorem back_end (p q : Int) (W H gg gA c1 : Nat) (px : List Int) (A1 A2 L Ac : Option Addr) (nl cl nc cc : Nat) (ss : List Sm) (oL : List RC) (w : World) (u0 u1 u5 u6 u7 u8 u9 u10 u12 u13 u14 u15 u16 u17 u18 u20 u21 u23 u24 u25 u26 u27 u28 u29 u30 u31 u32 u33 u34 u35 u36 u37 u38 u39 u40 u41 u42 u43 u44 u45 u46 u47 u48 u49 u50 u51 u52 u53 u54 u55 u56 u57 u58 u59 u60 u61 u62 u63 u64 u65 u66 u67 u68 u69 u70 u71 u72 u73 u74 u75 u76 u77 u78 u79 u80 u81 u82 u83 u84 u85 u86 u87 u88 u89 u90 u91 u92 u93 u94 u95 u96 u97 u98 u99 u100 u101 u102 u103 u104 u105 u106 u107 u108 u109 u110 u111 u112 u113 u114 u115 u116 u117 u118 u119 u120 u121 u122 u123 u124 u125 u126 u127 u128 u129 u130 u131 u132 u133 u134 u135 u136 u137 u138 u139 u140 u141 u142 u143 u144 u145 u146 u147 u148 u149 u150 u151 u152 u153 u154 u155 u156 u157 u158 u159 u160 u161 u162 u163 : Value) (Q : Exit → Act → World → Prop)
    (hW : 1 ≤ W ∧ W ≤ 16) (hH : 1 ≤ H ∧ H ≤ 16) (hnl : nl ≤ 12) (hnc : nc ≤ 300) (hpx : px.length = W * H) (hbg : Blk w gg 25 #[.int .i64 W, .int .i64 H, .slice A1 (W * H) c1]) (hba : Blk w gA 25 #[.int .i64 W, .int .i64 H, .slice A2 (W * H) (W * H)]) (hr : Rd w A1 (W * H) (U8 px)) (hra : Rd w A2 (W * H) (U8 (lay W (fun _ _ => some p) (anyP oL) px))) (hs : RdS w L nl ss) (hok : ∀ s ∈ ss, s.ok)
    (hrc : RdR w Ac nc (cutR ss W H 0)) (hcaL : Canon oL) (hplL : ∀ x y, InR oL x y ↔ InR ((ss.map Sm.rc).filter RC.cnt) x y)
    (hQ : ∀ (w' : World) (x139 x140 x141 x142 x143 x144 x145 x146 x147 x148 x149 x150 x151 x152 x153 x154 x155 x156 x157 x158 x159 x160 x161 x162 x163 : Value), Below w.heap.size w w' → Code.wp Try.prog (sndC (sndC bkTail)) Q ⟨#[u0, u1, .slice L nl cl, .int .u8 p, .int .u8 q, u5, u6, u7, u8, u9, .bool true, .pointer (some ⟨gg, 0, none⟩), u12, u13, u14, u15, u16, u17, u18, .slice Ac nc cc, u20, u21, .pointer (some ⟨gA, 0, none⟩), u23, u24, u25, u26, u27, u28, u29, u30, u31, u32, u33, u34, u35, u36, u37, u38, u39, u40, u41, u42, u43, u44, u45, u46, u47, u48, u49, u50, u51, u52, u53, u54, u55, u56, u57, u58, u59, u60, u61, u62, u63, u64, u65, u66, u67, u68, u69, u70, u71, u72, u73, u74, u75, u76, u77, u78, u79, u80, u81, u82, u83, u84, u85, u86, u87, u88, u89, u90, u91, u92, u93, u94, u95, u96, u97, u98, u99, u100, u101, u102, u103, u104, u105, u106, u107, u108, u109, u110, u111, u112, u113, u114, u115, u116, u117, u118, u119, u120, u121, u122, u123, u124, u125, u126, u127, u128, u129, u130, u131, u132, u133, u134, u135, u136, u137, u138, x139, x140, x141, x142, x143, x144, x145, x146, x147, x148, x149, x150, x151, x152, x153, x154, x155, x156, x157, x158, x159, x160, x161, x162, x163], []⟩ w') :
    Code.wp Try.prog (fstC (sndC bkTail)) (Exit.then (Code.wp Try.prog (sndC (sndC bkTail)) Q) Q) ⟨#[u0, u1, .slice L nl cl, .int .u8 p, .int .u8 q, u5, u6, u7, u8, u9, u10, .pointer (some ⟨gg, 0, none⟩), u12, u13, u14, u15, u16, u17, u18, .slice Ac nc cc, u20, u21, .pointer (some ⟨gA, 0, none⟩), u23, u24, u25, u26, u27, u28, u29, u30, u31, u32, u33, u34, u35, u36, u37, u38, u39, u40, u41, u42, u43, u44, u45, u46, u47, u48, u49, u50, u51, u52, u53, u54, u55, u56, u57, u58, u59, u60, u61, u62, u63, u64, u65, u66, u67, u68, u69, u70, u71, u72, u73, u74, u75, u76, u77, u78, u79, u80, u81, u82, u83, u84, u85, u86, u87, u88, u89, u90, u91, u92, u93, u94, u95, u96, u97, u98, u99, u100, u101, u102, u103, u104, u105, u106, u107, u108, u109, u110, u111, u112, u113, u114, u115, u116, u117, u118, u119, u120, u121, u122, u123, u124, u125, u126, u127, u128, u129, u130, u131, u132, u133, u134, u135, u136, u137, u138, u139, u140, u141, u142, u143, u144, u145, u146, u147, u148, u149, u150, u151, u152, u153, u154, u155, u156, u157, u158, u159, u160, u161, u162, u163], []⟩ w := by
  have hn16 : W * H ≤ 16384 := mul_le_128 (by omega) (by omega)
  have hcnt := cut_cnt (ss := ss) hW.2 hH.2
  have HCUT := Lib.hid (show (cutR ss W H 0).filter RC.cnt = cutR ss W H 0 from List.filter_eq_self.2 hcnt)
  have HBIG := Lib.hid (show ∀ r ∈ cutR ss W H 0, r.X ≤ 9223372036854775807 ∧ r.Y ≤ 9223372036854775807 from fun r hr => by have := (cnt_iff r).1 (hcnt r hr); omega)
  have HBG := Lib.hid hbg
  have HBA := Lib.hid hba
  have HRG := Lib.hid hr
  have HRA := Lib.hid hra
  have HRC := Lib.hid hrc
  have HS := Lib.hid hs
  have HOK := Lib.hid hok
  have HPX := Lib.hid hpx
  have HCAL := Lib.hid hcaL
  have HPLL := Lib.hid hplL
  have HQ := Lib.hid hQ
  clear hbg hba hr hra hrc hs hok hpx hcaL hplL hQ hcnt
  conv => arg 2; whnf
  refine wp_region_noPanic ?_
  refine wp_region_held_drew (S := (fun w' => w'.cell? ⟨gg, 0, none⟩ = some (.int .i64 W) ∧ w'.cell? ⟨gg, 1, none⟩ = some (.int .i64 H) ∧ w'.cell? ⟨gg, 2, none⟩ = some (.slice A1 (W * H) c1) ∧ w'.cell? ⟨gA, 0, none⟩ = some (.int .i64 W) ∧ w'.cell? ⟨gA, 1, none⟩ = some (.int .i64 H) ∧ w'.cell? ⟨gA, 2, none⟩ = some (.slice A2 (W * H) (W * H)))) (by kernel_rfl) ?_ (fun hHeld => ?_)
  · (try dsimp only)
    exact ⟨(HBG.out.belowS ((bre w).drew)).cellV (i := 0) rfl, (HBG.out.belowS ((bre w).drew)).cellV (i := 1) rfl, (HBG.out.belowS ((bre w).drew)).cellV (i := 2) rfl, (HBA.out.belowS ((bre w).drew)).cellV (i := 0) rfl, (HBA.out.belowS ((bre w).drew)).cellV (i := 1) rfl, (HBA.out.belowS ((bre w).drew)).cellV (i := 2) rfl⟩
  refine take_at 0 139 (.agg #[.int .i64 W, .int .i64 H, .slice A2 (W * H) (W * H)]) rfl rfl (by kernel_rfl) (by kernel_rfl) (by kernel_rfl) (fun _ _ _ h => h) (Or.inl ⟨by rfl, ?_⟩) (by assumption) ?_
  · intro W0 hSw
    (try dsimp only at hSw)
    go_simp
  simp only [List.set_cons_zero, List.set_cons_succ]
  refine take_at 1 140 (.agg #[.int .i64 W, .int .i64 H, .slice A1 (W * H) c1]) rfl rfl (by kernel_rfl) (by kernel_rfl) (by kernel_rfl) (fun _ _ _ h => h) (Or.inl ⟨by rfl, ?_⟩) (by assumption) ?_
  · intro W0 hSw
    (try dsimp only at hSw)
    go_simp
  simp only [List.set_cons_zero, List.set_cons_succ]
  refine take_at 2 141 (.slice Ac nc cc) rfl rfl (by kernel_rfl) (by kernel_rfl) (by kernel_rfl) (fun _ _ _ h => h) (Or.inl ⟨by rfl, ?_⟩) (by assumption) ?_
  · intro W0 hSw
    (try dsimp only at hSw)
    go_simp
  simp only [List.set_cons_zero, List.set_cons_succ]
  refine take_at 4 143 (.int .u8 p) rfl rfl (by kernel_rfl) (by kernel_rfl) (by kernel_rfl) (fun _ _ _ h => h) (Or.inl ⟨by rfl, ?_⟩) (by assumption) ?_
  · intro W0 hSw
    (try dsimp only at hSw)
    go_simp
  simp only [List.set_cons_zero, List.set_cons_succ]
  refine wpAnyH_ready (rs := [3]) (by kernel_rfl) (by simp) ?_
  refine AllReadyH.cons rfl (fun K hK => ?_) AllReadyH.nil
  go_simp
  go_at_call 28
  refine (of_any Ac nc cc (cutR ss W H 0) _ (by omega) (HRC.out.below ((bre w).drew)) HBIG.out).mono ?_
  rintro e w3 ⟨oC, AC, cC, rfl, rC, hcaC, hplC, holC, bC⟩
  have B3 := Lib.hid (bstep ((bre w).drew) bC)
  have RC3 := Lib.hid rC
  have CN3 := Lib.hid (canon_cnt (fun r hr => (List.mem_filter.1 hr).2) hcaC (fun x y h => (hplC x y).1 h))
  have PL3 := Lib.hid hplC
  have OL3 := holC
  clear rC hcaC hplC holC bC
  refine hK.out _ _ ?_ (fun hHeld => ?_)
  · (try dsimp only)
    exact ⟨(HBG.out.belowS B3.out).cellV (i := 0) rfl, (HBG.out.belowS B3.out).cellV (i := 1) rfl, (HBG.out.belowS B3.out).cellV (i := 2) rfl, (HBA.out.belowS B3.out).cellV (i := 0) rfl, (HBA.out.belowS B3.out).cellV (i := 1) rfl, (HBA.out.belowS B3.out).cellV (i := 2) rfl⟩
  clear hK K
  refine wpAnyH_ready (rs := [5]) (by kernel_rfl) (by simp) ?_
  refine AllReadyH.cons rfl (fun K hK => ?_) AllReadyH.nil
  go_simp
  go_at_call 27
  refine (fill_any W H px p A1 AC (W * H) c1 oC.length cC oC _ rfl (by omega) (by omega) (HRG.out.below B3.out) OL3 RC3.out CN3.out).mono ?_
  rintro e w5 ⟨A5, rfl, r5, _, b5⟩
  have B5 := Lib.hid (bstep B3.out b5)
  have R5 := Lib.hid r5
  clear r5 b5
  refine hK.out _ _ ?_ (fun hHeld => ?_)
  · (try dsimp only)
    exact ⟨(HBG.out.belowS B5.out).cellV (i := 0) rfl, (HBG.out.belowS B5.out).cellV (i := 1) rfl, (HBG.out.belowS B5.out).cellV (i := 2) rfl, (HBA.out.belowS B5.out).cellV (i := 0) rfl, (HBA.out.belowS B5.out).cellV (i := 1) rfl, (HBA.out.belowS B5.out).cellV (i := 2) rfl⟩
  clear hK K
  refine wpAnyH_ready (rs := [6]) (by kernel_rfl) (by simp) ?_
  refine AllReadyH.cons rfl (fun K hK => ?_) AllReadyH.nil
  go_simp
  go_at_call 25
  refine (gsame_any W H (lay W (fun _ _ => some p) (anyP oL) px) (lay W (fun _ _ => some p) (anyP oC) px) A2 A5 (W * H) (W * H) (W * H) _ hn16 (HRA.out.below B5.out) R5.out).mono ?_
  rintro e w6 ⟨rfl, b6⟩
  have hsame : (lay W (fun _ _ => some p) (anyP oL) px) = lay W (fun _ _ => some p) (anyP oC) px := lay_same HPX.out (fun x y hx hy => by rw [PL3.out, HCUT.out, HPLL.out, cut_in hx hy, inSm_iff HOK.out])
  rw [decide_eq_true hsame]
  have B6 := Lib.hid (bstep B5.out b6)
  clear b6 hsame
  refine hK.out _ _ ?_ (fun hHeld => ?_)
  · (try dsimp only)
    exact ⟨(HBG.out.belowS B6.out).cellV (i := 0) rfl, (HBG.out.belowS B6.out).cellV (i := 1) rfl, (HBG.out.belowS B6.out).cellV (i := 2) rfl, (HBA.out.belowS B6.out).cellV (i := 0) rfl, (HBA.out.belowS B6.out).cellV (i := 1) rfl, (HBA.out.belowS B6.out).cellV (i := 2) rfl⟩
  clear hK K
  refine take_at 7 146 (.bool true) rfl rfl (by kernel_rfl) (by kernel_rfl) (by kernel_rfl) (fun _ _ _ h => h) (Or.inl ⟨by rfl, ?_⟩) (by assumption) ?_
  · intro W0 hSw
    (try dsimp only at hSw)
    go_simp
  simp only [List.set_cons_zero, List.set_cons_succ]
  refine take_at 8 147 (.agg #[.int .i64 W, .int .i64 H, .slice A2 (W * H) (W * H)]) rfl rfl (by kernel_rfl) (by kernel_rfl) (by kernel_rfl) (fun _ _ _ h => h) (Or.inl ⟨by rfl, ?_⟩) (by assumption) ?_
  · intro W0 hSw
    (try dsimp only at hSw)
    go_simp
  simp only [List.set_cons_zero, List.set_cons_succ]
  refine take_at 9 148 (.slice L nl cl) rfl rfl (by kernel_rfl) (by kernel_rfl) (by kernel_rfl) (fun _ _ _ h => h) (Or.inl ⟨by rfl, ?_⟩) (by assumption) ?_
  · intro W0 hSw
    (try dsimp only at hSw)
    go_simp
  simp only [List.set_cons_zero, List.set_cons_succ]
  refine take_at 12 151 (.int .u8 q) rfl rfl (by kernel_rfl) (by kernel_rfl) (by kernel_rfl) (fun _ _ _ h => h) (Or.inl ⟨by rfl, ?_⟩) (by assumption) ?_
  · intro W0 hSw
    (try dsimp only at hSw)
    go_simp
  simp only [List.set_cons_zero, List.set_cons_succ]
  refine take_at 14 153 (.agg #[.int .i64 W, .int .i64 H, .slice A1 (W * H) c1]) rfl rfl (by kernel_rfl) (by kernel_rfl) (by kernel_rfl) (fun _ _ _ h => h) (Or.inl ⟨by rfl, ?_⟩) (by assumption) ?_
  · intro W0 hSw
    (try dsimp only at hSw)
    go_simp
  simp only [List.set_cons_zero, List.set_cons_succ]
  refine take_at 15 154 (.slice L nl cl) rfl rfl (by kernel_rfl) (by kernel_rfl) (by kernel_rfl) (fun _ _ _ h => h) (Or.inl ⟨by rfl, ?_⟩) (by assumption) ?_
  · intro W0 hSw
    (try dsimp only at hSw)
    go_simp
  simp only [List.set_cons_zero, List.set_cons_succ]
  refine take_at 18 157 (.int .u8 q) rfl rfl (by kernel_rfl) (by kernel_rfl) (by kernel_rfl) (fun _ _ _ h => h) (Or.inl ⟨by rfl, ?_⟩) (by assumption) ?_
  · intro W0 hSw
    (try dsimp only at hSw)
    go_simp
  simp only [List.set_cons_zero, List.set_cons_succ]
  refine wpAnyH_ready (rs := [10]) (by kernel_rfl) (by simp) ?_
  refine AllReadyH.cons rfl (fun K hK => ?_) AllReadyH.nil
  go_simp
  go_at_call 29
  refine (smalls_any L nl cl ss _ (by omega) (HS.out.below B6.out) HOK.out).mono ?_
  rintro e w10 ⟨Ar, cr, rfl, r10, _, b10⟩
  have B10 := Lib.hid (bstep B6.out b10)
  have R10 := Lib.hid r10
  clear r10 b10
  refine hK.out _ _ ?_ (fun hHeld => ?_)
  · (try dsimp only)
    exact ⟨(HBG.out.belowS B10.out).cellV (i := 0) rfl, (HBG.out.belowS B10.out).cellV (i := 1) rfl, (HBG.out.belowS B10.out).cellV (i := 2) rfl, (HBA.out.belowS B10.out).cellV (i := 0) rfl, (HBA.out.belowS B10.out).cellV (i := 1) rfl, (HBA.out.belowS B10.out).cellV (i := 2) rfl⟩
  clear hK K
  refine wpAnyH_ready (rs := [11]) (by kernel_rfl) (by simp) ?_
  refine AllReadyH.cons rfl (fun K hK => ?_) AllReadyH.nil
  go_simp
  go_at_call 28
  refine (of_any Ar nl cr (ss.map Sm.rc) _ (by omega) R10.out (smalls_big HOK.out)).mono ?_
  rintro e w11 ⟨o1, A6, c6, rfl, r11, hca1, hpl1, hol1, b11⟩
  have e1 : o1 = oL := canon_uniq hca1 HCAL.out (fun x y => (hpl1 x y).trans (HPLL.out x y).symm)
  subst e1
  have B11 := Lib.hid (bstep B10.out b11)
  have R11 := Lib.hid r11
  have CN11 := Lib.hid (region_cnt hca1 hpl1)
  clear r11 hca1 hpl1 b11
  refine hK.out _ _ ?_ (fun hHeld => ?_)
  · (try dsimp only)
    exact ⟨(HBG.out.belowS B11.out).cellV (i := 0) rfl, (HBG.out.belowS B11.out).cellV (i := 1) rfl, (HBG.out.belowS B11.out).cellV (i := 2) rfl, (HBA.out.belowS B11.out).cellV (i := 0) rfl, (HBA.out.belowS B11.out).cellV (i := 1) rfl, (HBA.out.belowS B11.out).cellV (i := 2) rfl⟩
  clear hK K
  refine wpAnyH_ready (rs := [13]) (by kernel_rfl) (by simp) ?_
  refine AllReadyH.cons rfl (fun K hK => ?_) AllReadyH.nil
  go_simp
  go_at_call 27
  refine (fill_any W H (lay W (fun _ _ => some p) (anyP o1) px) q A2 A6 (W * H) (W * H) o1.length c6 o1 _ rfl (by omega) (by omega) (HRA.out.below B11.out) hol1 R11.out CN11.out).mono ?_
  rintro e w13 ⟨A7, rfl, r13, _, b13⟩
  have B13 := Lib.hid (bstep B11.out b13)
  have R13 := Lib.hid r13
  have RX := Lib.hid r13
  clear r13 b13
  refine hK.out _ _ ?_ (fun hHeld => ?_)
  · (try dsimp only)
    exact ⟨(HBG.out.belowS B13.out).cellV (i := 0) rfl, (HBG.out.belowS B13.out).cellV (i := 1) rfl, (HBG.out.belowS B13.out).cellV (i := 2) rfl, (HBA.out.belowS B13.out).cellV (i := 0) rfl, (HBA.out.belowS B13.out).cellV (i := 1) rfl, (HBA.out.belowS B13.out).cellV (i := 2) rfl⟩
  clear hK K
  refine wpAnyH_ready (rs := [16]) (by kernel_rfl) (by simp) ?_
  refine AllReadyH.cons rfl (fun K hK => ?_) AllReadyH.nil
  go_simp
  go_at_call 29
  refine (smalls_any L nl cl ss _ (by omega) (HS.out.below B13.out) HOK.out).mono ?_
  rintro e w16 ⟨Ar2, cr2, rfl, r16, _, b16⟩
  have B16 := Lib.hid (bstep B13.out b16)
  have R16 := Lib.hid r16
  have RX := Lib.hid (RX.out.below b16)
  clear r16 b16
  refine hK.out _ _ ?_ (fun hHeld => ?_)
  · (try dsimp only)
    exact ⟨(HBG.out.belowS B16.out).cellV (i := 0) rfl, (HBG.out.belowS B16.out).cellV (i := 1) rfl, (HBG.out.belowS B16.out).cellV (i := 2) rfl, (HBA.out.belowS B16.out).cellV (i := 0) rfl, (HBA.out.belowS B16.out).cellV (i := 1) rfl, (HBA.out.belowS B16.out).cellV (i := 2) rfl⟩
  clear hK K
  refine wpAnyH_ready (rs := [17]) (by kernel_rfl) (by simp) ?_
  refine AllReadyH.cons rfl (fun K hK => ?_) AllReadyH.nil
  go_simp
  go_at_call 28
  refine (of_any Ar2 nl cr2 (ss.map Sm.rc) _ (by omega) R16.out (smalls_big HOK.out)).mono ?_
  rintro e w17 ⟨o2, A8, c8, rfl, r17, hca2, hpl2, hol2, b17⟩
  have e2 : o2 = o1 := canon_uniq hca2 HCAL.out (fun x y => (hpl2 x y).trans (HPLL.out x y).symm)
  subst e2
  have B17 := Lib.hid (bstep B16.out b17)
  have R17 := Lib.hid r17
  have RX := Lib.hid (RX.out.below b17)
  clear r17 hca2 hpl2 b17
  refine hK.out _ _ ?_ (fun hHeld => ?_)
  · (try dsimp only)
    exact ⟨(HBG.out.belowS B17.out).cellV (i := 0) rfl, (HBG.out.belowS B17.out).cellV (i := 1) rfl, (HBG.out.belowS B17.out).cellV (i := 2) rfl, (HBA.out.belowS B17.out).cellV (i := 0) rfl, (HBA.out.belowS B17.out).cellV (i := 1) rfl, (HBA.out.belowS B17.out).cellV (i := 2) rfl⟩
  clear hK K
  refine wpAnyH_ready (rs := [19]) (by kernel_rfl) (by simp) ?_
  refine AllReadyH.cons rfl (fun K hK => ?_) AllReadyH.nil
  go_simp
  go_at_call 27
  refine (fill_any W H px q A1 A8 (W * H) c1 o2.length c8 o2 _ rfl (by omega) (by omega) (HRG.out.below B17.out) hol2 R17.out CN11.out).mono ?_
  rintro e w19 ⟨A9, rfl, r19, _, b19⟩
  have B19 := Lib.hid (bstep B17.out b19)
  have R19 := Lib.hid r19
  have R19 := Lib.hid r19
  have RX := Lib.hid (RX.out.below b19)
  clear r19 b19
  refine hK.out _ _ ?_ (fun hHeld => ?_)
  · (try dsimp only)
    exact ⟨(HBG.out.belowS B19.out).cellV (i := 0) rfl, (HBG.out.belowS B19.out).cellV (i := 1) rfl, (HBG.out.belowS B19.out).cellV (i := 2) rfl, (HBA.out.belowS B19.out).cellV (i := 0) rfl, (HBA.out.belowS B19.out).cellV (i := 1) rfl, (HBA.out.belowS B19.out).cellV (i := 2) rfl⟩
  clear hK K
  refine wpAnyH_ready (rs := [20]) (by kernel_rfl) (by simp) ?_
  refine AllReadyH.cons rfl (fun K hK => ?_) AllReadyH.nil
  go_simp
  go_at_call 25
  refine (gsame_any W H (lay W (fun _ _ => some q) (anyP o2) (lay W (fun _ _ => some p) (anyP o2) px)) (lay W (fun _ _ => some q) (anyP o2) px) A7 A9 (W * H) (W * H) (W * H) _ hn16 RX.out R19.out).mono ?_
  rintro e w20 ⟨rfl, b20⟩
  rw [decide_eq_true (lay_twice (W := W) (M := anyP o2) (px := px) (p := p) (q := q))]
  have B20 := Lib.hid (bstep B19.out b20)
  clear b20
  refine hK.out _ _ ?_ (fun hHeld => ?_)
  · (try dsimp only)
    exact ⟨(HBG.out.belowS B20.out).cellV (i := 0) rfl, (HBG.out.belowS B20.out).cellV (i := 1) rfl, (HBG.out.belowS B20.out).cellV (i := 2) rfl, (HBA.out.belowS B20.out).cellV (i := 0) rfl, (HBA.out.belowS B20.out).cellV (i := 1) rfl, (HBA.out.belowS B20.out).cellV (i := 2) rfl⟩
  clear hK K
  refine take_at 21 160 (.bool true) rfl rfl (by kernel_rfl) (by kernel_rfl) (by kernel_rfl) (fun _ _ _ h => h) (Or.inl ⟨by rfl, ?_⟩) (by assumption) ?_
  · intro W0 hSw
    (try dsimp only at hSw)
    go_simp
  simp only [List.set_cons_zero, List.set_cons_succ]
  refine take_at 22 161 (.bool true) rfl rfl (by kernel_rfl) (by kernel_rfl) (by kernel_rfl) (fun _ _ _ h => h) (Or.inl ⟨by rfl, ?_⟩) (by assumption) ?_
  · intro W0 hSw
    (try dsimp only at hSw)
    go_simp
  simp only [List.set_cons_zero, List.set_cons_succ]
  refine wpAnyH_ready (rs := [23]) (by kernel_rfl) (by simp) ?_
  refine AllReadyH.cons rfl (fun K hK => ?_) AllReadyH.nil
  go_simp
  go_at_call 13
  refine (awake_any _).mono ?_
  rintro e w23 ⟨rfl, b23⟩
  have B23 := Lib.hid (bstep B20.out b23)
  clear b23
  refine hK.out _ _ ?_ (fun hHeld => ?_)
  · (try dsimp only)
    exact ⟨(HBG.out.belowS B23.out).cellV (i := 0) rfl, (HBG.out.belowS B23.out).cellV (i := 1) rfl, (HBG.out.belowS B23.out).cellV (i := 2) rfl, (HBA.out.belowS B23.out).cellV (i := 0) rfl, (HBA.out.belowS B23.out).cellV (i := 1) rfl, (HBA.out.belowS B23.out).cellV (i := 2) rfl⟩
  clear hK K
  refine take_at 24 163 (.bool true) rfl rfl (by kernel_rfl) (by kernel_rfl) (by kernel_rfl) (fun _ _ _ h => h) (Or.inl ⟨by rfl, ?_⟩) (by assumption) ?_
  · intro W0 hSw
    (try dsimp only at hSw)
    go_simp
  simp only [List.set_cons_zero, List.set_cons_succ]
  refine take_at 25 10 (.bool true) rfl rfl (by kernel_rfl) (by kernel_rfl) (by kernel_rfl) (fun _ _ _ h => h) (Or.inl ⟨by rfl, ?_⟩) (by assumption) ?_
  · intro W0 hSw
    (try dsimp only at hSw)
    go_simp
  simp only [List.set_cons_zero, List.set_cons_succ]
  refine wpAnyH_done (by kernel_rfl) ?_ _
  refine NoPanic.normal ?_
  exact HQ.out _ _ _ _ _ _ _ _ _ _ _ _ _ _ _ _ _ _ _ _ _ _ _ _ _ _ B23.out

end Go.Proofs.Ytcdecglbkcllaab
