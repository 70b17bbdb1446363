/-
  The closure of cross.Path: what is collected so far.
-/
import Derived.Test.YtbkkecijcijhdaaGreatZF30
section
namespace Go.Proofs.YtbkkecijcijhdaaGreat
open Go.RowKit Go.Maps Go.Shelf

set_option maxRecDepth 100000 in
theorem Tryz.infoSt : (Tryz.prog.info? 148).map (fun i => (i.zero, i.size, i.bytes)) = some (some (.agg #[.int .u32 0, .bool false, .int .i64 0]), 3, 16) := by kernel_rfl
/-- a step. -/
structure SP where
  I : Int
  E : Bool
  D : Int
def SP.cells (s : SP) : List Value := [.int .u32 s.I, .bool s.E, .int .i64 s.D]
theorem SP.cells_len (s : SP) : s.cells.length = 3 := rfl
def SPs (l : List SP) : List Value := l.flatMap SP.cells
/-- what is told of a step behind others. -/
def doS (pre : List SP) (s : SP) : List SP := if s.I = 0 ∧ s.E = false ∧ s.D = 0 then pre else pre ++ [s]
theorem doS_len (pre : List SP) (s : SP) : (doS pre s).length ≤ pre.length + 1 := by
  unfold doS
  split <;> simp
theorem run_neq_st (w : World) (a c a' c' : Int) (b b' : Bool) : (binOp .neq 148 (.agg #[.int .u32 a, .bool b, .int .i64 c]) (.agg #[.int .u32 a', .bool b', .int .i64 c'])).run Tryz.prog w = .ok (.bool (!(a == a' && (b == b' && c == c')))) w := by
  cases h1 : (a == a') <;> cases h2 : (b == b') <;> cases h3 : (c == c') <;> simp [go_sem, h1, h2, h3]
attribute [local go_sem ↓] run_neq_st
/-- what is collected so far. -/
structure AtS (w0 : World) (bo : Nat) (out : List SP) (x : World) : Prop where
  box : ∃ v, Blk x bo 145 #[v] ∧ x.ownsRow w0.heap.size 148 3 v out.length (SPs out)
  grown : w0.grownBy x (some bo)
theorem step_news {w : World} {g : Nat} {t : TypeId} {cs : List Value} (h : Blk w g t cs.toArray) : ∀ j u, cs[j]? = some u → w.cell? ((⟨g, 0, none⟩ : Addr).add j) = some u := by
  intro j u hj
  have h1 := h.cellV (i := j) (v := u) (by simpa using hj)
  unfold Addr.add
  split
  · rename_i e; rw [e] at h1; exact h1
  · rw [Nat.zero_add]; exact h1

set_option maxRecDepth 100000 in
set_option maxHeartbeats 4000000 in
theorem pathDo_any (w0 : World) (bl : Nat) (s : SP) (pre : List SP) (x : World) (hpl : pre.length ≤ 3000) (hbl : bl < w0.heap.size) (hx : AtS w0 bl pre x) :
    Calls Tryz.prog 117 #[.agg #[.int .u32 s.I, .bool s.E, .int .i64 s.D], .pointer (some ⟨bl, 0, none⟩)] x fun e x' => e = .returned (.tuple #[]) ∧ AtS w0 bl (doS pre s) x' := by
  obtain ⟨i0, hi0, hz0, hz1, hz2⟩ := info_parts Tryz.infoSt
  obtain ⟨⟨v, hbx, hown⟩, hgx⟩ := hx
  obtain ⟨A, c, rfl, hc⟩ := own_form hown
  have HX := Lib.hid hgx
  have HO := Lib.hid hown
  have HBX := Lib.hid hbx
  have HGE := Lib.hid (own_ge hown)
  have HS0 := Lib.hid hgx.size
  clear hown hgx hbx hc
  go_enter Tryz.func117, Tryz.ntmps117
  go_upto_region 1 with fail
  have xK := Blk.new x 148 #[.int .u32 s.I, .bool s.E, .int .i64 s.D]
  have xB := HBX.out.alloc (.cells #[.int .u32 s.I, .bool s.E, .int .i64 s.D] 148)
  have xO := HO.out.alloc (.cells #[.int .u32 s.I, .bool s.E, .int .i64 s.D] 148)
  have xG := HX.out.andThen (World.grownBy_alloc x (.cells #[.int .u32 s.I, .bool s.E, .int .i64 s.D] 148) none) (fun j hj => by cases hj)
  obtain ⟨g2, hg2⟩ : ∃ g, x.heap.size = g := ⟨_, rfl⟩
  obtain ⟨X0, hX0⟩ : ∃ X0, x.alloc (.cells #[.int .u32 s.I, .bool s.E, .int .i64 s.D] 148) = X0 := ⟨_, rfl⟩
  have HG2 := Lib.hid (show w0.heap.size ≤ g2 by rw [← hg2]; exact HS0.out)
  have HSZ := Lib.hid (show X0.heap.size = g2 + 1 by rw [← hX0, ← hg2]; simp)
  rw [hX0] at xK xB xO xG ⊢
  rw [hg2] at xK ⊢
  have K2 := Lib.hid xK
  have BX := Lib.hid xB
  have OX := Lib.hid xO
  have GX := Lib.hid xG
  have c0 := xK.cellV (i := 0) (v := .int .u32 s.I) rfl
  have c1 := xK.cellV (i := 1) (v := .bool s.E) rfl
  have c2 := xK.cellV (i := 2) (v := .int .i64 s.D) rfl
  clear xK xB xO xG hX0 hg2 HX HO HBX HS0
  by_cases hz : s.I = 0 ∧ s.E = false ∧ s.D = 0
  · have HD := Lib.hid (show doS pre s = pre by unfold doS; rw [if_pos hz])
    have he : (!s.I == 0 || (s.E || !s.D == 0)) = false := by rw [hz.1, hz.2.1, hz.2.2]; rfl
    clear hz
    go_wp2_with fail
    go_end0
    rw [HD.out]
    exact ⟨rfl, ⟨_, BX.out, OX.out⟩, GX.out⟩
  · have HD := Lib.hid (show doS pre s = pre ++ [s] by unfold doS; rw [if_neg hz])
    have he : (!s.I == 0 || (s.E || !s.D == 0)) = true := by
      cases h1 : (s.I == 0) <;> cases h2 : s.E <;> cases h3 : (s.D == 0) <;> first | rfl | exact absurd ⟨by simpa using h1, h2, by simpa using h3⟩ hz
    clear hz
    have q0 := BX.out.cellV (i := 0) (v := .slice A pre.length c) rfl
    have f0 := BX.out.frozen 0
    have hxl := BX.out.lt
    go_upto_region 2 with fail
    go_wp2_with (at_builtin; refine wpList_append_own _ rfl _ _ 145 rfl w0.heap.size 148 i0 _ 3 16 Tryz.underlying145 hi0 hz0 hz1 hz2 rfl (by decide) _ _ _ rfl (OX.out.alloc _) ⟨X0.heap.size, 0, none⟩ 1 1 [.int .u32 s.I, .bool s.E, .int .i64 s.D] rfl rfl (step_news (Blk.new X0 _ _)) (by simp [Value.oneCell']) (by simp only [maxLen]; omega) (by omega) (by have h1 := HSZ.out; have h2 := HG2.out; simp; omega) ?_; intro v' w4 hown' hgrow _; obtain ⟨A', c', rfl, _⟩ := own_form hown'; have HO4 := Lib.hid hown'; have HG4 := Lib.hid hgrow; have b4 := (BX.out.alloc (.cells #[.int .u32 s.I, .bool s.E, .int .i64 s.D] 148)).grown hgrow (by intro e; have := HGE.out _ e.symm; omega); have f4 := b4.frozen 0; have l4 := b4.lt; have q4 := b4.cellV (i := 0) (v := .slice A pre.length c) rfl; have B4 := Lib.hid b4; clear hown' hgrow b4)
    go_end0
    rw [HD.out]
    have hp1 : (pre.length + 1) = (pre ++ [s]).length := by simp
    refine ⟨rfl, ⟨⟨_, B4.out.set_ 0 _, ?_⟩, ?_⟩⟩
    · have := own_far HO4.out (p := ⟨bl, 0, none⟩) hbl (.slice A' (pre.length + 1) c')
      simpa [SPs, SP.cells] using this
    · exact ((GX.out.andThen (World.grownBy_alloc X0 (.cells #[.int .u32 s.I, .bool s.E, .int .i64 s.D] 148) none) (fun j hj => by cases hj)).andThen HG4.out (fun j hj => .inl (HGE.out j hj))).andThen (grown_setCell w4 ⟨bl, 0, none⟩ _) (fun j hj => .inr hj)
end Go.Proofs.YtbkkecijcijhdaaGreat
end
