/-
  The walk of a tree's Parent.
-/
import Derived.Test.YtbfefkhejknmoaaGreatDoorTreeA
namespace Go.Proofs.YtbfefkhejknmoaaGreatDoor
open Go.RowKit Go.Maps Go.Shelf

set_option maxRecDepth 100000 in
set_option maxHeartbeats 1000000 in
theorem parent_any (v : Value) (ns : Nodes) (mk mu : Option Nat) (nk : Nat) (fk : Int → Option Value) (id : Int) (w : World) (hid : 0 ≤ id ∧ id ≤ 4294967295) (h : TreeIs w v ns mk mu nk fk) :
    Calls Tryz.prog 52 #[v, .int .u32 id] w fun e w' => e = .returned (.tuple #[.int .u32 ((upOf ns id).getD 0), .bool (upOf ns id).isSome]) ∧ Below w.heap.size w w' := by
  have HU := Lib.hid h.up
  have HWF := Lib.hid (u32_wf hid)
  have hv := h.shape
  subst hv
  clear h
  obtain ⟨x, hx⟩ : ∃ x, (upOf ns id).getD 0 = x := ⟨_, rfl⟩
  obtain ⟨s, hs⟩ : ∃ s, (upOf ns id).isSome = s := ⟨_, rfl⟩
  have HG := Lib.hid (show ((upOf ns id).map (Value.int .u32)).getD (.int .u32 0) = .int .u32 x by rw [upv_getD, hx])
  have HS := Lib.hid (show ((upOf ns id).map (Value.int .u32)).isSome = s by simp [hs])
  rw [hs, hx]
  clear hx hs
  go_enter Tryz.func52, Tryz.ntmps52
  go_wp2_with (at_lookup; refine opt_look_ok rfl _ _ 33 rfl 27 27 .u32 Tryz.underlying27 Tryz.underlying33 (.int .u32 0) (Tryz.zeroID _) mu ns.length (fun i => (upOf ns i).map (Value.int .u32)) rfl (HU.out.below (by repeat (first | exact bre _ | refine bal ?_ _ | refine bset ?_ (by simp) _ | refine bset ?_ (by simp; omega) _))) id rfl HWF.out ?_; dsimp only; rw [HG.out, HS.out])
  exact bodyPost_ret (v := .tuple #[.int .u32 x, .bool s]) (by simp [results, Tryz.results52, go_sem]) rfl ⟨rfl, (by repeat (first | exact bre _ | refine bal ?_ _ | refine bset ?_ (by simp) _ | refine bset ?_ (by simp; omega) _))⟩

end Go.Proofs.YtbfefkhejknmoaaGreatDoor
