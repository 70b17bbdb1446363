/-
  What is told of a window's kids, plainly, and the edges of the regions on the way.
  The ends of a round of the view's walk: nothing was handed down, or something was.
-/
import Derived.Test.YtdaedkolpfkdjaaGreatZE22
import Derived.RangeFuncWrites
section
namespace Go.Proofs.YtdaedkolpfkdjaaGreat
open Go.RowKit Go.Maps Go.Shelf

theorem RegAt.keep2 {W W' : World} {A B : Option Addr} {n m c c' g mv : Nat} {t : TypeId} {l : List RC} {k : TypeId} {q : IntKind} {n' : Nat} {f : Int → Option Value} (h : RegAt W (.agg #[.slice A n c']) l) (hB : Blk W g t #[.slice B m c]) (hm : MapIs Tryz.prog k q W mv n' f) (hk : KeepS (fun b => b < W.heap.size ∧ b ≠ mv ∧ b ≠ g) W W') : RegAt W' (.agg #[.slice A n c']) l := by
  obtain ⟨A1, c1, e, h1, h2⟩ := h
  exact ⟨A1, c1, e, h1.keep2 hB hm hk.size (fun b h1 h2 h3 => hk.block b ⟨h1, h2, h3⟩), h2⟩
/-- the variable that holds what is left. -/
def LeftAt (RW RH : Int) (W : World) (g : Nat) (P : Places) : Prop := ∃ (l : List RC) (A : Option Addr) (c : Nat), Blk W g 57 #[.slice A l.length c] ∧ RegAt W (.agg #[.slice A l.length c]) l ∧ InRoot RW RH l ∧ ∀ a b, inB l a b = P a b
theorem LeftAt.below {RW RH : Int} {W W' : World} {g : Nat} {P : Places} (h : LeftAt RW RH W g P) (hb : Below W.heap.size W W') : LeftAt RW RH W' g P := by
  obtain ⟨l, A, c, h1, h2, h3⟩ := h
  exact ⟨l, A, c, h1.belowS hb, h2.below hb, h3⟩
theorem LeftAt.keepRow {RW RH : Int} {W W' : World} {g : Nat} {P : Places} {row : Option Nat} (h : LeftAt RW RH W g P) (hg : W.grownBy W' row) (hr : ∀ r, row = some r → g ≠ r ∧ ∀ ob : Obj, W.heap[r]? = some ob → ob.isCells = false) : LeftAt RW RH W' g P := by
  obtain ⟨l, A, c, h1, h2, h3⟩ := h
  exact ⟨l, A, c, h1.grown hg (fun e => (hr g e.symm).1 rfl), h2.keepRow hg (fun r e => (hr r e).2), h3⟩
section
variable {ns : Nodes} {bx : Int → Option VB}
theorem flat_rev {α β : Type} (l : List α) (f : α → List β) : (l.reverse.flatMap f).length = (l.flatMap f).length := by
  induction l with
  | nil => rfl
  | cons a l ih => rw [List.reverse_cons, List.flatMap_append, List.length_append, ih, List.flatMap_cons, List.flatMap_cons, List.flatMap_nil, List.append_nil, List.length_append]; omega
theorem fold_len {hand : Int → Places → Places → List (Int × Places)} {o : Int × Int} {P : Places} (hh : ∀ k P L, (hand k P L).length ≤ (belowAt ns k).length) :
    ∀ (ks : List Int) (s : List (Int × Places) × Places), (ks.foldl (stepK bx hand o P) s).1.length ≤ s.1.length + (ks.flatMap (belowAt ns)).length
  | [], s => by simp
  | k :: ks, s => by
    rw [List.foldl_cons, List.flatMap_cons, List.length_append]
    have h1 := fold_len (o := o) (P := P) hh ks (stepK bx hand o P s k)
    have h2 : (stepK bx hand o P s k).1.length ≤ s.1.length + (belowAt ns k).length := by
      unfold stepK
      cases kidA bx o k with
      | none => exact Nat.le_add_right _ _
      | some A =>
        dsimp only
        rw [List.length_append]
        have := hh k (fun x y => A x y && P x y) (fun x y => (A x y && P x y) && s.2 x y)
        omega
    omega
theorem handF_len (h : TreeOk ns) : ∀ (f : Nat) (id : Int) (P L : Places), (handF ns bx f id P L).length ≤ (belowAt ns id).length
  | 0, id, P, L => by
    rw [below_step h]
    simp [handF]
  | f + 1, id, P, L => by
    rw [below_step h]
    unfold handF
    have h1 := fold_len (bx := bx) (hand := handF ns bx f) (o := orgN ns bx id) (P := P) (handF_len h f) (kidsOf ns id).reverse ([], L)
    rw [flat_rev] at h1
    simp only [List.length_append, List.length_cons, List.length_nil, Nat.zero_add] at h1 ⊢
    omega
theorem flat_le {l : List Int} {B : Nat} (h : ∀ k ∈ l, (belowAt ns k).length ≤ B) : (l.flatMap (belowAt ns)).length ≤ l.length * B := by
  induction l with
  | nil => simp
  | cons k l ih =>
    rw [List.flatMap_cons, List.length_append, List.length_cons, Nat.add_mul, Nat.one_mul]
    have h1 := h k (by simp)
    have h2 := ih (fun j hj => h j (List.mem_cons_of_mem _ hj))
    omega
theorem flat_ge {l : List Int} {k : Int} (h : k ∈ l) : (belowAt ns k).length ≤ (l.flatMap (belowAt ns)).length := by
  induction l with
  | nil => cases h
  | cons j l ih =>
    rw [List.flatMap_cons, List.length_append]
    rcases List.mem_cons.1 h with rfl | h
    · omega
    · have := ih h; omega
/-- what is told, and left, behind some kids. -/
def foldS (ns : Nodes) (bx : Int → Option VB) (f : Nat) (id : Int) (P L : Places) {m : Nat} (pre : List (Fin m)) : List (Int × Places) × Places :=
  (pre.map fun i => (kidsOf ns id).getD i.val 0).foldl (stepK bx (handF ns bx f) (orgN ns bx id) P) ([], L)
theorem foldS_snoc {f : Nat} {id : Int} {P L : Places} {m : Nat} (pre : List (Fin m)) (p : Fin m) : foldS ns bx f id P L (pre ++ [p]) = stepK bx (handF ns bx f) (orgN ns bx id) P (foldS ns bx f id P L pre) ((kidsOf ns id).getD p.val 0) := by
  unfold foldS
  rw [List.map_append, List.foldl_append]
  rfl
theorem foldS_len (h : TreeOk ns) {f : Nat} {id : Int} {P L : Places} {m : Nat} (hm : (kidsOf ns id).length = m) (pre : List (Fin m)) : (foldS ns bx f id P L pre).1.length ≤ pre.length * (ns.length + 1) := by
  have h1 := fold_len (bx := bx) (hand := handF ns bx f) (o := orgN ns bx id) (P := P) (handF_len h f) (pre.map fun i => (kidsOf ns id).getD i.val 0) ([], L)
  refine Nat.le_trans h1 ?_
  have h2 := flat_le (ns := ns) (l := pre.map fun i => (kidsOf ns id).getD i.val 0) (B := ns.length + 1) (fun k hk => by
    obtain ⟨i, _, rfl⟩ := List.mem_map.1 hk
    have hk : (kidsOf ns id).getD i.val 0 ∈ kidsOf ns id := by
      rw [List.getD_eq_getElem?_getD, List.getElem?_eq_getElem (by rw [hm]; exact i.isLt)]
      exact List.getElem_mem _
    exact below_len h (kids_up h hk).2)
  simpa using h2
theorem foldS_all {f : Nat} {id : Int} {P L : Places} {m : Nat} (hm : (kidsOf ns id).length = m) : foldS ns bx f id P L (revF m) = (kidsOf ns id).reverse.foldl (stepK bx (handF ns bx f) (orgN ns bx id) P) ([], L) := by
  subst hm
  unfold foldS
  rw [revF_map]
end
theorem meet_spec {oa sh1 pl ar : List RC} {dx dy RW RH : Int} {area : Places} (hcn : ∀ r ∈ oa, r.cnt = true) (hoa : ∀ a b, inB oa a b = area a b) (hs : ∀ a b, InR sh1 a b ↔ InR ((oa.map (mvR dx dy)).filter RC.cnt) a b) (hroot : InRoot RW RH pl) (hside : (0 ≤ RW ∧ RW ≤ 128) ∧ 0 ≤ RH ∧ RH ≤ 128) (har : ∀ a b, inB ar a b = (inB sh1 a b && inB pl a b)) :
    inB ar = (fun a b => area (a - dx) (b - dy) && inB pl a b) ∧ InRoot RW RH ar := by
  have h1 : inB ar = (fun a b => area (a - dx) (b - dy) && inB pl a b) := by
    funext a b
    rw [har, ← hoa]
    cases hp : inB pl a b with
    | false => simp
    | true =>
      have hb := hroot a b ((inB_iff _ _ _).1 hp)
      rw [Bool.and_true, Bool.and_true, Bool.eq_iff_iff, inB_iff, inB_iff, hs, shift_places hcn]
      exact ⟨fun h => h.1, fun h => ⟨h, by omega, by omega⟩⟩
  refine ⟨h1, fun a b h => ?_⟩
  rw [← inB_iff, har, Bool.and_eq_true] at h
  exact hroot a b ((inB_iff _ _ _).1 h.2)
theorem root_edges {a b : List RC} {RW RH : Int} (ha : ∀ r ∈ a, 0 < r.W ∧ 0 < r.H) (hb : ∀ r ∈ b, 0 < r.W ∧ 0 < r.H) (hs : (0 ≤ RW ∧ RW ≤ 128) ∧ 0 ≤ RH ∧ RH ≤ 128) (h1 : InRoot RW RH a) (h2 : InRoot RW RH b) : EdgeIn (a ++ b) (upto 0 RH.toNat) (upto 0 RW.toNat) ∧ (upto 0 RH.toNat).length * (upto 0 RW.toNat).length ≤ 100000 := by
  refine ⟨(inRoot_edges ha hs h1).append (inRoot_edges hb hs h2), ?_⟩
  rw [upto_len, upto_len]
  have : (RH.toNat + 1) * (RW.toNat + 1) ≤ 129 * 129 := Nat.mul_le_mul (by omega) (by omega)
  omega
theorem shift_edges {oa sh1 b : List RC} {dx dy RW RH W H : Int} (hcn : ∀ r ∈ oa, r.cnt = true) (hin : ∀ x y, InR oa x y → (0 ≤ x ∧ x < W) ∧ 0 ≤ y ∧ y < H) (hW : (1 ≤ W ∧ W ≤ 128) ∧ 1 ≤ H ∧ H ≤ 128) (hsh : ∀ a b, InR sh1 a b ↔ InR ((oa.map (mvR dx dy)).filter RC.cnt) a b) (hp1 : ∀ r ∈ sh1, 0 < r.W ∧ 0 < r.H) (hb : ∀ r ∈ b, 0 < r.W ∧ 0 < r.H) (hs : (0 ≤ RW ∧ RW ≤ 128) ∧ 0 ≤ RH ∧ RH ≤ 128) (h2 : InRoot RW RH b) :
    EdgeIn (sh1 ++ b) (upto dy H.toNat ++ upto 0 RH.toNat) (upto dx W.toNat ++ upto 0 RW.toNat) ∧ (upto dy H.toNat ++ upto 0 RH.toNat).length * (upto dx W.toNat ++ upto 0 RW.toNat).length ≤ 100000 := by
  have e1 : EdgeIn sh1 (upto dy H.toNat) (upto dx W.toNat) := box_edges hp1 (fun x y h => by
    have h1 := (hsh x y).1 h
    rw [shift_places hcn] at h1
    have := hin _ _ h1.1
    omega)
  refine ⟨e1.join (inRoot_edges hb hs h2), ?_⟩
  rw [List.length_append, List.length_append, upto_len, upto_len, upto_len, upto_len]
  have : (H.toNat + 1 + (RH.toNat + 1)) * (W.toNat + 1 + (RW.toNat + 1)) ≤ 258 * 258 := Nat.mul_le_mul (by omega) (by omega)
  omega
theorem area_few {oa : List RC} {W H : Int} (hc : Canon oa) (hin : ∀ x y, InR oa x y → (0 ≤ x ∧ x < W) ∧ 0 ≤ y ∧ y < H) (hW : (1 ≤ W ∧ W ≤ 128) ∧ 1 ≤ H ∧ H ≤ 128) : oa.length ≤ 100000 := by
  have e1 : EdgeIn oa (upto 0 H.toNat) (upto 0 W.toNat) := box_edges (canon_pos hc) (fun x y h => by have := hin _ _ h; omega)
  have h1 := canon_count hc e1
  rw [upto_len, upto_len] at h1
  have : (H.toNat + 1) * (W.toNat + 1) ≤ 129 * 129 := Nat.mul_le_mul (by omega) (by omega)
  omega

end Go.Proofs.YtdaedkolpfkdjaaGreat
end

section
namespace Go.Proofs.YtdaedkolpfkdjaaGreat
open Go.RowKit Go.Maps Go.Shelf

section
variable {ns : Nodes} {bx : Int → Option VB} {f : Nat} {id : Int} {P L : Places} {m : Nat}
theorem foldS_skip (pre : List (Fin m)) (p : Fin m) {kid : Int} (hk : (kidsOf ns id).getD p.val 0 = kid) (h : kidA bx (orgN ns bx id) kid = none) : foldS ns bx f id P L (pre ++ [p]) = foldS ns bx f id P L pre := by
  rw [foldS_snoc, hk]
  unfold stepK
  rw [h]
theorem foldS_take (pre : List (Fin m)) (p : Fin m) {kid : Int} {A : Places} (hk : (kidsOf ns id).getD p.val 0 = kid) (h : kidA bx (orgN ns bx id) kid = some A) :
    foldS ns bx f id P L (pre ++ [p]) = ((foldS ns bx f id P L pre).1 ++ handF ns bx f kid (fun x y => A x y && P x y) (fun x y => (A x y && P x y) && (foldS ns bx f id P L pre).2 x y), fun x y => (foldS ns bx f id P L pre).2 x y && !(A x y && P x y)) := by
  rw [foldS_snoc, hk]
  unfold stepK
  rw [h]
theorem kidA_no {o : Int × Int} {k : Int} (h : bx k = none) : kidA bx o k = none := by unfold kidA; rw [h]
theorem kidA_hid {o : Int × Int} {k : Int} {vb : VB} (h : bx k = some vb) (hM : vb.M = false) : kidA bx o k = none := by unfold kidA; rw [h]; simp [hM]
theorem kidA_yes {o : Int × Int} {k : Int} {vb : VB} (h : bx k = some vb) (hM : vb.M = true) : kidA bx o k = some (fun x y => vb.area (x - (o.1 + vb.X)) (y - (o.2 + vb.Y))) := by unfold kidA; rw [h]; simp [hM]
end
section
variable {pK : Nat → Prop} {w0 w4 W W' w20 w21 w22 : World} {g mv : Nat} {ns : Nodes} {bs : Bxs} {es es2 : List (Int × Places)} {RW RH : Int} {P P2 : Places}
theorem round_skip (hKB : ∀ b, pK b → b < w4.heap.size ∧ b ≠ mv ∧ b ≠ g) (hks : KeepS (fun b => b < w4.heap.size ∧ b ≠ mv ∧ b ≠ g) w4 W) (hat : HandAt w0 mv ns bs es W) (hleft : LeftAt RW RH W g P) (hb : Below W.heap.size W W') :
    KeepsFrom w4.heap.size W W' ∧ KeepS pK W W' ∧ HandAt w0 mv ns bs es W' ∧ LeftAt RW RH W' g P ∧ KeepS (fun b => b < w4.heap.size ∧ b ≠ mv ∧ b ≠ g) w4 W' :=
  ⟨KeepsFrom.of_grownBy (row := none) (grown_of_below hb none) (fun _ e => by cases e), (KeepS.refl pK W).stepB (fun b h => Nat.lt_of_lt_of_le (hKB b h).1 hks.size) hb, hat.below hb, hleft.below hb, hks.stepB (fun _ h => h.1) hb⟩
theorem round_take (hKB : ∀ b, pK b → b < w4.heap.size ∧ b ≠ mv ∧ b ≠ g) (hks : KeepS (fun b => b < w4.heap.size ∧ b ≠ mv ∧ b ≠ g) w4 W) (hg4 : g < w4.heap.size) (hm0 : mv < w4.heap.size) (hg0 : w0.heap.size ≤ g)
    (hb1 : Below W.heap.size W w20) (hg : w20.grownBy w21 (some mv)) (hat : HandAt w0 mv ns bs es2 w21) (hb2 : Below w21.heap.size w21 w22) {t : TypeId} (ht : t = 57) {B A : Option Addr} {n c c' : Nat} {l : List RC} (hB : Blk w22 g t #[.slice B n c]) (hl : RegAt w22 (.agg #[.slice A l.length c']) l) (hr : InRoot RW RH l) (hp : ∀ a b, inB l a b = P2 a b) :
    KeepsFrom w4.heap.size W (w22.setCell ⟨g, 0, none⟩ (.slice A l.length c')) ∧ KeepS pK W (w22.setCell ⟨g, 0, none⟩ (.slice A l.length c')) ∧ HandAt w0 mv ns bs es2 (w22.setCell ⟨g, 0, none⟩ (.slice A l.length c')) ∧ LeftAt RW RH (w22.setCell ⟨g, 0, none⟩ (.slice A l.length c')) g P2 ∧ KeepS (fun b => b < w4.heap.size ∧ b ≠ mv ∧ b ≠ g) w4 (w22.setCell ⟨g, 0, none⟩ (.slice A l.length c')) := by
  subst ht
  have hs := grown_setCell w22 ⟨g, 0, none⟩ (.slice A l.length c')
  refine ⟨?_, ?_, (hat.below hb2).setReg hB hg0 _, ⟨l, A, c', hB.set_ 0 _, hl.farS hB _, hr, hp⟩, ?_⟩
  · exact (KeepsFrom.of_grownBy (row := none) (grown_of_below hb1 none) (fun _ e => by cases e)).trans ((KeepsFrom.of_grownBy hg (fun j e => by cases e; exact hm0)).trans ((KeepsFrom.of_grownBy (row := none) (grown_of_below hb2 none) (fun _ e => by cases e)).trans (KeepsFrom.of_grownBy hs (fun j e => by cases e; exact hg4))))
  · have q : ∀ b, pK b → b < W.heap.size ∧ b ≠ mv ∧ b ≠ g := fun b h => ⟨Nat.lt_of_lt_of_le (hKB b h).1 hks.size, (hKB b h).2⟩
    exact ((((KeepS.refl pK W).stepB (fun b h => (q b h).1) hb1).stepG (fun b h => ⟨(q b h).1, fun e => (q b h).2.1 (Option.some.inj e)⟩) hg).stepB (fun b h => (q b h).1) hb2).stepG (fun b h => ⟨(q b h).1, fun e => (q b h).2.2 (Option.some.inj e)⟩) hs
  · exact (((hks.stepB (fun _ h => h.1) hb1).stepG (fun b h => ⟨h.1, fun e => h.2.1 (Option.some.inj e)⟩) hg).stepB (fun _ h => h.1) hb2).stepG (fun b h => ⟨h.1, fun e => h.2.2 (Option.some.inj e)⟩) hs
end

end Go.Proofs.YtdaedkolpfkdjaaGreat
end
