/-
  The document's scene, plainly: windows told by their parents' numbers; their tree, which are viewable, their order, and the window at a place.
-/
import Derived.Test.YtbkkecijcijhdaaGreatZO27
section
namespace Go.Proofs.YtbkkecijcijhdaaGreat

/-- one of the document's windows. -/
structure DW where
  P : Int
  X : Int
  Y : Int
  W : Int
  H : Int
  M : Bool
  S : Bool
  A : Option Addr
  n : Nat
  c : Nat
  sh : List RC
def DW.has (d : DW) : Places := fun x y => inB [⟨0, 0, d.W, d.H⟩] x y && (!d.S || inB d.sh x y)
def DW.vb (d : DW) : VB := ⟨d.X, d.Y, d.M, d.has⟩
def idW (n : Int) : Int := if n < 0 then 1 else 1048577 + n
theorem idW_inj {a b : Int} (ha : -1 ≤ a) (hb : -1 ≤ b) (h : idW a = idW b) : a = b := by
  unfold idW at h
  split at h <;> split at h <;> omega
theorem idW_nat (i : Nat) : idW (i : Int) = 1048577 + (i : Int) := by unfold idW; rw [if_neg (by omega)]
theorem idW_root : idW (-1) = 1 := rfl
/-- their tree. -/
def nodesW (l : List DW) : Nodes := l.zipIdx.map fun q => (idW q.2, idW q.1.P)
theorem nodesW_snoc (l : List DW) (d : DW) : nodesW (l ++ [d]) = nodesW l ++ [(idW l.length, idW d.P)] := by
  simp [nodesW, List.zipIdx_append]
theorem nodesW_len (l : List DW) : (nodesW l).length = l.length := by simp [nodesW]
theorem nodesW_mem {l : List DW} {p : Int × Int} : p ∈ nodesW l ↔ ∃ (i : Nat) (d : DW), l[i]? = some d ∧ p = (idW i, idW d.P) := by
  unfold nodesW
  rw [List.mem_map]
  constructor
  · rintro ⟨⟨d, i⟩, h, rfl⟩
    exact ⟨i, d, List.mem_zipIdx_iff_getElem?.1 h, rfl⟩
  · rintro ⟨i, d, h, rfl⟩
    exact ⟨(d, i), List.mem_zipIdx_iff_getElem?.2 h, rfl⟩
/-- parents stand ahead. -/
def UpOk (l : List DW) : Prop := ∀ (i : Nat) (d : DW), l[i]? = some d → -1 ≤ d.P ∧ d.P < (i : Int)
theorem nodesW_nodup (l : List DW) : ((nodesW l).map (·.1)).Nodup := by
  unfold List.Nodup
  rw [List.pairwise_iff_getElem]
  intro i j hi hj hij e
  simp only [nodesW, List.map_map, List.getElem_map, List.getElem_zipIdx, Function.comp, Nat.zero_add] at e
  have := idW_inj (by omega) (by omega) e
  omega
theorem upW {l : List DW} {i : Nat} {d : DW} (hd : l[i]? = some d) : upOf (nodesW l) (idW i) = some (idW d.P) := upOf_mem (nodesW_nodup l) (nodesW_mem.2 ⟨i, d, hd, rfl⟩)
theorem hasW {l : List DW} {n : Int} (h1 : -1 ≤ n) (h2 : n < (l.length : Int)) : hasN (nodesW l) (idW n) = true := by
  rw [hasN_iff]
  by_cases h : n < 0
  · exact .inl (by unfold idW; rw [if_pos h])
  · obtain ⟨i, rfl⟩ : ∃ i : Nat, n = (i : Int) := ⟨n.toNat, by omega⟩
    exact .inr ⟨_, upW (List.getElem?_eq_getElem (by omega))⟩
theorem hasW_inv {l : List DW} {k : Int} (h : hasN (nodesW l) k = true) : ∃ n : Int, -1 ≤ n ∧ n < (l.length : Int) ∧ k = idW n := by
  rcases hasN_iff.1 h with rfl | ⟨p, hp⟩
  · exact ⟨-1, by omega, by omega, rfl⟩
  · obtain ⟨i, d, hd, e⟩ := nodesW_mem.1 (upOf_some hp)
    have hlt := (List.getElem?_eq_some_iff.1 hd).1
    exact ⟨i, by omega, by omega, congrArg Prod.fst e⟩
theorem nodesW_ok {l : List DW} (h : UpOk l) : TreeOk (nodesW l) where
  nodup := nodesW_nodup l
  noroot := fun p hp => by
    obtain ⟨i, d, _, rfl⟩ := nodesW_mem.1 hp
    show idW i ≠ 1
    rw [idW_nat]
    omega
  closed := fun p hp => by
    obtain ⟨i, d, hd, rfl⟩ := nodesW_mem.1 hp
    have hlt := (List.getElem?_eq_some_iff.1 hd).1
    have := h i d hd
    exact hasW this.1 (by omega)
  ranked := ⟨fun id => if id = 1 then 0 else (id - 1048576).toNat, rfl, fun p hp => by
    obtain ⟨i, d, hd, rfl⟩ := nodesW_mem.1 hp
    have hlt := (List.getElem?_eq_some_iff.1 hd).1
    have h1 := h i d hd
    rw [nodesW_len]
    dsimp only
    rw [idW_nat, if_neg (show ¬ (1048577 + (i : Int) = 1) by omega)]
    by_cases h2 : d.P < 0
    · have e : idW d.P = 1 := by unfold idW; rw [if_pos h2]
      rw [e, if_pos rfl]
      omega
    · have e : idW d.P = 1048577 + d.P := by unfold idW; rw [if_neg h2]
      rw [e, if_neg (show ¬ (1048577 + d.P = 1) by omega)]
      omega⟩
theorem kidsW {l : List DW} (h : UpOk l) {p : Int} (hp : -1 ≤ p) : kidsOf (nodesW l) (idW p) = (l.zipIdx.filter (fun q => decide (q.1.P = p))).map (fun q => idW q.2) := by
  unfold kidsOf nodesW
  rw [List.filter_map, List.map_map]
  rw [List.filter_congr (q := fun q => decide (q.1.P = p))]
  · rfl
  · rintro ⟨d, i⟩ hd
    have := h i d (List.mem_zipIdx_iff_getElem?.1 hd)
    simp only [Function.comp]
    rw [Bool.eq_iff_iff, beq_iff_eq, decide_eq_true_eq]
    exact ⟨fun e => idW_inj this.1 hp e, fun e => by rw [e]⟩
/-- their boxes. -/
def bxW (RW RH : Int) (l : List DW) (k : Int) : Option VB := if k = 1 then some ⟨0, 0, true, fun x y => inB [⟨0, 0, RW, RH⟩] x y⟩ else if 1048577 ≤ k then (l[(k - 1048577).toNat]?).map DW.vb else none
theorem bxW_root (RW RH : Int) (l : List DW) : bxW RW RH l 1 = some ⟨0, 0, true, fun x y => inB [⟨0, 0, RW, RH⟩] x y⟩ := rfl
theorem bxW_nat (RW RH : Int) (l : List DW) (i : Nat) : bxW RW RH l (idW i) = (l[i]?).map DW.vb := by
  unfold bxW
  rw [idW_nat, if_neg (by omega), if_pos (by omega), show (1048577 + (i : Int) - 1048577).toNat = i from by omega]
section
variable {ns : Nodes} {bx : Int → Option VB}
/-- is a window viewable, all the way up? -/
def vw (ns : Nodes) (bx : Int → Option VB) (id : Int) : Bool := (pathN ns id).all fun w => decide (w = 1) || actB bx w
theorem vw_kid (h : TreeOk ns) {id k : Int} (hk : upOf ns k = some id) : vw ns bx k = (actB bx k && vw ns bx id) := by
  obtain ⟨h1, _, hne⟩ := path_step h hk
  unfold vw
  rw [h1, List.all_cons]
  simp [hne]
theorem vw_root (h : TreeOk ns) : vw ns bx 1 = true := by unfold vw; rw [path_root h]; simp
theorem vw_below (h : TreeOk ns) {id j : Int} (hi : hasN ns id = true) (hj : j ∈ belowAt ns id) (hv : vw ns bx j = true) : vw ns bx id = true := by
  obtain ⟨pre, hpre⟩ := path_suffix h ((below_iff h hi j).1 hj)
  unfold vw at hv ⊢
  rw [hpre, List.all_append, Bool.and_eq_true] at hv
  exact hv.2
theorem below_lt (h : TreeOk ns) {id k : Int} {f : Nat} (hk : k ∈ kidsOf ns id) (hl : (belowAt ns id).length ≤ f + 1) : (belowAt ns k).length ≤ f := by
  have h1 := flat_ge (ns := ns) hk
  rw [below_step h, List.length_cons] at hl
  omega
theorem idsF_iff (h : TreeOk ns) : ∀ (f : Nat) (id : Int), hasN ns id = true → (belowAt ns id).length ≤ f → vw ns bx id = true → ∀ j, j ∈ idsF ns bx f id ↔ j ∈ belowAt ns id ∧ vw ns bx j = true
  | 0, id, _, hl, _, _ => by rw [below_step h] at hl; simp at hl
  | f + 1, id, hi, hl, hv, j => by
    have hlk : ∀ k ∈ kidsOf ns id, (belowAt ns k).length ≤ f := fun k hk => below_lt h hk hl
    unfold idsF
    rw [below_step h, List.mem_append, List.mem_flatMap, List.mem_singleton, List.mem_cons, List.mem_flatMap]
    constructor
    · rintro (⟨k, hk, hj⟩ | hj)
      · rw [List.mem_reverse] at hk
        cases ha : actB bx k with
        | false => rw [ha] at hj; simp at hj
        | true =>
          rw [ha, if_pos rfl] at hj
          obtain ⟨hu, hh⟩ := kids_up h hk
          have := (idsF_iff h f k hh (hlk k hk) (by rw [vw_kid h hu, ha, hv]; rfl) j).1 hj
          exact ⟨.inr ⟨k, hk, this.1⟩, this.2⟩
      · rw [hj]
        exact ⟨.inl rfl, hv⟩
    · rintro ⟨rfl | ⟨k, hk, hj⟩, hvj⟩
      · exact .inr rfl
      · obtain ⟨hu, hh⟩ := kids_up h hk
        have hvk := vw_below h hh hj hvj
        have ha : actB bx k = true := by
          have h1 := hvk
          rw [vw_kid h hu, Bool.and_eq_true] at h1
          exact h1.1
        refine .inl ⟨k, by rw [List.mem_reverse]; exact hk, ?_⟩
        rw [ha, if_pos rfl]
        exact (idsF_iff h f k hh (hlk k hk) hvk j).2 ⟨hj, hvj⟩
/-- the order in which viewable windows are told. -/
def ordW (ns : Nodes) (bx : Int → Option VB) (id : Int) : List Int := (belowAt ns id).filter (vw ns bx)
theorem ord_step (h : TreeOk ns) {id : Int} (hv : vw ns bx id = true) : ordW ns bx id = id :: (kidsOf ns id).flatMap fun k => if actB bx k then ordW ns bx k else [] := by
  unfold ordW
  rw [below_step h, List.filter_cons, if_pos hv, List.filter_flatMap]
  congr 1
  refine flatMap_same (fun k hk => ?_)
  obtain ⟨hu, hh⟩ := kids_up h hk
  cases ha : actB bx k with
  | true => rfl
  | false =>
    rw [if_neg (by decide), List.filter_eq_nil_iff]
    intro j hj hvj
    have h1 := vw_below h hh hj hvj
    rw [vw_kid h hu, ha] at h1
    cases h1
theorem flat_filter {α β : Type} (p : α → Bool) (f : α → List β) : ∀ (l : List α), l.flatMap (fun a => if p a then f a else []) = (l.filter p).flatMap f
  | [] => rfl
  | a :: l => by
    rw [List.flatMap_cons, List.filter_cons, flat_filter p f l]
    cases p a
    · rfl
    · rfl
end
section
variable {l : List DW} {RW RH : Int}
theorem actW {i : Nat} {d : DW} (hd : l[i]? = some d) : actB (bxW RW RH l) (idW i) = d.M := by
  unfold actB
  rw [bxW_nat, hd]
  rfl
theorem ordW_step (h : UpOk l) {p : Int} (hp : -1 ≤ p) (hv : vw (nodesW l) (bxW RW RH l) (idW p) = true) :
    ordW (nodesW l) (bxW RW RH l) (idW p) = idW p :: (l.zipIdx.filter (fun q => decide (q.1.P = p) && q.1.M)).flatMap fun q => ordW (nodesW l) (bxW RW RH l) (idW q.2) := by
  have e : l.zipIdx.filter (fun q => decide (q.1.P = p) && q.1.M) = (l.zipIdx.filter (fun q => decide (q.1.P = p))).filter (fun q => q.1.M) := by
    rw [List.filter_filter]
    congr 1
    funext q
    rw [Bool.and_comm]
  rw [ord_step (nodesW_ok h) hv, kidsW h hp, List.flatMap_map, e, ← flat_filter (fun q : DW × Nat => q.1.M)]
  congr 1
  refine flatMap_same (fun q hq => ?_)
  have hd : l[q.2]? = some q.1 := List.mem_zipIdx_iff_getElem?.1 (List.mem_filter.1 hq).1
  rw [actW hd]
theorem vwW {i : Nat} {d : DW} (h : UpOk l) (hd : l[i]? = some d) : vw (nodesW l) (bxW RW RH l) (idW i) = (d.M && vw (nodesW l) (bxW RW RH l) (idW d.P)) := by
  rw [vw_kid (nodesW_ok h) (upW hd), actW hd]
theorem orgN_root {ns : Nodes} {bx : Int → Option VB} (h : TreeOk ns) : orgN ns bx 1 = (0, 0) := by
  unfold orgN
  rw [path_root h]
  rfl
theorem orgW {i : Nat} {d : DW} (h : UpOk l) (hd : l[i]? = some d) : orgN (nodesW l) (bxW RW RH l) (idW i) = (d.X + (orgN (nodesW l) (bxW RW RH l) (idW d.P)).1, d.Y + (orgN (nodesW l) (bxW RW RH l) (idW d.P)).2) := by
  have hne : idW (i : Int) ≠ 1 := by rw [idW_nat]; omega
  unfold orgN
  rw [(path_step (nodesW_ok h) (upW hd)).1]
  show (if idW (i : Int) = 1 then _ else _) = _
  rw [if_neg hne, bxW_nat, hd]
  rfl
/-- the last one that is hit. -/
def lastHit (hit : DW × Nat → Bool) (L : List (DW × Nat)) : Int := match L.reverse.find? hit with | some q => (q.2 : Int) | none => -1
theorem lastHit_snoc (hit : DW × Nat → Bool) (L : List (DW × Nat)) (q : DW × Nat) : lastHit hit (L ++ [q]) = if hit q then (q.2 : Int) else lastHit hit L := by
  unfold lastHit
  rw [List.reverse_append, List.reverse_singleton, List.singleton_append, List.find?_cons]
  cases hit q <;> rfl
/-- does a parent's place hit a window? -/
def hitW (p x y : Int) (q : DW × Nat) : Bool := decide (q.1.P = p) && (q.1.M && q.1.has (x - q.1.X) (y - q.1.Y))
theorem find_congr {α : Type} {p q : α → Bool} : ∀ {l : List α}, (∀ a ∈ l, p a = q a) → l.find? p = l.find? q
  | [], _ => rfl
  | a :: l, h => by
    rw [List.find?_cons, List.find?_cons, h a (by simp), find_congr (fun b hb => h b (List.mem_cons_of_mem _ hb))]
theorem find_filter {α : Type} (p q : α → Bool) : ∀ (l : List α), (l.filter p).find? q = l.find? (fun a => p a && q a)
  | [] => rfl
  | a :: l => by
    rw [List.filter_cons, List.find?_cons, ← find_filter p q l]
    cases hp : p a
    · rfl
    · rw [if_pos rfl, List.find?_cons, Bool.true_and]
theorem find_map {α β : Type} (f : α → β) (p : β → Bool) : ∀ (l : List α), (l.map f).find? p = (l.find? (fun a => p (f a))).map f
  | [] => rfl
  | a :: l => by
    rw [List.map_cons, List.find?_cons, List.find?_cons, find_map f p l]
    cases p (f a) <;> rfl
theorem topW (h : UpOk l) {p : Int} (hp : -1 ≤ p) (f : Nat) (x y : Int) (o : Int × Int) (ho : orgN (nodesW l) (bxW RW RH l) (idW p) = o) :
    topF (nodesW l) (bxW RW RH l) (f + 1) (idW p) (x + o.1) (y + o.2) = if lastHit (hitW p x y) l.zipIdx < 0 then idW p else topF (nodesW l) (bxW RW RH l) f (idW (lastHit (hitW p x y) l.zipIdx)) (x + o.1) (y + o.2) := by
  have e : (kidsOf (nodesW l) (idW p)).reverse.find? (hitB (bxW RW RH l) o (x + o.1) (y + o.2)) = (l.zipIdx.reverse.find? (hitW p x y)).map (fun q => idW q.2) := by
    rw [kidsW h hp, ← List.map_reverse, find_map, ← List.filter_reverse, find_filter]
    congr 1
    refine find_congr (fun q hq => ?_)
    have hd : l[q.2]? = some q.1 := List.mem_zipIdx_iff_getElem?.1 (List.mem_reverse.1 hq)
    unfold hitW hitB kidA
    rw [bxW_nat, hd]
    congr 1
    show (match (if q.1.M = true then some (fun a b => q.1.has (a - (o.1 + q.1.X)) (b - (o.2 + q.1.Y))) else none) with | some A => A (x + o.1) (y + o.2) | none => false) = _
    cases q.1.M
    · rfl
    · show q.1.has _ _ = (true && _)
      rw [Bool.true_and]
      congr 1 <;> omega
  show (match (kidsOf (nodesW l) (idW p)).reverse.find? (hitB (bxW RW RH l) (orgN (nodesW l) (bxW RW RH l) (idW p)) (x + o.1) (y + o.2)) with | some k => topF (nodesW l) (bxW RW RH l) f k (x + o.1) (y + o.2) | none => idW p) = _
  unfold lastHit
  rw [ho, e]
  cases hf : l.zipIdx.reverse.find? (hitW p x y) with
  | none => rfl
  | some q =>
    dsimp only [Option.map_some]
    rw [if_neg (by omega)]

end
end Go.Proofs.YtbkkecijcijhdaaGreat
end
