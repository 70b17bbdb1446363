/-
  The document's scene, plainly: windows told by their parents' numbers; their tree, which are viewable, their order, and the window at a place.
  How many places a region has, plainly.
  What a view tells, plainly; and what a view's value is.
  Boxes that read as the document's windows.
-/
import Derived.Test.YtdaedkolpfkdjaaGreatZT20
section
namespace Go.Proofs.YtdaedkolpfkdjaaGreat

/-- one of the document's windows. -/
structure DW where
  P : Int
  X : Int
  Y : Int
  W : Int
  H : Int
  M : Bool
  S : Bool
  A : Option Addr
  n : Nat
  c : Nat
  sh : List RC
def DW.has (d : DW) : Places := fun x y => inB [⟨0, 0, d.W, d.H⟩] x y && (!d.S || inB d.sh x y)
def DW.vb (d : DW) : VB := ⟨d.X, d.Y, d.M, d.has⟩
def idW (n : Int) : Int := if n < 0 then 1 else 1048577 + n
theorem idW_inj {a b : Int} (ha : -1 ≤ a) (hb : -1 ≤ b) (h : idW a = idW b) : a = b := by
  unfold idW at h
  split at h <;> split at h <;> omega
theorem idW_nat (i : Nat) : idW (i : Int) = 1048577 + (i : Int) := by unfold idW; rw [if_neg (by omega)]
theorem idW_root : idW (-1) = 1 := rfl
/-- their tree. -/
def nodesW (l : List DW) : Nodes := l.zipIdx.map fun q => (idW q.2, idW q.1.P)
theorem nodesW_len (l : List DW) : (nodesW l).length = l.length := by simp [nodesW]
theorem nodesW_mem {l : List DW} {p : Int × Int} : p ∈ nodesW l ↔ ∃ (i : Nat) (d : DW), l[i]? = some d ∧ p = (idW i, idW d.P) := by
  unfold nodesW
  rw [List.mem_map]
  constructor
  · rintro ⟨⟨d, i⟩, h, rfl⟩
    exact ⟨i, d, List.mem_zipIdx_iff_getElem?.1 h, rfl⟩
  · rintro ⟨i, d, h, rfl⟩
    exact ⟨(d, i), List.mem_zipIdx_iff_getElem?.2 h, rfl⟩
/-- parents stand ahead. -/
def UpOk (l : List DW) : Prop := ∀ (i : Nat) (d : DW), l[i]? = some d → -1 ≤ d.P ∧ d.P < (i : Int)
theorem nodesW_nodup (l : List DW) : ((nodesW l).map (·.1)).Nodup := by
  unfold List.Nodup
  rw [List.pairwise_iff_getElem]
  intro i j hi hj hij e
  simp only [nodesW, List.map_map, List.getElem_map, List.getElem_zipIdx, Function.comp, Nat.zero_add] at e
  have := idW_inj (by omega) (by omega) e
  omega
theorem upW {l : List DW} {i : Nat} {d : DW} (hd : l[i]? = some d) : upOf (nodesW l) (idW i) = some (idW d.P) := upOf_mem (nodesW_nodup l) (nodesW_mem.2 ⟨i, d, hd, rfl⟩)
theorem hasW {l : List DW} {n : Int} (h1 : -1 ≤ n) (h2 : n < (l.length : Int)) : hasN (nodesW l) (idW n) = true := by
  rw [hasN_iff]
  by_cases h : n < 0
  · exact .inl (by unfold idW; rw [if_pos h])
  · obtain ⟨i, rfl⟩ : ∃ i : Nat, n = (i : Int) := ⟨n.toNat, by omega⟩
    exact .inr ⟨_, upW (List.getElem?_eq_getElem (by omega))⟩
theorem hasW_inv {l : List DW} {k : Int} (h : hasN (nodesW l) k = true) : ∃ n : Int, -1 ≤ n ∧ n < (l.length : Int) ∧ k = idW n := by
  rcases hasN_iff.1 h with rfl | ⟨p, hp⟩
  · exact ⟨-1, by omega, by omega, rfl⟩
  · obtain ⟨i, d, hd, e⟩ := nodesW_mem.1 (upOf_some hp)
    have hlt := (List.getElem?_eq_some_iff.1 hd).1
    exact ⟨i, by omega, by omega, congrArg Prod.fst e⟩
theorem nodesW_ok {l : List DW} (h : UpOk l) : TreeOk (nodesW l) where
  nodup := nodesW_nodup l
  noroot := fun p hp => by
    obtain ⟨i, d, _, rfl⟩ := nodesW_mem.1 hp
    show idW i ≠ 1
    rw [idW_nat]
    omega
  closed := fun p hp => by
    obtain ⟨i, d, hd, rfl⟩ := nodesW_mem.1 hp
    have hlt := (List.getElem?_eq_some_iff.1 hd).1
    have := h i d hd
    exact hasW this.1 (by omega)
  ranked := ⟨fun id => if id = 1 then 0 else (id - 1048576).toNat, rfl, fun p hp => by
    obtain ⟨i, d, hd, rfl⟩ := nodesW_mem.1 hp
    have hlt := (List.getElem?_eq_some_iff.1 hd).1
    have h1 := h i d hd
    rw [nodesW_len]
    dsimp only
    rw [idW_nat, if_neg (show ¬ (1048577 + (i : Int) = 1) by omega)]
    by_cases h2 : d.P < 0
    · have e : idW d.P = 1 := by unfold idW; rw [if_pos h2]
      rw [e, if_pos rfl]
      omega
    · have e : idW d.P = 1048577 + d.P := by unfold idW; rw [if_neg h2]
      rw [e, if_neg (show ¬ (1048577 + d.P = 1) by omega)]
      omega⟩
theorem kidsW {l : List DW} (h : UpOk l) {p : Int} (hp : -1 ≤ p) : kidsOf (nodesW l) (idW p) = (l.zipIdx.filter (fun q => decide (q.1.P = p))).map (fun q => idW q.2) := by
  unfold kidsOf nodesW
  rw [List.filter_map, List.map_map]
  rw [List.filter_congr (q := fun q => decide (q.1.P = p))]
  · rfl
  · rintro ⟨d, i⟩ hd
    have := h i d (List.mem_zipIdx_iff_getElem?.1 hd)
    simp only [Function.comp]
    rw [Bool.eq_iff_iff, beq_iff_eq, decide_eq_true_eq]
    exact ⟨fun e => idW_inj this.1 hp e, fun e => by rw [e]⟩
/-- their boxes. -/
def bxW (RW RH : Int) (l : List DW) (k : Int) : Option VB := if k = 1 then some ⟨0, 0, true, fun x y => inB [⟨0, 0, RW, RH⟩] x y⟩ else if 1048577 ≤ k then (l[(k - 1048577).toNat]?).map DW.vb else none
theorem bxW_nat (RW RH : Int) (l : List DW) (i : Nat) : bxW RW RH l (idW i) = (l[i]?).map DW.vb := by
  unfold bxW
  rw [idW_nat, if_neg (by omega), if_pos (by omega), show (1048577 + (i : Int) - 1048577).toNat = i from by omega]
section
variable {ns : Nodes} {bx : Int → Option VB}
/-- is a window viewable, all the way up? -/
def vw (ns : Nodes) (bx : Int → Option VB) (id : Int) : Bool := (pathN ns id).all fun w => decide (w = 1) || actB bx w
theorem vw_kid (h : TreeOk ns) {id k : Int} (hk : upOf ns k = some id) : vw ns bx k = (actB bx k && vw ns bx id) := by
  obtain ⟨h1, _, hne⟩ := path_step h hk
  unfold vw
  rw [h1, List.all_cons]
  simp [hne]
theorem vw_root (h : TreeOk ns) : vw ns bx 1 = true := by unfold vw; rw [path_root h]; simp
theorem vw_below (h : TreeOk ns) {id j : Int} (hi : hasN ns id = true) (hj : j ∈ belowAt ns id) (hv : vw ns bx j = true) : vw ns bx id = true := by
  obtain ⟨pre, hpre⟩ := path_suffix h ((below_iff h hi j).1 hj)
  unfold vw at hv ⊢
  rw [hpre, List.all_append, Bool.and_eq_true] at hv
  exact hv.2
theorem below_lt (h : TreeOk ns) {id k : Int} {f : Nat} (hk : k ∈ kidsOf ns id) (hl : (belowAt ns id).length ≤ f + 1) : (belowAt ns k).length ≤ f := by
  have h1 := flat_ge (ns := ns) hk
  rw [below_step h, List.length_cons] at hl
  omega
theorem idsF_iff (h : TreeOk ns) : ∀ (f : Nat) (id : Int), hasN ns id = true → (belowAt ns id).length ≤ f → vw ns bx id = true → ∀ j, j ∈ idsF ns bx f id ↔ j ∈ belowAt ns id ∧ vw ns bx j = true
  | 0, id, _, hl, _, _ => by rw [below_step h] at hl; simp at hl
  | f + 1, id, hi, hl, hv, j => by
    have hlk : ∀ k ∈ kidsOf ns id, (belowAt ns k).length ≤ f := fun k hk => below_lt h hk hl
    unfold idsF
    rw [below_step h, List.mem_append, List.mem_flatMap, List.mem_singleton, List.mem_cons, List.mem_flatMap]
    constructor
    · rintro (⟨k, hk, hj⟩ | hj)
      · rw [List.mem_reverse] at hk
        cases ha : actB bx k with
        | false => rw [ha] at hj; simp at hj
        | true =>
          rw [ha, if_pos rfl] at hj
          obtain ⟨hu, hh⟩ := kids_up h hk
          have := (idsF_iff h f k hh (hlk k hk) (by rw [vw_kid h hu, ha, hv]; rfl) j).1 hj
          exact ⟨.inr ⟨k, hk, this.1⟩, this.2⟩
      · rw [hj]
        exact ⟨.inl rfl, hv⟩
    · rintro ⟨rfl | ⟨k, hk, hj⟩, hvj⟩
      · exact .inr rfl
      · obtain ⟨hu, hh⟩ := kids_up h hk
        have hvk := vw_below h hh hj hvj
        have ha : actB bx k = true := by
          have h1 := hvk
          rw [vw_kid h hu, Bool.and_eq_true] at h1
          exact h1.1
        refine .inl ⟨k, by rw [List.mem_reverse]; exact hk, ?_⟩
        rw [ha, if_pos rfl]
        exact (idsF_iff h f k hh (hlk k hk) hvk j).2 ⟨hj, hvj⟩
/-- the order in which viewable windows are told. -/
def ordW (ns : Nodes) (bx : Int → Option VB) (id : Int) : List Int := (belowAt ns id).filter (vw ns bx)
end
section
variable {l : List DW} {RW RH : Int}
theorem orgN_root {ns : Nodes} {bx : Int → Option VB} (h : TreeOk ns) : orgN ns bx 1 = (0, 0) := by
  unfold orgN
  rw [path_root h]
  rfl
theorem orgW {i : Nat} {d : DW} (h : UpOk l) (hd : l[i]? = some d) : orgN (nodesW l) (bxW RW RH l) (idW i) = (d.X + (orgN (nodesW l) (bxW RW RH l) (idW d.P)).1, d.Y + (orgN (nodesW l) (bxW RW RH l) (idW d.P)).2) := by
  have hne : idW (i : Int) ≠ 1 := by rw [idW_nat]; omega
  unfold orgN
  rw [(path_step (nodesW_ok h) (upW hd)).1]
  show (if idW (i : Int) = 1 then _ else _) = _
  rw [if_neg hne, bxW_nat, hd]
  rfl
/-- the last one that is hit. -/
def lastHit (hit : DW × Nat → Bool) (L : List (DW × Nat)) : Int := match L.reverse.find? hit with | some q => (q.2 : Int) | none => -1
/-- does a parent's place hit a window? -/
def hitW (p x y : Int) (q : DW × Nat) : Bool := decide (q.1.P = p) && (q.1.M && q.1.has (x - q.1.X) (y - q.1.Y))
theorem find_congr {α : Type} {p q : α → Bool} : ∀ {l : List α}, (∀ a ∈ l, p a = q a) → l.find? p = l.find? q
  | [], _ => rfl
  | a :: l, h => by
    rw [List.find?_cons, List.find?_cons, h a (by simp), find_congr (fun b hb => h b (List.mem_cons_of_mem _ hb))]
theorem find_filter {α : Type} (p q : α → Bool) : ∀ (l : List α), (l.filter p).find? q = l.find? (fun a => p a && q a)
  | [] => rfl
  | a :: l => by
    rw [List.filter_cons, List.find?_cons, ← find_filter p q l]
    cases hp : p a
    · rfl
    · rw [if_pos rfl, List.find?_cons, Bool.true_and]
theorem find_map {α β : Type} (f : α → β) (p : β → Bool) : ∀ (l : List α), (l.map f).find? p = (l.find? (fun a => p (f a))).map f
  | [] => rfl
  | a :: l => by
    rw [List.map_cons, List.find?_cons, List.find?_cons, find_map f p l]
    cases p (f a) <;> rfl
theorem topW (h : UpOk l) {p : Int} (hp : -1 ≤ p) (f : Nat) (x y : Int) (o : Int × Int) (ho : orgN (nodesW l) (bxW RW RH l) (idW p) = o) :
    topF (nodesW l) (bxW RW RH l) (f + 1) (idW p) (x + o.1) (y + o.2) = if lastHit (hitW p x y) l.zipIdx < 0 then idW p else topF (nodesW l) (bxW RW RH l) f (idW (lastHit (hitW p x y) l.zipIdx)) (x + o.1) (y + o.2) := by
  have e : (kidsOf (nodesW l) (idW p)).reverse.find? (hitB (bxW RW RH l) o (x + o.1) (y + o.2)) = (l.zipIdx.reverse.find? (hitW p x y)).map (fun q => idW q.2) := by
    rw [kidsW h hp, ← List.map_reverse, find_map, ← List.filter_reverse, find_filter]
    congr 1
    refine find_congr (fun q hq => ?_)
    have hd : l[q.2]? = some q.1 := List.mem_zipIdx_iff_getElem?.1 (List.mem_reverse.1 hq)
    unfold hitW hitB kidA
    rw [bxW_nat, hd]
    congr 1
    show (match (if q.1.M = true then some (fun a b => q.1.has (a - (o.1 + q.1.X)) (b - (o.2 + q.1.Y))) else none) with | some A => A (x + o.1) (y + o.2) | none => false) = _
    cases q.1.M
    · rfl
    · show q.1.has _ _ = (true && _)
      rw [Bool.true_and]
      congr 1 <;> omega
  show (match (kidsOf (nodesW l) (idW p)).reverse.find? (hitB (bxW RW RH l) (orgN (nodesW l) (bxW RW RH l) (idW p)) (x + o.1) (y + o.2)) with | some k => topF (nodesW l) (bxW RW RH l) f k (x + o.1) (y + o.2) | none => idW p) = _
  unfold lastHit
  rw [ho, e]
  cases hf : l.zipIdx.reverse.find? (hitW p x y) with
  | none => rfl
  | some q =>
    dsimp only [Option.map_some]
    rw [if_neg (by omega)]

end
end Go.Proofs.YtdaedkolpfkdjaaGreat
end

section
namespace Go.Proofs.YtdaedkolpfkdjaaGreat

theorem countP_or {α : Type} (p q : α → Bool) : ∀ (l : List α), (∀ a ∈ l, p a = true → q a = false) → l.countP (fun a => p a || q a) = l.countP p + l.countP q
  | [], _ => rfl
  | a :: l, h => by
    have ih := countP_or p q l (fun b hb => h b (List.mem_cons_of_mem _ hb))
    have h1 := h a (by simp)
    rw [List.countP_cons, List.countP_cons, List.countP_cons, ih]
    cases hp : p a
    · simp; omega
    · rw [h1 hp]; simp; omega
theorem countP_between (a b : Int) : ∀ (w : Nat), (((List.range w).countP (fun (x : Nat) => decide (a ≤ (x : Int)) && decide ((x : Int) < b)) : Nat) : Int) = max 0 (min b w - max a 0)
  | 0 => by simp; omega
  | w + 1 => by
    have ih := countP_between a b w
    rw [List.range_succ, List.countP_append, List.countP_singleton]
    by_cases h1 : a ≤ (w : Int)
    · by_cases h2 : (w : Int) < b
      · simp only [h1, h2, decide_true, Bool.and_self, if_true]
        omega
      · simp only [h1, h2, decide_true, decide_false, Bool.and_false, Bool.false_eq_true, if_false]
        omega
    · simp only [h1, decide_false, Bool.false_and, Bool.false_eq_true, if_false]
      omega
theorem sum_add {α : Type} (f g : α → Nat) : ∀ (l : List α), (l.map fun a => f a + g a).sum = (l.map f).sum + (l.map g).sum
  | [] => rfl
  | a :: l => by
    have ih := sum_add f g l
    simp only [List.map_cons, List.sum_cons, ih]
    omega
theorem sum_if {α : Type} (c : Nat) (p : α → Bool) : ∀ (l : List α), (l.map fun a => if p a then c else 0).sum = l.countP p * c
  | [] => by simp
  | a :: l => by
    have ih := sum_if c p l
    rw [List.map_cons, List.sum_cons, ih, List.countP_cons]
    cases p a
    · simp
    · simp [Nat.add_mul]; omega
/-- how many places of w by h a set has. -/
def cntP (w h : Nat) (P : Places) : Nat := ((List.range h).map fun (y : Nat) => (List.range w).countP fun (x : Nat) => P x y).sum
theorem cntP_one {r : RC} {w h : Nat} (hx : 0 ≤ r.X ∧ r.X + r.W ≤ w) (hy : 0 ≤ r.Y ∧ r.Y + r.H ≤ h) (hp : 0 < r.W ∧ 0 < r.H) : (cntP w h (fun x y => (decide (r.X ≤ x) && decide (x < r.X + r.W)) && (decide (r.Y ≤ y) && decide (y < r.Y + r.H))) : Int) = r.W * r.H := by
  have e : cntP w h (fun x y => (decide (r.X ≤ x) && decide (x < r.X + r.W)) && (decide (r.Y ≤ y) && decide (y < r.Y + r.H))) = ((List.range h).map fun (y : Nat) => if (decide (r.Y ≤ (y : Int)) && decide ((y : Int) < r.Y + r.H)) then (List.range w).countP (fun (x : Nat) => decide (r.X ≤ (x : Int)) && decide ((x : Int) < r.X + r.W)) else 0).sum := by
    unfold cntP
    congr 1
    refine List.map_congr_left (fun y _ => ?_)
    cases hc : (decide (r.Y ≤ (y : Int)) && decide ((y : Int) < r.Y + r.H))
    · rw [if_neg (by decide), List.countP_eq_zero]
      intro x _
      dsimp only
      rw [hc, Bool.and_false]
      decide
    · rw [if_pos rfl]
      refine List.countP_congr (fun x _ => ?_)
      dsimp only
      rw [hc, Bool.and_true]
  have h1 := countP_between r.X (r.X + r.W) w
  have h2 := countP_between r.Y (r.Y + r.H) h
  rw [e, sum_if, Int.natCast_mul, h1, h2]
  have e1 : max 0 (min (r.X + r.W) (w : Int) - max r.X 0) = r.W := by omega
  have e2 : max 0 (min (r.Y + r.H) (h : Int) - max r.Y 0) = r.H := by omega
  rw [e1, e2, Int.mul_comm]
theorem down_tail {r : RC} {l : List RC} (h : Down (r :: l)) : Down l := ⟨(List.pairwise_cons.1 h.1).2, fun s hs => h.2 s (List.mem_cons_of_mem _ hs)⟩
/-- a region's rectangles have as many places as the region has. -/
theorem area_cnt {w h : Nat} : ∀ {l : List RC}, Down l → (∀ x y, InR l x y → (0 ≤ x ∧ x < w) ∧ 0 ≤ y ∧ y < h) → areaS l = cntP w h (inB l)
  | [], _, _ => by
    have e : cntP w h (inB []) = 0 := by
      unfold cntP
      have : ∀ (y : Nat), (List.range w).countP (fun (x : Nat) => inB [] x y) = 0 := fun y => by
        rw [List.countP_eq_zero]
        intro x _
        simp [inB]
      rw [List.map_congr_left (fun y _ => this y)]
      induction List.range h with
      | nil => rfl
      | cons a l ih => rw [List.map_cons, List.sum_cons, ih]
    rw [e]
    rfl
  | r :: l, hd, hin => by
    have ih := area_cnt (down_tail hd) (fun x y ⟨s, hs, hq⟩ => hin x y ⟨s, List.mem_cons_of_mem _ hs, hq⟩)
    have hp := hd.2 r (by simp)
    have h1 := hin r.X r.Y ⟨r, by simp, by omega⟩
    have h2 := hin (r.X + r.W - 1) (r.Y + r.H - 1) ⟨r, by simp, by omega⟩
    have h3 := cntP_one (r := r) (w := w) (h := h) ⟨by omega, by omega⟩ ⟨by omega, by omega⟩ hp
    have e : cntP w h (inB (r :: l)) = cntP w h (fun x y => (decide (r.X ≤ x) && decide (x < r.X + r.W)) && (decide (r.Y ≤ y) && decide (y < r.Y + r.H))) + cntP w h (inB l) := by
      unfold cntP
      rw [← sum_add]
      congr 1
      refine List.map_congr_left (fun y _ => ?_)
      rw [← countP_or]
      · refine List.countP_congr (fun x _ => ?_)
        have : inB (r :: l) (x : Int) (y : Int) = (((decide (r.X ≤ (x : Int)) && decide ((x : Int) < r.X + r.W)) && (decide (r.Y ≤ (y : Int)) && decide ((y : Int) < r.Y + r.H))) || inB l x y) := by
          rw [Bool.eq_iff_iff, inB_iff, Bool.or_eq_true, inB_iff]
          simp only [Bool.and_eq_true, decide_eq_true_eq]
          constructor
          · rintro ⟨s, hs, hq⟩
            rcases List.mem_cons.1 hs with rfl | hs
            · exact .inl (by omega)
            · exact .inr ⟨s, hs, hq⟩
          · rintro (hq | ⟨s, hs, hq⟩)
            · exact ⟨r, by simp, by omega⟩
            · exact ⟨s, List.mem_cons_of_mem _ hs, hq⟩
        rw [this]
      · intro x _ hx
        rw [← Bool.not_eq_true, inB_iff]
        simp only [Bool.and_eq_true, decide_eq_true_eq] at hx
        rintro ⟨s, hs, hq⟩
        have := (List.pairwise_cons.1 hd.1).1 s hs
        omega
    rw [e, Int.natCast_add, h3, ← ih]
    rfl
theorem cntP_congr {w h : Nat} {P Q : Places} (hPQ : ∀ x y : Nat, x < w → y < h → P x y = Q x y) : cntP w h P = cntP w h Q := by
  unfold cntP
  congr 1
  refine List.map_congr_left (fun y hy => List.countP_congr (fun x hx => ?_))
  rw [hPQ x y (List.mem_range.1 hx) (List.mem_range.1 hy)]
/-- rectangles that lie elsewhere. -/
def mvL (a b : Int) (l : List RC) : List RC := l.map fun r => ⟨r.X + a, r.Y + b, r.W, r.H⟩
theorem mvL_area (a b : Int) : ∀ (l : List RC), areaS (mvL a b l) = areaS l
  | [] => rfl
  | r :: l => by
    have ih := mvL_area a b l
    show r.W * r.H + areaS (mvL a b l) = r.W * r.H + areaS l
    rw [ih]
theorem mvL_in (a b : Int) (l : List RC) (x y : Int) : InR (mvL a b l) x y ↔ InR l (x - a) (y - b) := by
  unfold InR mvL
  constructor
  · rintro ⟨q, hq, h⟩
    obtain ⟨r, hr, rfl⟩ := List.mem_map.1 hq
    dsimp only at h
    exact ⟨r, hr, by omega⟩
  · rintro ⟨r, hr, h⟩
    exact ⟨_, List.mem_map.2 ⟨r, hr, rfl⟩, by dsimp only; omega⟩
theorem mvL_down {a b : Int} {l : List RC} (h : Down l) : Down (mvL a b l) := by
  refine ⟨?_, fun r hr => ?_⟩
  · unfold mvL
    rw [List.pairwise_map]
    refine h.1.imp (fun {r s} hrs => ?_)
    dsimp only
    omega
  · obtain ⟨s, hs, rfl⟩ := List.mem_map.1 hr
    exact h.2 s hs
theorem area_off {w h : Nat} {l : List RC} (a b : Int) (hd : Down l) (hin : ∀ x y, InR l x y → (0 ≤ x + a ∧ x + a < w) ∧ 0 ≤ y + b ∧ y + b < h) : areaS l = cntP w h (fun x y => inB l (x - a) (y - b)) := by
  rw [← mvL_area a b, area_cnt (mvL_down hd) (fun x y hxy => by
    have := hin _ _ ((mvL_in a b l x y).1 hxy)
    omega) (w := w) (h := h)]
  rw [cntP_congr (fun x y _ _ => ?_)]
  rw [Bool.eq_iff_iff, inB_iff, inB_iff, mvL_in]

end Go.Proofs.YtdaedkolpfkdjaaGreat
end

section
namespace Go.Proofs.YtdaedkolpfkdjaaGreat
open Go.RowKit Go.Maps Go.Shelf

section
variable {ns : Nodes} {bx : Int → Option VB}
/-- all that is told, of a root's places; and the window at a place. -/
def esN (ns : Nodes) (bx : Int → Option VB) (P : Places) : List (Int × Places) := handF ns bx (belowAt ns 1).length 1 P P
def topN (ns : Nodes) (bx : Int → Option VB) (x y : Int) : Int := topF ns bx (belowAt ns 1).length 1 x y
theorem below_root (h : TreeOk ns) {j : Int} : j ∈ belowAt ns 1 ↔ hasN ns j = true := by
  rw [below_iff h (hasN_root ns)]
  constructor
  · intro hj
    cases hn : hasN ns j with
    | true => rfl
    | false => rw [path_none hn] at hj; cases hj
  · intro hj
    refine path_ind h (P := fun j => 1 ∈ pathN ns j) ?_ ?_ j hj
    · rw [path_root h]; simp
    · intro id p hp ih
      rw [(path_step h hp).1]
      exact List.mem_cons_of_mem _ ih
theorem lastE_is {es : List (Int × Places)} {i : Int} : (lastE es i).isSome = true ↔ i ∈ es.map (·.1) := by
  unfold lastE
  rw [List.find?_isSome, List.mem_map]
  constructor
  · rintro ⟨e, he, h⟩
    exact ⟨e, List.mem_reverse.1 he, by simpa using h⟩
  · rintro ⟨e, he, h⟩
    exact ⟨e, List.mem_reverse.2 he, by simpa using h⟩
theorem look_some (h : TreeOk ns) (P : Places) (i : Int) : (lastE (esN ns bx P) i).isSome = (hasN ns i && vw ns bx i) := by
  rw [Bool.eq_iff_iff, lastE_is, Bool.and_eq_true, ← below_root h]
  unfold esN
  rw [handF_ids, idsF_iff h _ 1 (hasN_root ns) (Nat.le_refl _) (vw_root h)]
theorem look_at (h : TreeOk ns) {P : Places} {i : Int} {e : Int × Places} (he : lastE (esN ns bx P) i = some e) (x y : Int) : e.2 x y = (P x y && decide (i = topN ns bx x y)) := by
  obtain ⟨h1, h2⟩ := lastE_id he
  rw [handF_ok h _ 1 P P (fun _ _ h => h) e h2 x y, h1]
  rfl
theorem topF_vw (h : TreeOk ns) : ∀ (f : Nat) (id x y : Int), hasN ns id = true → vw ns bx id = true → hasN ns (topF ns bx f id x y) = true ∧ vw ns bx (topF ns bx f id x y) = true
  | 0, _, _, _, hh, hv => ⟨hh, hv⟩
  | f + 1, id, x, y, hh, hv => by
    unfold topF
    cases hf : (kidsOf ns id).reverse.find? (hitB bx (orgN ns bx id) x y) with
    | none => exact ⟨hh, hv⟩
    | some k =>
      have hk := List.mem_of_find?_eq_some hf
      rw [List.mem_reverse] at hk
      have hb := List.find?_some hf
      obtain ⟨hu, hk2⟩ := kids_up h hk
      refine topF_vw h f k x y hk2 ?_
      rw [vw_kid h hu, hv, Bool.and_true]
      unfold hitB kidA at hb
      unfold actB
      cases hbx : bx k with
      | none => rw [hbx] at hb; cases hb
      | some b =>
        rw [hbx] at hb
        show b.M = true
        cases hM : b.M with
        | true => rfl
        | false => simp [hM] at hb
/-- does the view show a window at a place? -/
def showB (es : List (Int × Places)) (x y i : Int) : Bool := match lastE es i with | some e => e.2 x y | none => false
theorem top_look (h : TreeOk ns) (P : Places) (x y : Int) : (lastE (esN ns bx P) (topN ns bx x y)).isSome = true := by
  obtain ⟨h1, h2⟩ := topF_vw (bx := bx) h (belowAt ns 1).length 1 x y (hasN_root ns) (vw_root h)
  rw [look_some h]
  unfold topN
  rw [h1, h2]
  rfl
theorem show_at (h : TreeOk ns) (P : Places) (x y i : Int) : showB (esN ns bx P) x y i = (P x y && decide (i = topN ns bx x y)) := by
  unfold showB
  cases he : lastE (esN ns bx P) i with
  | some e => exact look_at h he x y
  | none =>
    have hne : i ≠ topN ns bx x y := fun e => by
      have := top_look (bx := bx) h P x y
      rw [← e, he] at this
      cases this
    simp [hne]
theorem ord_mem (h : TreeOk ns) {i : Int} : i ∈ ordW ns bx 1 ↔ (hasN ns i && vw ns bx i) = true := by
  unfold ordW
  rw [List.mem_filter, below_root h, Bool.and_eq_true]
/-- the order is what is below the root, as far as it is told. -/
theorem ord_look (h : TreeOk ns) (P : Places) : (belowN ns 1).filter (fun i => (lastE (esN ns bx P) i).isSome) = ordW ns bx 1 := by
  unfold belowN ordW
  rw [if_pos (hasN_root ns)]
  refine List.filter_congr (fun i hi => ?_)
  rw [look_some h, (below_root h).1 hi, Bool.true_and]
end

theorem canon_nilV : Canon [] := by
  refine ⟨[], rfl, ⟨?_, ?_, ?_⟩⟩
  · intro b hb; cases hb
  · simp
  · intro pre a b post e
    have := congrArg List.length e
    simp at this
theorem reg_nil (W : World) (c : Nat) : RegAt W (.agg #[.slice none 0 c]) [] := ⟨none, c, rfl, ⟨rfl, fun h => absurd h (by decide)⟩, canon_nilV, by simp, by simp⟩
/-- a view: the order, and what each window shows, and where it begins. -/
structure ViewIs (W : World) (v : Value) (A : Option Addr) (n c : Nat) (mv : Option Nat) (nm : Nat) (f : Int → Option Value) (ord : List Int) (es : List (Int × Places)) (og : Int → Int × Int) (RW RH : Nat) : Prop where
  shape : v = .agg #[.slice A n c, .map mv]
  order : Rd W A n (U32 ord)
  few : n ≤ 1001
  cap : n ≤ c
  ids : ∀ i ∈ ord, 0 ≤ i ∧ i ≤ 4294967295
  map : MapOpt Tryz.prog 48 .u32 W mv nm f
  non : ∀ i, lastE es i = none → f i = none
  told : ∀ i e, lastE es i = some e → ∃ A c out, f i = some (shV (og i).1 (og i).2 A out.length c) ∧ RegAt W (.agg #[.slice A out.length c]) out ∧ ∀ a b, inB out a b = e.2 a b
  near : ∀ i, (-900000 ≤ (og i).1 ∧ (og i).1 ≤ 900000) ∧ -900000 ≤ (og i).2 ∧ (og i).2 ≤ 900000
  small : ∀ i x y, showB es x y i = true → (0 ≤ x ∧ x < (RW : Int)) ∧ 0 ≤ y ∧ y < (RH : Int)
  side : RW ≤ 128 ∧ RH ≤ 128
section
variable {W W' : World} {v : Value} {A : Option Addr} {n c : Nat} {mv : Option Nat} {nm : Nat} {f : Int → Option Value} {ord : List Int} {es : List (Int × Places)} {og : Int → Int × Int} {RW RH : Nat}
theorem ViewIs.below (h : ViewIs W v A n c mv nm f ord es og RW RH) (hb : Below W.heap.size W W') : ViewIs W' v A n c mv nm f ord es og RW RH :=
  { h with
    order := h.order.below hb
    map := h.map.below hb
    told := fun i e he => by
      obtain ⟨A, c, out, h1, h2, h3⟩ := h.told i e he
      exact ⟨A, c, out, h1, h2.below hb, h3⟩ }
/-- where a window begins, as a view tells it. -/
def ogV (es : List (Int × Places)) (og : Int → Int × Int) (i : Int) : Int × Int := if (lastE es i).isSome then og i else (0, 0)
theorem ViewIs.look (h : ViewIs W v A n c mv nm f ord es og RW RH) (i : Int) : ∃ B d out, (f i).getD (shV 0 0 none 0 0) = shV (ogV es og i).1 (ogV es og i).2 B out.length d ∧ RegAt W (.agg #[.slice B out.length d]) out ∧ (∀ x y, inB out x y = showB es x y i) ∧ (f i).isSome = (lastE es i).isSome ∧ ((-900000 ≤ (ogV es og i).1 ∧ (ogV es og i).1 ≤ 900000) ∧ -900000 ≤ (ogV es og i).2 ∧ (ogV es og i).2 ≤ 900000) ∧ out.length ≤ 100000 := by
  cases he : lastE es i with
  | none =>
    have hf := h.non i he
    refine ⟨none, 0, [], ?_, reg_nil W 0, fun x y => ?_, by rw [hf]; rfl, ?_, by simp⟩
    · rw [hf]; unfold ogV; rw [he]; rfl
    · unfold showB; rw [he]; rfl
    · unfold ogV; rw [he]; show ((-900000 ≤ (0 : Int) ∧ (0 : Int) ≤ 900000) ∧ -900000 ≤ (0 : Int) ∧ (0 : Int) ≤ 900000); decide
  | some e =>
    obtain ⟨B, d, out, h1, h2, h3⟩ := h.told i e he
    refine ⟨B, d, out, ?_, h2, fun x y => ?_, by rw [h1]; rfl, ?_, ?_⟩
    · rw [h1]; unfold ogV; rw [he]; rfl
    · rw [h3]; unfold showB; rw [he]
    · unfold ogV; rw [he]; exact h.near i
    · obtain ⟨_, _, _, _, hc, _⟩ := h2
      refine area_few hc (W := 128) (H := 128) (fun x y hxy => ?_) (by decide)
      have h5 := h.small i x y (by
        unfold showB
        rw [he]
        show e.2 x y = true
        rw [← h3, inB_iff]
        exact hxy)
      have h6 := h.side
      omega
/-- how many places a window shows, wherever they are told from. -/
theorem ViewIs.area (h : ViewIs W v A n c mv nm f ord es og RW RH) {i a b : Int} {out : List RC} (hc : Canon out) (ho : ∀ x y, inB out x y = showB es (x + a) (y + b) i) : areaL out = cntP RW RH (fun x y => showB es x y i) := by
  rw [areaL_S, area_off a b (canon_down hc) (fun x y hxy => h.small i _ _ (by rw [← ho, inB_iff]; exact hxy))]
  rw [cntP_congr (fun x y _ _ => ?_)]
  rw [ho]
  congr 1 <;> omega
end

end Go.Proofs.YtdaedkolpfkdjaaGreat
end

section
namespace Go.Proofs.YtdaedkolpfkdjaaGreat
open Go.RowKit Go.Maps Go.Shelf

/-- a window's numbers are small. -/
structure DWok (d : DW) : Prop where
  x : -200 ≤ d.X ∧ d.X ≤ 200
  y : -200 ≤ d.Y ∧ d.Y ≤ 200
  w : 1 ≤ d.W ∧ d.W ≤ 128
  h : 1 ≤ d.H ∧ d.H ≤ 128
  s : d.S = false → d.sh = []
  few : d.sh.length ≤ 12
  sh : ∀ r ∈ d.sh, ((-100 ≤ r.X ∧ r.X ≤ 100) ∧ -100 ≤ r.Y ∧ r.Y ≤ 100) ∧ (0 ≤ r.W ∧ r.W ≤ 100) ∧ 0 ≤ r.H ∧ r.H ≤ 100
/-- a box that reads as a window. -/
def BoxOf (W : World) (d : DW) (b : BX) : Prop := (b.X = d.X ∧ b.Y = d.Y ∧ b.W = d.W ∧ b.H = d.H ∧ b.M = d.M ∧ b.S = d.S) ∧ ∃ out, RegAt W (.agg #[.slice b.A b.n b.c]) out ∧ ∀ x y, inB out x y = inB d.sh x y
theorem BoxOf.below {W W' : World} {d : DW} {b : BX} (h : BoxOf W d b) (hb : Below W.heap.size W W') : BoxOf W' d b := by
  obtain ⟨h1, out, h2, h3⟩ := h
  exact ⟨h1, out, h2.below hb, h3⟩
structure SceneIs (W : World) (bs : Bxs) (RW RH : Int) (l : List DW) : Prop where
  root : bs 1 = some (rootBX RW RH)
  each : ∀ (i : Nat) (d : DW), l[i]? = some d → ∃ b, bs (idW i) = some b ∧ BoxOf W d b
  only : ∀ (k : Int) (b : BX), bs k = some b → k = 1 ∨ ∃ i : Nat, i < l.length ∧ k = idW i
section
variable {W W' : World} {bs : Bxs} {RW RH : Int} {l : List DW}
theorem SceneIs.below (h : SceneIs W bs RW RH l) (hb : Below W.heap.size W W') : SceneIs W' bs RW RH l :=
  ⟨h.root, fun i d hd => by
    obtain ⟨b, h1, h2⟩ := h.each i d hd
    exact ⟨b, h1, h2.below hb⟩, h.only⟩
theorem SceneIs.snoc (h : SceneIs W bs RW RH l) {d : DW} {b : BX} (hb : BoxOf W d b) : SceneIs W (fun j => if j = idW l.length then some b else bs j) RW RH (l ++ [d]) where
  root := by
    have : ¬ (1 : Int) = idW l.length := by rw [idW_nat]; omega
    show (if (1 : Int) = idW l.length then some b else bs 1) = _
    rw [if_neg this]
    exact h.root
  each := fun i d' hd => by
    by_cases hi : i < l.length
    · rw [List.getElem?_append_left hi] at hd
      obtain ⟨b', h1, h2⟩ := h.each i d' hd
      refine ⟨b', ?_, h2⟩
      have : ¬ idW (i : Int) = idW l.length := by rw [idW_nat, idW_nat]; omega
      show (if idW (i : Int) = idW l.length then some b else bs (idW i)) = _
      rw [if_neg this]
      exact h1
    · have hlt := (List.getElem?_eq_some_iff.1 hd).1
      simp only [List.length_append, List.length_singleton] at hlt
      obtain rfl : i = l.length := by omega
      rw [List.getElem?_append_right (Nat.le_refl _), Nat.sub_self] at hd
      obtain rfl : d = d' := by simpa using hd
      exact ⟨b, by show (if _ then _ else _) = _; rw [if_pos rfl], hb⟩
  only := fun k b' hk => by
    by_cases e : k = idW l.length
    · exact .inr ⟨l.length, by simp, e⟩
    · rw [if_neg e] at hk
      rcases h.only k b' hk with h1 | ⟨i, hi, h1⟩
      · exact .inl h1
      · exact .inr ⟨i, by simp; omega, h1⟩
theorem SceneIs.nil {w : World} : SceneIs w (fun i => if i = 1 then some (rootBX RW RH) else none) RW RH [] :=
  ⟨rfl, fun i d hd => by simp at hd, fun k b hk => by
    by_cases e : k = 1
    · exact .inl e
    · rw [if_neg e] at hk; cases hk⟩
theorem SceneIs.box (h : SceneIs W bs RW RH l) {k : Int} {b : BX} (hk : bs k = some b) : (k = 1 ∧ b = rootBX RW RH) ∨ ∃ (i : Nat) (d : DW), l[i]? = some d ∧ k = idW i ∧ BoxOf W d b := by
  rcases h.only k b hk with rfl | ⟨i, hi, rfl⟩
  · rw [h.root] at hk
    exact .inl ⟨rfl, (Option.some.inj hk).symm⟩
  · obtain ⟨b', h1, h2⟩ := h.each i _ (List.getElem?_eq_getElem hi)
    rw [h1] at hk
    cases hk
    exact .inr ⟨i, _, List.getElem?_eq_getElem hi, rfl, h2⟩
theorem rect_pos {W H : Int} (h : 1 ≤ W ∧ 1 ≤ H) : ∀ r ∈ ([⟨0, 0, W, H⟩] : List RC), 0 < r.W ∧ 0 < r.H := fun r hr => by
  obtain rfl := List.mem_singleton.1 hr
  dsimp only
  omega
theorem rect_in {W H : Int} (h : W ≤ 128 ∧ H ≤ 128) : InRoot 128 128 [⟨0, 0, W, H⟩] := fun x y hxy => by
  have := (inB_rect W H x y).1 ((inB_iff _ _ _).2 hxy)
  omega
theorem rect_in3 {W H : Int} (h : W ≤ 128 ∧ H ≤ 128) (x y : Int) (hxy : InR [⟨0, 0, W, H⟩] x y) : (-100 ≤ x ∧ x < -100 + ((300 : Nat) : Int)) ∧ -100 ≤ y ∧ y < -100 + ((300 : Nat) : Int) := by
  have := (inB_rect W H x y).1 ((inB_iff _ _ _).2 hxy)
  omega
theorem shape_in {d : DW} (hd : DWok d) {x y : Int} (h : inB d.sh x y = true) : (-100 ≤ x ∧ x < -100 + ((300 : Nat) : Int)) ∧ -100 ≤ y ∧ y < -100 + ((300 : Nat) : Int) := by
  obtain ⟨r, hr, h1, h2, h3, h4⟩ := (inB_iff _ _ _).1 h
  have := hd.sh r hr
  omega
theorem SceneIs.rel (h : SceneIs W bs RW RH l) (hok : ∀ d ∈ l, DWok d) (hR : (1 ≤ RW ∧ RW ≤ 128) ∧ 1 ≤ RH ∧ RH ≤ 128) : BxRel W bs (bxW RW RH l) where
  each := fun k b hk => by
    have h129 : (upto (-100) 300).length * (upto (-100) 300).length ≤ 100000 := by rw [upto_len]; decide
    rcases h.box hk with ⟨rfl, rfl⟩ | ⟨i, d, hd, rfl, ⟨e1, e2, e3, e4, e5, e6⟩, out, h2, h3⟩
    · refine ⟨_, [], upto (-100) 300, upto (-100) 300, rfl, rfl, rfl, rfl, reg_nil W 0, fun x y => ?_, ?_, h129⟩
      · show _ = (_ && (!false || _))
        simp [rootBX]
      · exact box_edges (rect_pos ⟨hR.1.1, hR.2.1⟩) (rect_in3 ⟨hR.1.2, hR.2.2⟩)
    · have hD := hok d (List.mem_of_getElem? hd)
      refine ⟨d.vb, out, upto (-100) 300, upto (-100) 300, by rw [bxW_nat, hd]; rfl, e1.symm, e2.symm, e5.symm, h2, fun x y => ?_, ?_, h129⟩
      · show (_ && (!d.S || _)) = _
        rw [e3, e4, e6, h3]
      · refine (box_edges h2.pos (fun x y hxy => ?_)).append (box_edges (rect_pos (by rw [e3, e4]; exact ⟨hD.w.1, hD.h.1⟩)) (rect_in3 (by rw [e3, e4]; exact ⟨hD.w.2, hD.h.2⟩)))
        exact shape_in hD (by rw [← h3, inB_iff]; exact hxy)
  non := fun k hk => by
    unfold bxW
    by_cases e : k = 1
    · rw [e, h.root] at hk; cases hk
    · rw [if_neg e]
      by_cases e2 : 1048577 ≤ k
      · rw [if_pos e2]
        cases hd : l[(k - 1048577).toNat]? with
        | none => rfl
        | some d =>
          obtain ⟨b, h1, _⟩ := h.each _ d hd
          rw [idW_nat, show (1048577 : Int) + (((k - 1048577).toNat : Nat) : Int) = k from by omega, hk] at h1
          cases h1
      · rw [if_neg e2]
theorem SceneIs.sides (h : SceneIs W bs RW RH l) (hok : ∀ d ∈ l, DWok d) (hR : (1 ≤ RW ∧ RW ≤ 128) ∧ 1 ≤ RH ∧ RH ≤ 128) : ∀ k b, bs k = some b → (1 ≤ b.W ∧ b.W ≤ 128) ∧ 1 ≤ b.H ∧ b.H ≤ 128 := fun k b hk => by
  rcases h.box hk with ⟨_, rfl⟩ | ⟨i, d, hd, _, ⟨_, _, e3, e4, _⟩, _⟩
  · exact hR
  · have hD := hok d (List.mem_of_getElem? hd)
    rw [e3, e4]
    exact ⟨hD.w, hD.h⟩
theorem SceneIs.nearb (h : SceneIs W bs RW RH l) (hok : ∀ d ∈ l, DWok d) : nearB bs := fun k b hk => by
  rcases h.box hk with ⟨_, rfl⟩ | ⟨i, d, hd, _, ⟨e1, e2, _⟩, _⟩
  · simp [rootBX]
  · have hD := hok d (List.mem_of_getElem? hd)
    have h1 := hD.x
    have h2 := hD.y
    rw [e1, e2]
    omega
theorem SceneIs.orgOk (h : SceneIs W bs RW RH l) (hu : UpOk l) {id : Int} (hi : hasN (nodesW l) id = true) : orgOk (nodesW l) bs id = true := by
  unfold Go.Proofs.YtdaedkolpfkdjaaGreat.orgOk
  rw [hi, Bool.true_and]
  unfold allB
  rw [List.all_eq_true]
  intro x hx
  obtain ⟨n, h1, h2, rfl⟩ := hasW_inv (path_has (nodesW_ok hu) hx)
  by_cases hn : n < 0
  · obtain rfl : n = -1 := by omega
    rw [idW_root, h.root]
    rfl
  · obtain ⟨i, rfl⟩ : ∃ i : Nat, n = (i : Int) := ⟨n.toNat, by omega⟩
    obtain ⟨b, e, _⟩ := h.each i _ (List.getElem?_eq_getElem (by omega))
    rw [e]
    rfl
end

end Go.Proofs.YtdaedkolpfkdjaaGreat
end
