/-
  Trees, plainly: a window's path up to the root, and all below it.
  What shows of windows, plainly: sets of places, handed down from window to window.
-/
import Derived.Test.YtdaedkolpfkdjaaGreatZT03
section
namespace Go.Proofs.YtdaedkolpfkdjaaGreat

/-- a tree that was built: each window once, the root none of them, parents there, and no rings. -/
structure TreeOk (ns : Nodes) : Prop where
  nodup : (ns.map (·.1)).Nodup
  noroot : ∀ p ∈ ns, p.1 ≠ 1
  closed : ∀ p ∈ ns, hasN ns p.2 = true
  ranked : ∃ rk : Int → Nat, rk 1 = 0 ∧ ∀ p ∈ ns, rk p.2 < rk p.1 ∧ rk p.1 ≤ ns.length

theorem upOf_some {ns : Nodes} {i p : Int} (h : upOf ns i = some p) : (i, p) ∈ ns := by
  unfold upOf at h
  cases hf : ns.find? (fun p => p.1 == i) with
  | none => rw [hf] at h; cases h
  | some q =>
    rw [hf] at h
    have h1 := List.mem_of_find?_eq_some hf
    have h2 := List.find?_some hf
    simp only [beq_iff_eq] at h2
    obtain ⟨a, b⟩ := q
    simp only [Option.map_some, Option.some.injEq] at h
    simp only at h2
    subst h h2
    exact h1
theorem upOf_mem {ns : Nodes} (hn : (ns.map (·.1)).Nodup) {i p : Int} (h : (i, p) ∈ ns) : upOf ns i = some p := by
  induction ns with
  | nil => cases h
  | cons q ns ih =>
    unfold upOf
    simp only [List.map_cons, List.nodup_cons] at hn
    rcases List.mem_cons.1 h with e | h'
    · subst e
      simp
    · have hq : q.1 ≠ i := fun e => hn.1 (by rw [e]; exact List.mem_map_of_mem (f := (·.1)) h')
      have := ih hn.2 h'
      unfold upOf at this
      rw [List.find?_cons]
      have e : (q.1 == i) = false := by simpa using hq
      rw [e]
      exact this
theorem hasN_iff {ns : Nodes} {i : Int} : hasN ns i = true ↔ i = 1 ∨ ∃ p, upOf ns i = some p := by
  unfold hasN
  rw [Bool.or_eq_true, Option.isSome_iff_exists, decide_eq_true_eq]
  exact Or.comm
theorem hasN_root (ns : Nodes) : hasN ns 1 = true := hasN_iff.2 (.inl rfl)
theorem kids_mem {ns : Nodes} {i k : Int} : k ∈ kidsOf ns i ↔ (k, i) ∈ ns := by
  unfold kidsOf
  rw [List.mem_map]
  constructor
  · rintro ⟨⟨a, b⟩, h, rfl⟩
    obtain ⟨h1, h2⟩ := List.mem_filter.1 h
    simp only [beq_iff_eq] at h2
    subst h2
    exact h1
  · intro h
    exact ⟨(k, i), List.mem_filter.2 ⟨h, by simp⟩, rfl⟩
theorem kids_nodup {ns : Nodes} (h : TreeOk ns) (i : Int) : (kidsOf ns i).Nodup := by
  unfold kidsOf
  exact h.nodup.sublist (List.filter_sublist.map _)

/-- up to the root, so many steps at most. -/
def pathF (ns : Nodes) : Nat → Int → List Int
  | 0, id => [id]
  | f + 1, id => if id = 1 then [1] else id :: pathF ns f ((upOf ns id).getD 0)
def pathN (ns : Nodes) (id : Int) : List Int := if hasN ns id then pathF ns ns.length id else []
theorem pathF_more {ns : Nodes} (h : TreeOk ns) {rk : Int → Nat} (_hr : rk 1 = 0) (hk : ∀ p ∈ ns, rk p.2 < rk p.1 ∧ rk p.1 ≤ ns.length) :
    ∀ (f g : Nat) (id : Int), hasN ns id = true → rk id ≤ f → rk id ≤ g → pathF ns f id = pathF ns g id := by
  intro f
  induction f with
  | zero =>
    intro g id hi h0 _
    have e : id = 1 := by
      rcases hasN_iff.1 hi with e | ⟨p, hp⟩
      · exact e
      · have := (hk _ (upOf_some hp)).1
        simp only at this
        omega
    subst e
    cases g <;> simp [pathF]
  | succ f ih =>
    intro g id hi h1 h2
    rcases hasN_iff.1 hi with e | ⟨p, hp⟩
    · subst e
      cases g <;> simp [pathF]
    · have hm := upOf_some hp
      have hlt := (hk _ hm).1
      simp only at hlt
      have hne : id ≠ 1 := h.noroot _ hm
      cases g with
      | zero => omega
      | succ g =>
        simp only [pathF, if_neg hne, hp, Option.getD_some]
        rw [ih g p (h.closed _ hm) (by omega) (by omega)]
theorem path_root {ns : Nodes} (_h : TreeOk ns) : pathN ns 1 = [1] := by
  unfold pathN
  rw [if_pos (hasN_root ns)]
  cases ns.length <;> simp [pathF]
theorem path_step {ns : Nodes} (h : TreeOk ns) {id p : Int} (hp : upOf ns id = some p) : pathN ns id = id :: pathN ns p ∧ hasN ns p = true ∧ id ≠ 1 := by
  obtain ⟨rk, hr, hk⟩ := h.ranked
  have hm := upOf_some hp
  have hc := h.closed _ hm
  have hlt := hk _ hm
  have hne : id ≠ 1 := h.noroot _ hm
  simp only at hc hlt hne
  refine ⟨?_, hc, hne⟩
  unfold pathN
  rw [if_pos (hasN_iff.2 (.inr ⟨p, hp⟩)), if_pos hc]
  cases hn : ns.length with
  | zero => omega
  | succ n =>
    have h3 : rk p ≤ n := by omega
    have h4 : rk p ≤ n + 1 := by omega
    rw [show pathF ns (n + 1) id = id :: pathF ns n p by simp [pathF, hne, hp], pathF_more h hr hk n (n + 1) p hc h3 h4]
theorem path_none {ns : Nodes} {id : Int} (h : hasN ns id = false) : pathN ns id = [] := by
  unfold pathN
  rw [h]
  rfl
theorem path_len {ns : Nodes} (_h : TreeOk ns) (id : Int) : (pathN ns id).length ≤ ns.length + 1 := by
  have key : ∀ (f : Nat) (id : Int), (pathF ns f id).length ≤ f + 1 := by
    intro f
    induction f with
    | zero => intro id; simp [pathF]
    | succ f ih =>
      intro id
      unfold pathF
      split
      · simp
      · have := ih ((upOf ns id).getD 0)
        simp only [List.length_cons]
        omega
  unfold pathN
  split
  · exact key _ _
  · simp
/-- by how far a window is from the root. -/
theorem path_ind {ns : Nodes} (h : TreeOk ns) {P : Int → Prop} (h1 : P 1) (hs : ∀ id p, upOf ns id = some p → P p → P id) : ∀ id, hasN ns id = true → P id := by
  obtain ⟨rk, hr, hk⟩ := h.ranked
  have key : ∀ (f : Nat) (id : Int), rk id ≤ f → hasN ns id = true → P id := by
    intro f
    induction f with
    | zero =>
      intro id hf hi
      rcases hasN_iff.1 hi with e | ⟨p, hp⟩
      · rw [e]; exact h1
      · have := (hk _ (upOf_some hp)).1
        simp only at this
        omega
    | succ f ih =>
      intro id hf hi
      rcases hasN_iff.1 hi with e | ⟨p, hp⟩
      · rw [e]; exact h1
      · have := (hk _ (upOf_some hp)).1
        simp only at this
        exact hs id p hp (ih p (by omega) (h.closed _ (upOf_some hp)))
  intro id hi
  exact key _ id (Nat.le_refl _) hi
theorem path_has {ns : Nodes} (h : TreeOk ns) {id x : Int} (hx : x ∈ pathN ns id) : hasN ns x = true := by
  cases hi : hasN ns id with
  | false => rw [path_none hi] at hx; cases hx
  | true =>
    revert hx
    refine path_ind h (P := fun id => x ∈ pathN ns id → hasN ns x = true) ?_ ?_ id hi
    · intro hx
      rw [path_root h] at hx
      simp only [List.mem_singleton] at hx
      rw [hx]
      exact hasN_root ns
    · intro id p hp ih hx
      rw [(path_step h hp).1] at hx
      rcases List.mem_cons.1 hx with e | hx
      · rw [e]; exact hasN_iff.2 (.inr ⟨p, hp⟩)
      · exact ih hx
theorem path_self {ns : Nodes} (h : TreeOk ns) {id : Int} (hi : hasN ns id = true) : id ∈ pathN ns id := by
  rcases hasN_iff.1 hi with e | ⟨p, hp⟩
  · rw [e, path_root h]; simp
  · rw [(path_step h hp).1]; simp
/-- a window on the path has its path behind it. -/
theorem path_suffix {ns : Nodes} (h : TreeOk ns) {id x : Int} (hx : x ∈ pathN ns id) : ∃ pre, pathN ns id = pre ++ pathN ns x := by
  cases hi : hasN ns id with
  | false => rw [path_none hi] at hx; cases hx
  | true =>
    revert hx
    refine path_ind h (P := fun id => x ∈ pathN ns id → ∃ pre, pathN ns id = pre ++ pathN ns x) ?_ ?_ id hi
    · intro hx
      rw [path_root h] at hx
      simp only [List.mem_singleton] at hx
      rw [hx]
      exact ⟨[], rfl⟩
    · intro id p hp ih hx
      by_cases e : x = id
      · rw [e]; exact ⟨[], rfl⟩
      · rw [(path_step h hp).1] at hx ⊢
        rcases List.mem_cons.1 hx with e' | hx
        · exact absurd e' e
        · obtain ⟨pre, hpre⟩ := ih hx
          exact ⟨id :: pre, by rw [hpre]; rfl⟩
theorem path_rank {ns : Nodes} (h : TreeOk ns) {rk : Int → Nat} (_hr : rk 1 = 0) (hk : ∀ p ∈ ns, rk p.2 < rk p.1 ∧ rk p.1 ≤ ns.length) {id x : Int} (hx : x ∈ pathN ns id) : x = id ∨ rk x < rk id := by
  cases hi : hasN ns id with
  | false => rw [path_none hi] at hx; cases hx
  | true =>
    revert hx
    refine path_ind h (P := fun id => x ∈ pathN ns id → x = id ∨ rk x < rk id) ?_ ?_ id hi
    · intro hx
      rw [path_root h] at hx
      simp only [List.mem_singleton] at hx
      exact .inl hx
    · intro id p hp ih hx
      rw [(path_step h hp).1] at hx
      have hlt := (hk _ (upOf_some hp)).1
      simp only at hlt
      rcases List.mem_cons.1 hx with e | hx
      · exact .inl e
      · rcases ih hx with e | h2
        · right; rw [e]; exact hlt
        · right; omega

/-- all below, so deep at most. -/
def belowF (ns : Nodes) : Nat → Int → List Int
  | 0, id => [id]
  | f + 1, id => id :: (kidsOf ns id).flatMap (belowF ns f)
def belowAt (ns : Nodes) (id : Int) : List Int := belowF ns ns.length id
def belowN (ns : Nodes) (id : Int) : List Int := if hasN ns id then belowAt ns id else []
theorem flatMap_same {α β} {l : List α} {f g : α → List β} (h : ∀ a ∈ l, f a = g a) : l.flatMap f = l.flatMap g := by
  induction l with
  | nil => rfl
  | cons a l ih =>
    simp only [List.flatMap_cons]
    rw [h a (by simp), ih (fun b hb => h b (by simp [hb]))]
theorem belowF_more {ns : Nodes} {rk : Int → Nat} (hk : ∀ p ∈ ns, rk p.2 < rk p.1 ∧ rk p.1 ≤ ns.length) :
    ∀ (f g : Nat) (id : Int), ns.length ≤ f + rk id → ns.length ≤ g + rk id → belowF ns f id = belowF ns g id := by
  intro f
  induction f with
  | zero =>
    intro g id h1 h2
    have hno : kidsOf ns id = [] := by
      cases hk' : kidsOf ns id with
      | nil => rfl
      | cons k l =>
        have := hk _ (kids_mem.1 (by rw [hk']; simp : k ∈ kidsOf ns id))
        simp only at this
        omega
    cases g <;> simp [belowF, hno]
  | succ f ih =>
    intro g id h1 h2
    cases g with
    | zero =>
      have hno : kidsOf ns id = [] := by
        cases hk' : kidsOf ns id with
        | nil => rfl
        | cons k l =>
          have := hk _ (kids_mem.1 (by rw [hk']; simp : k ∈ kidsOf ns id))
          simp only at this
          omega
      simp [belowF, hno]
    | succ g =>
      simp only [belowF]
      rw [flatMap_same (g := belowF ns g) (fun k hk' => by
        have := hk _ (kids_mem.1 hk')
        simp only at this
        exact ih g k (by omega) (by omega))]
theorem below_step {ns : Nodes} (h : TreeOk ns) (id : Int) : belowAt ns id = id :: (kidsOf ns id).flatMap (belowAt ns) := by
  obtain ⟨rk, hr, hk⟩ := h.ranked
  unfold belowAt
  have h1 := belowF_more hk ns.length (ns.length + 1) id (by omega) (by omega)
  rw [h1]
  rfl
theorem below_ind {ns : Nodes} (h : TreeOk ns) {P : Int → Prop} (hs : ∀ id, (∀ k ∈ kidsOf ns id, P k) → P id) : ∀ id, P id := by
  obtain ⟨rk, hr, hk⟩ := h.ranked
  have key : ∀ (f : Nat) (id : Int), ns.length ≤ f + rk id → P id := by
    intro f
    induction f with
    | zero =>
      intro id h1
      refine hs id (fun k hk' => ?_)
      have := hk _ (kids_mem.1 hk')
      simp only at this
      omega
    | succ f ih =>
      intro id h1
      refine hs id (fun k hk' => ih k ?_)
      have := hk _ (kids_mem.1 hk')
      simp only at this
      omega
  exact fun id => key ns.length id (by omega)
theorem below_iff {ns : Nodes} (h : TreeOk ns) {id : Int} : hasN ns id = true → ∀ x, x ∈ belowAt ns id ↔ id ∈ pathN ns x := by
  refine below_ind h (P := fun id => hasN ns id = true → ∀ x, x ∈ belowAt ns id ↔ id ∈ pathN ns x) ?_ id
  intro id ih hi x
  rw [below_step h, List.mem_cons, List.mem_flatMap]
  constructor
  · rintro (e | ⟨k, hk, hx⟩)
    · rw [e]; exact path_self h hi
    · have hm := kids_mem.1 hk
      have hp := upOf_mem h.nodup hm
      have h1 := (ih k hk (hasN_iff.2 (.inr ⟨id, hp⟩)) x).1 hx
      obtain ⟨pre, hpre⟩ := path_suffix h h1
      rw [hpre, (path_step h hp).1]
      exact List.mem_append_right _ (List.mem_cons_of_mem _ (path_self h hi))
  · intro hx
    cases hix : hasN ns x with
    | false => rw [path_none hix] at hx; cases hx
    | true =>
      revert hx
      refine path_ind h (P := fun x => id ∈ pathN ns x → x = id ∨ ∃ k ∈ kidsOf ns id, x ∈ belowAt ns k) ?_ ?_ x hix
      · intro hx
        rw [path_root h] at hx
        simp only [List.mem_singleton] at hx
        exact .inl hx.symm
      · intro y p hp ihy hx
        have hst := path_step h hp
        rw [hst.1] at hx
        rcases List.mem_cons.1 hx with e | hx
        · exact .inl e.symm
        · right
          rcases ihy hx with e | ⟨k, hk, hb⟩
          · subst e
            refine ⟨y, kids_mem.2 (upOf_some hp), ?_⟩
            rw [below_step h]
            simp
          · refine ⟨k, hk, ?_⟩
            have hkn := hasN_iff.2 (.inr ⟨id, upOf_mem h.nodup (kids_mem.1 hk)⟩)
            have h2 := (ih k hk hkn p).1 hb
            refine (ih k hk hkn y).2 ?_
            rw [hst.1]
            exact List.mem_cons_of_mem _ h2
theorem nodup_flatMap {α β} {l : List α} {f : α → List β} (hl : l.Nodup) (h1 : ∀ a ∈ l, (f a).Nodup) (h2 : ∀ a ∈ l, ∀ b ∈ l, a ≠ b → ∀ x, x ∈ f a → x ∉ f b) : (l.flatMap f).Nodup := by
  induction l with
  | nil => simp
  | cons a l ih =>
    rw [List.flatMap_cons]
    simp only [List.nodup_cons] at hl
    refine List.nodup_append.2 ⟨h1 a (by simp), ih hl.2 (fun b hb => h1 b (by simp [hb])) (fun b hb c hc => h2 b (by simp [hb]) c (by simp [hc])), ?_⟩
    intro x hx y hy e
    subst e
    obtain ⟨b, hb, hxb⟩ := List.mem_flatMap.1 hy
    exact h2 a (by simp) b (by simp [hb]) (fun e => hl.1 (by rw [e]; exact hb)) x hx hxb
theorem kids_up {ns : Nodes} (h : TreeOk ns) {id k : Int} (hk : k ∈ kidsOf ns id) : upOf ns k = some id ∧ hasN ns k = true := by
  have hp := upOf_mem h.nodup (kids_mem.1 hk)
  exact ⟨hp, hasN_iff.2 (.inr ⟨id, hp⟩)⟩
/-- a window is not below its kid. -/
theorem below_up {ns : Nodes} (h : TreeOk ns) {id k : Int} (hk' : k ∈ kidsOf ns id) : id ∉ belowAt ns k := by
  obtain ⟨rk, hr, hk⟩ := h.ranked
  intro hb
  have h1 := (below_iff h (kids_up h hk').2 id).1 hb
  have h2 := (hk _ (kids_mem.1 hk')).1
  simp only at h2
  rcases path_rank h hr hk h1 with e | h3
  · rw [e] at h2; omega
  · omega
/-- what is below a kid is not below another one. -/
theorem below_disj {ns : Nodes} (h : TreeOk ns) {id a b : Int} (ha : a ∈ kidsOf ns id) (hb : b ∈ kidsOf ns id) (hab : a ≠ b) {x : Int} (hxa : x ∈ belowAt ns a) : x ∉ belowAt ns b := by
  obtain ⟨rk, hr, hk⟩ := h.ranked
  intro hxb
  have pa := (below_iff h (kids_up h ha).2 x).1 hxa
  have pb := (below_iff h (kids_up h hb).2 x).1 hxb
  obtain ⟨pre, hpre⟩ := path_suffix h pa
  have sa := (path_step h (kids_up h ha).1).1
  have sb := (path_step h (kids_up h hb).1).1
  obtain ⟨preb, hpreb⟩ := path_suffix h pb
  -- both are parts of one path: one lies on the other's
  have key : a ∈ pathN ns b ∨ b ∈ pathN ns a := by
    rw [hpre] at hpreb
    rcases List.append_eq_append_iff.1 hpreb with ⟨c, h1, h2⟩ | ⟨c, h1, h2⟩
    · right
      rw [h2]
      exact List.mem_append_right _ (path_self h (kids_up h hb).2)
    · left
      rw [h2]
      exact List.mem_append_right _ (path_self h (kids_up h ha).2)
  have ra := (hk _ (kids_mem.1 ha)).1
  have rb := (hk _ (kids_mem.1 hb)).1
  simp only at ra rb
  rcases key with hm | hm
  · rw [sb] at hm
    rcases List.mem_cons.1 hm with e | hm
    · exact hab e
    · rcases path_rank h hr hk hm with e | h3
      · rw [e] at ra; omega
      · omega
  · rw [sa] at hm
    rcases List.mem_cons.1 hm with e | hm
    · exact hab e.symm
    · rcases path_rank h hr hk hm with e | h3
      · rw [e] at rb; omega
      · omega
theorem below_nodup {ns : Nodes} (h : TreeOk ns) (id : Int) : hasN ns id = true → (belowAt ns id).Nodup := by
  refine below_ind h (P := fun id => hasN ns id = true → (belowAt ns id).Nodup) ?_ id
  intro id ih hi
  rw [below_step h, List.nodup_cons]
  constructor
  · intro hm
    obtain ⟨k, hk', hb⟩ := List.mem_flatMap.1 hm
    exact below_up h hk' hb
  · exact nodup_flatMap (kids_nodup h id) (fun k hk' => ih k hk' (kids_up h hk').2) (fun a ha b hb hab x hxa => below_disj h ha hb hab hxa)
theorem len_nodup {l m : List Int} (hl : l.Nodup) (h : ∀ x ∈ l, x ∈ m) : l.length ≤ m.length := by
  induction l generalizing m with
  | nil => simp
  | cons a l ih =>
    simp only [List.nodup_cons] at hl
    have ha := h a (by simp)
    have := ih (m := m.erase a) hl.2 (fun x hx => (List.mem_erase_of_ne (fun e => hl.1 (by rw [← e]; exact hx))).2 (h x (by simp [hx])))
    rw [List.length_erase_of_mem ha] at this
    have hp := List.length_pos_of_mem ha
    simp only [List.length_cons]
    omega
theorem below_has {ns : Nodes} (h : TreeOk ns) {id : Int} (hi : hasN ns id = true) {x : Int} (hx : x ∈ belowAt ns id) : hasN ns x = true := by
  have := (below_iff h hi x).1 hx
  cases hix : hasN ns x with
  | true => rfl
  | false => rw [path_none hix] at this; cases this
theorem below_len {ns : Nodes} (h : TreeOk ns) {id : Int} (hi : hasN ns id = true) : (belowAt ns id).length ≤ ns.length + 1 := by
  have := len_nodup (m := 1 :: ns.map (·.1)) (below_nodup h id hi) (fun x hx => by
    rcases hasN_iff.1 (below_has h hi hx) with e | ⟨p, hp⟩
    · rw [e]; simp
    · exact List.mem_cons_of_mem _ (List.mem_map_of_mem (f := (·.1)) (upOf_some hp)))
  simpa using this

end Go.Proofs.YtdaedkolpfkdjaaGreat
end

section
namespace Go.Proofs.YtdaedkolpfkdjaaGreat

/-- places. -/
abbrev Places := Int → Int → Bool
/-- a window's box, plainly: where it begins in its parent, whether it is mapped, and which of its own places are part of it. -/
structure VB where
  X : Int
  Y : Int
  M : Bool
  area : Places
section
variable (ns : Nodes) (bx : Int → Option VB)
/-- where a path's first window begins on the root. -/
def orgL : List Int → Int × Int
  | [] => (0, 0)
  | w :: l => if w = 1 then orgL l else (((bx w).map VB.X).getD 0 + (orgL l).1, ((bx w).map VB.Y).getD 0 + (orgL l).2)
def orgN (id : Int) : Int × Int := orgL bx (pathN ns id)
/-- a mapped window's places on the root, of a parent that begins at o. -/
def kidA (o : Int × Int) (k : Int) : Option Places :=
  match bx k with
  | some b => if b.M then some (fun x y => b.area (x - (o.1 + b.X)) (y - (o.2 + b.Y))) else none
  | none => none
def actB (k : Int) : Bool := match bx k with | some b => b.M | none => false
def hitB (o : Int × Int) (x y : Int) (k : Int) : Bool := match kidA bx o k with | some A => A x y | none => false
def stepK (hand : Int → Places → Places → List (Int × Places)) (o : Int × Int) (P : Places) (s : List (Int × Places) × Places) (k : Int) : List (Int × Places) × Places :=
  match kidA bx o k with
  | none => s
  | some A => (s.1 ++ hand k (fun x y => A x y && P x y) (fun x y => (A x y && P x y) && s.2 x y), fun x y => s.2 x y && !(A x y && P x y))
/-- what shows of all windows below one, of which these places are the window's, and these left. -/
def handF : Nat → Int → Places → Places → List (Int × Places)
  | 0, id, _, L => [(id, L)]
  | f + 1, id, P, L => ((kidsOf ns id).reverse.foldl (stepK bx (handF f) (orgN ns bx id) P) ([], L)).1 ++ [(id, ((kidsOf ns id).reverse.foldl (stepK bx (handF f) (orgN ns bx id) P) ([], L)).2)]
/-- the window at a place. -/
def topF : Nat → Int → Int → Int → Int
  | 0, id, _, _ => id
  | f + 1, id, x, y => match (kidsOf ns id).reverse.find? (hitB bx (orgN ns bx id) x y) with | some k => topF f k x y | none => id
end
section
variable {ns : Nodes} {bx : Int → Option VB}
theorem topF_in (h : TreeOk ns) : ∀ (f : Nat) (id x y : Int), topF ns bx f id x y ∈ belowAt ns id := by
  intro f
  induction f with
  | zero =>
    intro id x y
    rw [below_step h]
    simp [topF]
  | succ f ih =>
    intro id x y
    rw [below_step h]
    unfold topF
    cases hf : (kidsOf ns id).reverse.find? (hitB bx (orgN ns bx id) x y) with
    | none => simp
    | some k =>
      have hk := List.mem_of_find?_eq_some hf
      rw [List.mem_reverse] at hk
      exact List.mem_cons_of_mem _ (List.mem_flatMap.2 ⟨k, hk, ih k x y⟩)
theorem fold_in {hand : Int → Places → Places → List (Int × Places)} {o : Int × Int} {P : Places} (hin : ∀ k P L e, e ∈ hand k P L → e.1 ∈ belowAt ns k) :
    ∀ (ks : List Int) (s : List (Int × Places) × Places) (e : Int × Places), e ∈ (ks.foldl (stepK bx hand o P) s).1 → e ∈ s.1 ∨ ∃ k ∈ ks, e.1 ∈ belowAt ns k := by
  intro ks
  induction ks with
  | nil => intro s e he; exact .inl he
  | cons k ks ih =>
    intro s e he
    rw [List.foldl_cons] at he
    rcases ih _ e he with h1 | ⟨k', hk', h2⟩
    · unfold stepK at h1
      cases hA : kidA bx o k with
      | none => rw [hA] at h1; exact .inl h1
      | some A =>
        rw [hA] at h1
        rcases List.mem_append.1 h1 with h1 | h1
        · exact .inl h1
        · exact .inr ⟨k, by simp, hin k _ _ e h1⟩
    · exact .inr ⟨k', by simp [hk'], h2⟩
theorem handF_in (h : TreeOk ns) : ∀ (f : Nat) (id : Int) (P L : Places) (e : Int × Places), e ∈ handF ns bx f id P L → e.1 ∈ belowAt ns id := by
  intro f
  induction f with
  | zero =>
    intro id P L e he
    simp only [handF, List.mem_singleton] at he
    rw [he, below_step h]
    simp
  | succ f ih =>
    intro id P L e he
    unfold handF at he
    rw [below_step h]
    rcases List.mem_append.1 he with he | he
    · rcases fold_in ih _ _ e he with h1 | ⟨k, hk, h2⟩
      · cases h1
      · rw [List.mem_reverse] at hk
        exact List.mem_cons_of_mem _ (List.mem_flatMap.2 ⟨k, hk, h2⟩)
    · simp only [List.mem_singleton] at he
      rw [he]
      simp
/-- which place of a fold's has been taken. -/
def pickB (f : Int → Int) (o : Option Int) (i : Int) : Bool := match o with | some k => decide (i = f k) | none => false
theorem fold_ok (h : TreeOk ns) {hand : Int → Places → Places → List (Int × Places)} {top : Int → Int → Int → Int} {id : Int} {o : Int × Int} {P L : Places} (hL : ∀ x y, L x y = true → P x y = true)
    (hin : ∀ k P L e, e ∈ hand k P L → e.1 ∈ belowAt ns k) (htop : ∀ k x y, top k x y ∈ belowAt ns k)
    (hand_ok : ∀ k P L, (∀ x y, L x y = true → P x y = true) → ∀ e ∈ hand k P L, ∀ x y, e.2 x y = (L x y && decide (e.1 = top k x y))) :
    ∀ (ks : List Int), (∀ k ∈ ks, k ∈ kidsOf ns id) → ks.Nodup → ∀ x y,
      (ks.foldl (stepK bx hand o P) ([], L)).2 x y = (L x y && !(ks.any (hitB bx o x y))) ∧
      ∀ e ∈ (ks.foldl (stepK bx hand o P) ([], L)).1, e.2 x y = (L x y && pickB (top · x y) (ks.find? (hitB bx o x y)) e.1) := by
  intro ks
  -- from behind
  suffices H : ∀ (rs : List Int), (∀ k ∈ rs.reverse, k ∈ kidsOf ns id) → rs.reverse.Nodup → ∀ x y,
      (rs.reverse.foldl (stepK bx hand o P) ([], L)).2 x y = (L x y && !(rs.reverse.any (hitB bx o x y))) ∧
      ∀ e ∈ (rs.reverse.foldl (stepK bx hand o P) ([], L)).1, e.2 x y = (L x y && pickB (top · x y) (rs.reverse.find? (hitB bx o x y)) e.1) by
    have := H ks.reverse
    rwa [List.reverse_reverse] at this
  intro rs
  induction rs with
  | nil => intro _ _ x y; simp
  | cons k rs ih =>
    intro hk hn x y
    rw [List.reverse_cons] at hk hn ⊢
    have hn' := List.nodup_append.1 hn
    have ih := ih (fun j hj => hk j (List.mem_append_left _ hj)) hn'.1
    have hkk := hk k (by simp)
    rw [List.foldl_append, List.foldl_cons, List.foldl_nil]
    obtain ⟨s, hs⟩ : ∃ s, rs.reverse.foldl (stepK bx hand o P) ([], L) = s := ⟨_, rfl⟩
    have hin' : ∀ e ∈ s.1, ∃ j ∈ rs.reverse, e.1 ∈ belowAt ns j := fun e he => by
      rw [← hs] at he
      rcases fold_in hin _ _ e he with h1 | h1
      · cases h1
      · exact h1
    rw [hs] at ih ⊢
    have hsL : ∀ x y, s.2 x y = true → P x y = true := fun x y hxy => by
      rw [(ih x y).1, Bool.and_eq_true] at hxy
      exact hL x y hxy.1
    unfold stepK
    rw [List.any_append, List.find?_append]
    cases hA : kidA bx o k with
    | none =>
      have hh : hitB bx o x y k = false := by unfold hitB; rw [hA]
      simp only [List.any_cons, List.any_nil, hh, Bool.or_false, List.find?_cons, List.find?_nil, Option.or_none]
      exact ih x y
    | some A =>
      have hh : hitB bx o x y k = A x y := by unfold hitB; rw [hA]
      dsimp only
      constructor
      · rw [(ih x y).1]
        simp only [List.any_cons, List.any_nil, hh, Bool.or_false]
        cases hl : L x y with
        | false => simp
        | true =>
          rw [hL x y hl]
          cases rs.reverse.any (hitB bx o x y) <;> cases A x y <;> rfl
      · intro e he
        simp only [List.find?_cons, List.find?_nil, hh]
        rcases List.mem_append.1 he with he | he
        · rw [(ih x y).2 e he]
          congr 1
          cases hf : rs.reverse.find? (hitB bx o x y) with
          | some j => simp
          | none =>
            cases hAx : A x y with
            | false => simp
            | true =>
              obtain ⟨j, hj, hb⟩ := hin' e he
              have hne : j ≠ k := fun e' => hn'.2.2 j hj k (by simp) e'
              have hd : e.1 ≠ top k x y := fun e' => below_disj h (hk j (List.mem_append_left _ hj)) hkk hne hb (by rw [e']; exact htop k x y)
              simp [pickB, hd]
        · have h1 := hand_ok k (fun x y => A x y && P x y) (fun x y => (A x y && P x y) && s.2 x y) (fun x y hxy => (Bool.and_eq_true _ _ ▸ hxy : _ ∧ _).1) e he x y
          have h2 := hin k _ _ e he
          rw [h1, (ih x y).1]
          cases hl : L x y with
          | false => simp
          | true =>
            rw [hL x y hl]
            cases hf : rs.reverse.find? (hitB bx o x y) with
            | none =>
              have hno : rs.reverse.any (hitB bx o x y) = false := by
                rw [List.any_eq_false]
                exact List.find?_eq_none.1 hf
              rw [hno]
              cases A x y <;> simp [pickB]
            | some j =>
              have hj := List.mem_of_find?_eq_some hf
              have hhj := List.find?_some hf
              have hyes : rs.reverse.any (hitB bx o x y) = true := List.any_eq_true.2 ⟨j, hj, hhj⟩
              rw [hyes]
              have hne : j ≠ k := fun e' => hn'.2.2 j hj k (by simp) e'
              have hd : e.1 ≠ top j x y := fun e' => below_disj h (hk j (List.mem_append_left _ hj)) hkk hne (x := e.1) (by rw [e']; exact htop j x y) h2
              simp [pickB, hd]
/-- THE LAW: of each window that shows, what shows of it is where the topmost one is it. -/
theorem handF_ok (h : TreeOk ns) : ∀ (f : Nat) (id : Int) (P L : Places), (∀ x y, L x y = true → P x y = true) → ∀ e ∈ handF ns bx f id P L, ∀ x y, e.2 x y = (L x y && decide (e.1 = topF ns bx f id x y)) := by
  intro f
  induction f with
  | zero =>
    intro id P L hL e he x y
    simp only [handF, List.mem_singleton] at he
    rw [he]
    simp [topF]
  | succ f ih =>
    intro id P L hL e he x y
    unfold handF at he
    have hks : ∀ k ∈ (kidsOf ns id).reverse, k ∈ kidsOf ns id := fun k hk => by rwa [List.mem_reverse] at hk
    have hnd : (kidsOf ns id).reverse.Nodup := (by unfold List.Nodup; rw [List.pairwise_reverse]; exact (kids_nodup h id).imp (fun h => Ne.symm h))
    have hf := fold_ok h (bx := bx) (hand := handF ns bx f) (o := orgN ns bx id) hL (handF_in h f) (fun k x y => topF_in h f k x y) (fun k P L => ih k P L) _ hks hnd x y
    have hin := fold_in (ns := ns) (bx := bx) (hand := handF ns bx f) (o := orgN ns bx id) (P := P) (handF_in h f) (kidsOf ns id).reverse ([], L)
    obtain ⟨s, hs⟩ : ∃ s, (kidsOf ns id).reverse.foldl (stepK bx (handF ns bx f) (orgN ns bx id) P) ([], L) = s := ⟨_, rfl⟩
    rw [hs] at he hf hin
    unfold topF
    rcases List.mem_append.1 he with he | he
    · rw [hf.2 e he]
      congr 1
      cases hfd : (kidsOf ns id).reverse.find? (hitB bx (orgN ns bx id) x y) with
      | some k => rfl
      | none =>
        rcases hin e he with h1 | ⟨k, hk, hb⟩
        · cases h1
        · have hd : e.1 ≠ id := fun e' => below_up h (hks k hk) (by rw [← e']; exact hb)
          simp [pickB, hd]
    · simp only [List.mem_singleton] at he
      rw [he]
      dsimp only
      rw [hf.1]
      congr 1
      cases hfd : (kidsOf ns id).reverse.find? (hitB bx (orgN ns bx id) x y) with
      | none =>
        have hno : (kidsOf ns id).reverse.any (hitB bx (orgN ns bx id) x y) = false := by
          rw [List.any_eq_false]
          exact List.find?_eq_none.1 hfd
        rw [hno]
        simp
      | some k =>
        have hk := List.mem_of_find?_eq_some hfd
        have hhk := List.find?_some hfd
        have hyes : (kidsOf ns id).reverse.any (hitB bx (orgN ns bx id) x y) = true := List.any_eq_true.2 ⟨k, hk, hhk⟩
        rw [hyes]
        have hd : id ≠ topF ns bx f k x y := fun e' => below_up h (hks k hk) (by rw [e']; exact topF_in h f k x y)
        simp [hd]
/-- whose entries there are. -/
theorem fold_ids {hand : Int → Places → Places → List (Int × Places)} {o : Int × Int} {P : Places} {ids : Int → List Int} (hin : ∀ k P L, (hand k P L).map (·.1) = ids k) :
    ∀ (ks : List Int) (s : List (Int × Places) × Places), (ks.foldl (stepK bx hand o P) s).1.map (·.1) = s.1.map (·.1) ++ ks.flatMap (fun k => if actB bx k then ids k else []) := by
  intro ks
  induction ks with
  | nil => intro s; simp
  | cons k ks ih =>
    intro s
    rw [List.foldl_cons, ih, List.flatMap_cons, ← List.append_assoc]
    congr 1
    unfold stepK actB kidA
    cases bx k with
    | none => simp
    | some b =>
      cases hM : b.M <;> simp [hM, hin]
def idsF (ns : Nodes) (bx : Int → Option VB) : Nat → Int → List Int
  | 0, id => [id]
  | f + 1, id => (kidsOf ns id).reverse.flatMap (fun k => if actB bx k then idsF ns bx f k else []) ++ [id]
theorem handF_ids : ∀ (f : Nat) (id : Int) (P L : Places), (handF ns bx f id P L).map (·.1) = idsF ns bx f id := by
  intro f
  induction f with
  | zero => intro id P L; rfl
  | succ f ih =>
    intro id P L
    unfold handF idsF
    rw [List.map_append, fold_ids (ids := idsF ns bx f) (fun k P L => ih k P L)]
    simp
end

end Go.Proofs.YtdaedkolpfkdjaaGreat
end
