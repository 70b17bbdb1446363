/-
  Trees, plainly: a window's path up to the root, and all below it.
-/
import Derived.Test.YtbfefkhejknmoaaGreatDoorCh10
namespace Go.Proofs.YtbfefkhejknmoaaGreatDoor

/-- a tree that was built: each window once, the root none of them, parents there, and no rings. -/
structure TreeOk (ns : Nodes) : Prop where
  nodup : (ns.map (·.1)).Nodup
  noroot : ∀ p ∈ ns, p.1 ≠ 1
  closed : ∀ p ∈ ns, hasN ns p.2 = true
  ranked : ∃ rk : Int → Nat, rk 1 = 0 ∧ ∀ p ∈ ns, rk p.2 < rk p.1 ∧ rk p.1 ≤ ns.length

theorem upOf_some {ns : Nodes} {i p : Int} (h : upOf ns i = some p) : (i, p) ∈ ns := by
  unfold upOf at h
  cases hf : ns.find? (fun p => p.1 == i) with
  | none => rw [hf] at h; cases h
  | some q =>
    rw [hf] at h
    have h1 := List.mem_of_find?_eq_some hf
    have h2 := List.find?_some hf
    simp only [beq_iff_eq] at h2
    obtain ⟨a, b⟩ := q
    simp only [Option.map_some, Option.some.injEq] at h
    simp only at h2
    subst h h2
    exact h1
theorem upOf_mem {ns : Nodes} (hn : (ns.map (·.1)).Nodup) {i p : Int} (h : (i, p) ∈ ns) : upOf ns i = some p := by
  induction ns with
  | nil => cases h
  | cons q ns ih =>
    unfold upOf
    simp only [List.map_cons, List.nodup_cons] at hn
    rcases List.mem_cons.1 h with e | h'
    · subst e
      simp [List.find?_cons]
    · have hq : q.1 ≠ i := fun e => hn.1 (by rw [e]; exact List.mem_map_of_mem (f := (·.1)) h')
      have := ih hn.2 h'
      unfold upOf at this
      rw [List.find?_cons]
      have e : (q.1 == i) = false := by simpa using hq
      rw [e]
      exact this
theorem upOf_iff {ns : Nodes} (h : TreeOk ns) {i p : Int} : upOf ns i = some p ↔ (i, p) ∈ ns := ⟨upOf_some, upOf_mem h.nodup⟩
theorem upOf_root {ns : Nodes} (h : TreeOk ns) : upOf ns 1 = none := by
  cases hu : upOf ns 1 with
  | none => rfl
  | some p => exact absurd rfl (h.noroot _ (upOf_some hu))
theorem hasN_iff {ns : Nodes} {i : Int} : hasN ns i = true ↔ i = 1 ∨ ∃ p, upOf ns i = some p := by
  unfold hasN
  rw [Bool.or_eq_true, Option.isSome_iff_exists, decide_eq_true_eq]
  exact Or.comm
theorem hasN_root (ns : Nodes) : hasN ns 1 = true := hasN_iff.2 (.inl rfl)
theorem kids_mem {ns : Nodes} {i k : Int} : k ∈ kidsOf ns i ↔ (k, i) ∈ ns := by
  unfold kidsOf
  rw [List.mem_map]
  constructor
  · rintro ⟨⟨a, b⟩, h, rfl⟩
    obtain ⟨h1, h2⟩ := List.mem_filter.1 h
    simp only [beq_iff_eq] at h2
    subst h2
    exact h1
  · intro h
    exact ⟨(k, i), List.mem_filter.2 ⟨h, by simp⟩, rfl⟩
theorem kids_nodup {ns : Nodes} (h : TreeOk ns) (i : Int) : (kidsOf ns i).Nodup := by
  unfold kidsOf
  exact h.nodup.sublist (List.filter_sublist.map _)

/-- up to the root, so many steps at most. -/
def pathF (ns : Nodes) : Nat → Int → List Int
  | 0, id => [id]
  | f + 1, id => if id = 1 then [1] else id :: pathF ns f ((upOf ns id).getD 0)
def pathN (ns : Nodes) (id : Int) : List Int := if hasN ns id then pathF ns ns.length id else []
theorem pathF_more {ns : Nodes} (h : TreeOk ns) {rk : Int → Nat} (hr : rk 1 = 0) (hk : ∀ p ∈ ns, rk p.2 < rk p.1 ∧ rk p.1 ≤ ns.length) :
    ∀ (f g : Nat) (id : Int), hasN ns id = true → rk id ≤ f → rk id ≤ g → pathF ns f id = pathF ns g id := by
  intro f
  induction f with
  | zero =>
    intro g id hi h0 _
    have e : id = 1 := by
      rcases hasN_iff.1 hi with e | ⟨p, hp⟩
      · exact e
      · have := (hk _ (upOf_some hp)).1
        simp only at this
        omega
    subst e
    cases g <;> simp [pathF]
  | succ f ih =>
    intro g id hi h1 h2
    rcases hasN_iff.1 hi with e | ⟨p, hp⟩
    · subst e
      cases g <;> simp [pathF]
    · have hm := upOf_some hp
      have hlt := (hk _ hm).1
      simp only at hlt
      have hne : id ≠ 1 := h.noroot _ hm
      cases g with
      | zero => omega
      | succ g =>
        simp only [pathF, if_neg hne, hp, Option.getD_some]
        rw [ih g p (h.closed _ hm) (by omega) (by omega)]
theorem path_root {ns : Nodes} (h : TreeOk ns) : pathN ns 1 = [1] := by
  unfold pathN
  rw [if_pos (hasN_root ns)]
  cases ns.length <;> simp [pathF]
theorem path_step {ns : Nodes} (h : TreeOk ns) {id p : Int} (hp : upOf ns id = some p) : pathN ns id = id :: pathN ns p ∧ hasN ns p = true ∧ id ≠ 1 := by
  obtain ⟨rk, hr, hk⟩ := h.ranked
  have hm := upOf_some hp
  have hc := h.closed _ hm
  have hlt := hk _ hm
  have hne : id ≠ 1 := h.noroot _ hm
  simp only at hc hlt hne
  refine ⟨?_, hc, hne⟩
  unfold pathN
  rw [if_pos (hasN_iff.2 (.inr ⟨p, hp⟩)), if_pos hc]
  cases hn : ns.length with
  | zero => omega
  | succ n =>
    have h3 : rk p ≤ n := by omega
    have h4 : rk p ≤ n + 1 := by omega
    rw [show pathF ns (n + 1) id = id :: pathF ns n p by simp [pathF, hne, hp], pathF_more h hr hk n (n + 1) p hc h3 h4]
theorem path_none {ns : Nodes} {id : Int} (h : hasN ns id = false) : pathN ns id = [] := by
  unfold pathN
  rw [h]
  rfl
theorem path_ne {ns : Nodes} (h : TreeOk ns) {id : Int} (hi : hasN ns id = true) : pathN ns id ≠ [] := by
  rcases hasN_iff.1 hi with e | ⟨p, hp⟩
  · subst e
    rw [path_root h]
    simp
  · rw [(path_step h hp).1]
    simp
theorem path_len {ns : Nodes} (h : TreeOk ns) (id : Int) : (pathN ns id).length ≤ ns.length + 1 := by
  have key : ∀ (f : Nat) (id : Int), (pathF ns f id).length ≤ f + 1 := by
    intro f
    induction f with
    | zero => intro id; simp [pathF]
    | succ f ih =>
      intro id
      unfold pathF
      split
      · simp
      · have := ih ((upOf ns id).getD 0)
        simp only [List.length_cons]
        omega
  unfold pathN
  split
  · exact key _ _
  · simp
/-- by how far a window is from the root. -/
theorem path_ind {ns : Nodes} (h : TreeOk ns) {P : Int → Prop} (h1 : P 1) (hs : ∀ id p, upOf ns id = some p → P p → P id) : ∀ id, hasN ns id = true → P id := by
  obtain ⟨rk, hr, hk⟩ := h.ranked
  have key : ∀ (f : Nat) (id : Int), rk id ≤ f → hasN ns id = true → P id := by
    intro f
    induction f with
    | zero =>
      intro id hf hi
      rcases hasN_iff.1 hi with e | ⟨p, hp⟩
      · rw [e]; exact h1
      · have := (hk _ (upOf_some hp)).1
        simp only at this
        omega
    | succ f ih =>
      intro id hf hi
      rcases hasN_iff.1 hi with e | ⟨p, hp⟩
      · rw [e]; exact h1
      · have := (hk _ (upOf_some hp)).1
        simp only at this
        exact hs id p hp (ih p (by omega) (h.closed _ (upOf_some hp)))
  intro id hi
  exact key _ id (Nat.le_refl _) hi
theorem path_has {ns : Nodes} (h : TreeOk ns) {id x : Int} (hx : x ∈ pathN ns id) : hasN ns x = true := by
  cases hi : hasN ns id with
  | false => rw [path_none hi] at hx; cases hx
  | true =>
    revert hx
    refine path_ind h (P := fun id => x ∈ pathN ns id → hasN ns x = true) ?_ ?_ id hi
    · intro hx
      rw [path_root h] at hx
      simp only [List.mem_singleton] at hx
      rw [hx]
      exact hasN_root ns
    · intro id p hp ih hx
      rw [(path_step h hp).1] at hx
      rcases List.mem_cons.1 hx with e | hx
      · rw [e]; exact hasN_iff.2 (.inr ⟨p, hp⟩)
      · exact ih hx
theorem path_self {ns : Nodes} (h : TreeOk ns) {id : Int} (hi : hasN ns id = true) : id ∈ pathN ns id := by
  rcases hasN_iff.1 hi with e | ⟨p, hp⟩
  · rw [e, path_root h]; simp
  · rw [(path_step h hp).1]; simp
/-- a window on the path has its path behind it. -/
theorem path_suffix {ns : Nodes} (h : TreeOk ns) {id x : Int} (hx : x ∈ pathN ns id) : ∃ pre, pathN ns id = pre ++ pathN ns x := by
  cases hi : hasN ns id with
  | false => rw [path_none hi] at hx; cases hx
  | true =>
    revert hx
    refine path_ind h (P := fun id => x ∈ pathN ns id → ∃ pre, pathN ns id = pre ++ pathN ns x) ?_ ?_ id hi
    · intro hx
      rw [path_root h] at hx
      simp only [List.mem_singleton] at hx
      rw [hx]
      exact ⟨[], rfl⟩
    · intro id p hp ih hx
      by_cases e : x = id
      · rw [e]; exact ⟨[], rfl⟩
      · rw [(path_step h hp).1] at hx ⊢
        rcases List.mem_cons.1 hx with e' | hx
        · exact absurd e' e
        · obtain ⟨pre, hpre⟩ := ih hx
          exact ⟨id :: pre, by rw [hpre]; rfl⟩
theorem path_rank {ns : Nodes} (h : TreeOk ns) {rk : Int → Nat} (hr : rk 1 = 0) (hk : ∀ p ∈ ns, rk p.2 < rk p.1 ∧ rk p.1 ≤ ns.length) {id x : Int} (hx : x ∈ pathN ns id) : x = id ∨ rk x < rk id := by
  cases hi : hasN ns id with
  | false => rw [path_none hi] at hx; cases hx
  | true =>
    revert hx
    refine path_ind h (P := fun id => x ∈ pathN ns id → x = id ∨ rk x < rk id) ?_ ?_ id hi
    · intro hx
      rw [path_root h] at hx
      simp only [List.mem_singleton] at hx
      exact .inl hx
    · intro id p hp ih hx
      rw [(path_step h hp).1] at hx
      have hlt := (hk _ (upOf_some hp)).1
      simp only at hlt
      rcases List.mem_cons.1 hx with e | hx
      · exact .inl e
      · rcases ih hx with e | h2
        · right; rw [e]; exact hlt
        · right; omega

/-- all below, so deep at most. -/
def belowF (ns : Nodes) : Nat → Int → List Int
  | 0, id => [id]
  | f + 1, id => id :: (kidsOf ns id).flatMap (belowF ns f)
def belowAt (ns : Nodes) (id : Int) : List Int := belowF ns ns.length id
def belowN (ns : Nodes) (id : Int) : List Int := if hasN ns id then belowAt ns id else []
theorem flatMap_same {α β} {l : List α} {f g : α → List β} (h : ∀ a ∈ l, f a = g a) : l.flatMap f = l.flatMap g := by
  induction l with
  | nil => rfl
  | cons a l ih =>
    simp only [List.flatMap_cons]
    rw [h a (by simp), ih (fun b hb => h b (by simp [hb]))]
theorem belowF_more {ns : Nodes} {rk : Int → Nat} (hk : ∀ p ∈ ns, rk p.2 < rk p.1 ∧ rk p.1 ≤ ns.length) :
    ∀ (f g : Nat) (id : Int), ns.length ≤ f + rk id → ns.length ≤ g + rk id → belowF ns f id = belowF ns g id := by
  intro f
  induction f with
  | zero =>
    intro g id h1 h2
    have hno : kidsOf ns id = [] := by
      cases hk' : kidsOf ns id with
      | nil => rfl
      | cons k l =>
        have := hk _ (kids_mem.1 (by rw [hk']; simp : k ∈ kidsOf ns id))
        simp only at this
        omega
    cases g <;> simp [belowF, hno]
  | succ f ih =>
    intro g id h1 h2
    cases g with
    | zero =>
      have hno : kidsOf ns id = [] := by
        cases hk' : kidsOf ns id with
        | nil => rfl
        | cons k l =>
          have := hk _ (kids_mem.1 (by rw [hk']; simp : k ∈ kidsOf ns id))
          simp only at this
          omega
      simp [belowF, hno]
    | succ g =>
      simp only [belowF]
      rw [flatMap_same (g := belowF ns g) (fun k hk' => by
        have := hk _ (kids_mem.1 hk')
        simp only at this
        exact ih g k (by omega) (by omega))]
theorem below_step {ns : Nodes} (h : TreeOk ns) (id : Int) : belowAt ns id = id :: (kidsOf ns id).flatMap (belowAt ns) := by
  obtain ⟨rk, hr, hk⟩ := h.ranked
  unfold belowAt
  have h1 := belowF_more hk ns.length (ns.length + 1) id (by omega) (by omega)
  rw [h1]
  rfl
theorem below_ind {ns : Nodes} (h : TreeOk ns) {P : Int → Prop} (hs : ∀ id, (∀ k ∈ kidsOf ns id, P k) → P id) : ∀ id, P id := by
  obtain ⟨rk, hr, hk⟩ := h.ranked
  have key : ∀ (f : Nat) (id : Int), ns.length ≤ f + rk id → P id := by
    intro f
    induction f with
    | zero =>
      intro id h1
      refine hs id (fun k hk' => ?_)
      have := hk _ (kids_mem.1 hk')
      simp only at this
      omega
    | succ f ih =>
      intro id h1
      refine hs id (fun k hk' => ih k ?_)
      have := hk _ (kids_mem.1 hk')
      simp only at this
      omega
  exact fun id => key ns.length id (by omega)
theorem below_iff {ns : Nodes} (h : TreeOk ns) {id : Int} : hasN ns id = true → ∀ x, x ∈ belowAt ns id ↔ id ∈ pathN ns x := by
  refine below_ind h (P := fun id => hasN ns id = true → ∀ x, x ∈ belowAt ns id ↔ id ∈ pathN ns x) ?_ id
  intro id ih hi x
  rw [below_step h, List.mem_cons, List.mem_flatMap]
  constructor
  · rintro (e | ⟨k, hk, hx⟩)
    · rw [e]; exact path_self h hi
    · have hm := kids_mem.1 hk
      have hp := upOf_mem h.nodup hm
      have h1 := (ih k hk (hasN_iff.2 (.inr ⟨id, hp⟩)) x).1 hx
      obtain ⟨pre, hpre⟩ := path_suffix h h1
      rw [hpre, (path_step h hp).1]
      exact List.mem_append_right _ (List.mem_cons_of_mem _ (path_self h hi))
  · intro hx
    cases hix : hasN ns x with
    | false => rw [path_none hix] at hx; cases hx
    | true =>
      revert hx
      refine path_ind h (P := fun x => id ∈ pathN ns x → x = id ∨ ∃ k ∈ kidsOf ns id, x ∈ belowAt ns k) ?_ ?_ x hix
      · intro hx
        rw [path_root h] at hx
        simp only [List.mem_singleton] at hx
        exact .inl hx.symm
      · intro y p hp ihy hx
        have hst := path_step h hp
        rw [hst.1] at hx
        rcases List.mem_cons.1 hx with e | hx
        · exact .inl e.symm
        · right
          rcases ihy hx with e | ⟨k, hk, hb⟩
          · subst e
            refine ⟨y, kids_mem.2 (upOf_some hp), ?_⟩
            rw [below_step h]
            simp
          · refine ⟨k, hk, ?_⟩
            have hkn := hasN_iff.2 (.inr ⟨id, upOf_mem h.nodup (kids_mem.1 hk)⟩)
            have h2 := (ih k hk hkn p).1 hb
            refine (ih k hk hkn y).2 ?_
            rw [hst.1]
            exact List.mem_cons_of_mem _ h2
theorem nodup_flatMap {α β} {l : List α} {f : α → List β} (hl : l.Nodup) (h1 : ∀ a ∈ l, (f a).Nodup) (h2 : ∀ a ∈ l, ∀ b ∈ l, a ≠ b → ∀ x, x ∈ f a → x ∉ f b) : (l.flatMap f).Nodup := by
  induction l with
  | nil => simp
  | cons a l ih =>
    rw [List.flatMap_cons]
    simp only [List.nodup_cons] at hl
    refine List.nodup_append.2 ⟨h1 a (by simp), ih hl.2 (fun b hb => h1 b (by simp [hb])) (fun b hb c hc => h2 b (by simp [hb]) c (by simp [hc])), ?_⟩
    intro x hx y hy e
    subst e
    obtain ⟨b, hb, hxb⟩ := List.mem_flatMap.1 hy
    exact h2 a (by simp) b (by simp [hb]) (fun e => hl.1 (by rw [e]; exact hb)) x hx hxb
theorem kids_up {ns : Nodes} (h : TreeOk ns) {id k : Int} (hk : k ∈ kidsOf ns id) : upOf ns k = some id ∧ hasN ns k = true := by
  have hp := upOf_mem h.nodup (kids_mem.1 hk)
  exact ⟨hp, hasN_iff.2 (.inr ⟨id, hp⟩)⟩
/-- a window is not below its kid. -/
theorem below_up {ns : Nodes} (h : TreeOk ns) {id k : Int} (hk' : k ∈ kidsOf ns id) : id ∉ belowAt ns k := by
  obtain ⟨rk, hr, hk⟩ := h.ranked
  intro hb
  have h1 := (below_iff h (kids_up h hk').2 id).1 hb
  have h2 := (hk _ (kids_mem.1 hk')).1
  simp only at h2
  rcases path_rank h hr hk h1 with e | h3
  · rw [e] at h2; omega
  · omega
/-- what is below a kid is not below another one. -/
theorem below_disj {ns : Nodes} (h : TreeOk ns) {id a b : Int} (ha : a ∈ kidsOf ns id) (hb : b ∈ kidsOf ns id) (hab : a ≠ b) {x : Int} (hxa : x ∈ belowAt ns a) : x ∉ belowAt ns b := by
  obtain ⟨rk, hr, hk⟩ := h.ranked
  intro hxb
  have pa := (below_iff h (kids_up h ha).2 x).1 hxa
  have pb := (below_iff h (kids_up h hb).2 x).1 hxb
  obtain ⟨pre, hpre⟩ := path_suffix h pa
  have sa := (path_step h (kids_up h ha).1).1
  have sb := (path_step h (kids_up h hb).1).1
  obtain ⟨preb, hpreb⟩ := path_suffix h pb
  -- both are parts of one path: one lies on the other's
  have key : a ∈ pathN ns b ∨ b ∈ pathN ns a := by
    rw [hpre] at hpreb
    rcases List.append_eq_append_iff.1 hpreb with ⟨c, h1, h2⟩ | ⟨c, h1, h2⟩
    · right
      rw [h2]
      exact List.mem_append_right _ (path_self h (kids_up h hb).2)
    · left
      rw [h2]
      exact List.mem_append_right _ (path_self h (kids_up h ha).2)
  have ra := (hk _ (kids_mem.1 ha)).1
  have rb := (hk _ (kids_mem.1 hb)).1
  simp only at ra rb
  rcases key with hm | hm
  · rw [sb] at hm
    rcases List.mem_cons.1 hm with e | hm
    · exact hab e
    · rcases path_rank h hr hk hm with e | h3
      · rw [e] at ra; omega
      · omega
  · rw [sa] at hm
    rcases List.mem_cons.1 hm with e | hm
    · exact hab e.symm
    · rcases path_rank h hr hk hm with e | h3
      · rw [e] at rb; omega
      · omega
theorem below_nodup {ns : Nodes} (h : TreeOk ns) (id : Int) : hasN ns id = true → (belowAt ns id).Nodup := by
  refine below_ind h (P := fun id => hasN ns id = true → (belowAt ns id).Nodup) ?_ id
  intro id ih hi
  rw [below_step h, List.nodup_cons]
  constructor
  · intro hm
    obtain ⟨k, hk', hb⟩ := List.mem_flatMap.1 hm
    exact below_up h hk' hb
  · exact nodup_flatMap (kids_nodup h id) (fun k hk' => ih k hk' (kids_up h hk').2) (fun a ha b hb hab x hxa => below_disj h ha hb hab hxa)
theorem len_nodup {l m : List Int} (hl : l.Nodup) (h : ∀ x ∈ l, x ∈ m) : l.length ≤ m.length := by
  induction l generalizing m with
  | nil => simp
  | cons a l ih =>
    simp only [List.nodup_cons] at hl
    have ha := h a (by simp)
    have := ih (m := m.erase a) hl.2 (fun x hx => (List.mem_erase_of_ne (fun e => hl.1 (by rw [← e]; exact hx))).2 (h x (by simp [hx])))
    rw [List.length_erase_of_mem ha] at this
    have hp := List.length_pos_of_mem ha
    simp only [List.length_cons]
    omega
theorem below_has {ns : Nodes} (h : TreeOk ns) {id : Int} (hi : hasN ns id = true) {x : Int} (hx : x ∈ belowAt ns id) : hasN ns x = true := by
  have := (below_iff h hi x).1 hx
  cases hix : hasN ns x with
  | true => rfl
  | false => rw [path_none hix] at this; cases this
theorem below_len {ns : Nodes} (h : TreeOk ns) {id : Int} (hi : hasN ns id = true) : (belowAt ns id).length ≤ ns.length + 1 := by
  have := len_nodup (m := 1 :: ns.map (·.1)) (below_nodup h id hi) (fun x hx => by
    rcases hasN_iff.1 (below_has h hi hx) with e | ⟨p, hp⟩
    · rw [e]; simp
    · exact List.mem_cons_of_mem _ (List.mem_map_of_mem (f := (·.1)) (upOf_some hp)))
  simpa using this

/-- what Add makes is such a tree again. -/
theorem ok_nil : TreeOk [] := ⟨by simp, by simp, by simp, ⟨fun _ => 0, rfl, by simp⟩⟩
theorem ok_add {ns : Nodes} (h : TreeOk ns) {id p : Int} (hi : hasN ns id = false) (hp : hasN ns p = true) : TreeOk (ns ++ [(id, p)]) := by
  have hno : ∀ q ∈ ns, q.1 ≠ id := fun q hq e => by
    have := upOf_mem h.nodup (show (id, q.2) ∈ ns by rw [← e]; exact hq)
    rw [hasN_iff.2 (.inr ⟨_, this⟩)] at hi
    cases hi
  have h1 : id ≠ 1 := fun e => by rw [e, hasN_root] at hi; cases hi
  have hnd : ((ns ++ [(id, p)]).map (·.1)).Nodup := by
    rw [List.map_append]
    refine List.nodup_append.2 ⟨h.nodup, by simp, ?_⟩
    intro x hx y hy e
    simp only [List.map_cons, List.map_nil, List.mem_singleton] at hy
    obtain ⟨q, hq, rfl⟩ := List.mem_map.1 hx
    exact hno q hq (e.trans hy)
  have hup : ∀ i, hasN ns i = true → hasN (ns ++ [(id, p)]) i = true := fun i hi => by
    rcases hasN_iff.1 hi with e | ⟨q, hq⟩
    · rw [e]; exact hasN_root _
    · exact hasN_iff.2 (.inr ⟨q, upOf_mem hnd (List.mem_append_left _ (upOf_some hq))⟩)
  refine ⟨hnd, ?_, ?_, ?_⟩
  · intro q hq
    rcases List.mem_append.1 hq with hq | hq
    · exact h.noroot q hq
    · simp only [List.mem_singleton] at hq
      rw [hq]
      exact h1
  · intro q hq
    rcases List.mem_append.1 hq with hq | hq
    · exact hup _ (h.closed q hq)
    · simp only [List.mem_singleton] at hq
      rw [hq]
      exact hup _ hp
  · obtain ⟨rk, hr, hk⟩ := h.ranked
    have hpl : rk p ≤ ns.length := by
      rcases hasN_iff.1 hp with e | ⟨q, hq⟩
      · rw [e, hr]; exact Nat.zero_le _
      · exact (hk _ (upOf_some hq)).2
    have hpne : p ≠ id := fun e => by rw [e, hi] at hp; cases hp
    refine ⟨fun i => if i = id then ns.length + 1 else rk i, by simp [Ne.symm h1, hr], ?_⟩
    intro q hq
    simp only [List.length_append, List.length_cons, List.length_nil]
    rcases List.mem_append.1 hq with hq | hq
    · have := hk q hq
      have hqn : q.2 ≠ id := fun e => by
        have := h.closed q hq
        rw [e, hi] at this
        cases this
      rw [if_neg hqn, if_neg (hno q hq)]
      omega
    · simp only [List.mem_singleton] at hq
      rw [hq]
      simp only [if_neg hpne, if_true]
      omega

end Go.Proofs.YtbfefkhejknmoaaGreatDoor
