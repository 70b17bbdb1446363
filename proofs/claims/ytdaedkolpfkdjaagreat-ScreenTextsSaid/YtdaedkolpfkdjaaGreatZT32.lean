/-
  Plain: the text of a grid, and the grid of a text.
-/
import Derived.Lib.IndexLaws
import Derived.Lib.IndexBytes
import Derived.Test.YtdaedkolpfkdjaaGreatZT30
section
namespace Go.Proofs.YtdaedkolpfkdjaaGreat

/-- lines, each ended. -/
def joinL (L : List (List UInt8)) : List UInt8 := L.flatMap (· ++ [10])
/-- is it a digit of base 16? -/
def isDig (b : UInt8) : Bool := (48 ≤ b.toNat && b.toNat ≤ 57) || (97 ≤ b.toNat && b.toNat ≤ 102)
/-- the number of a digit. -/
def digV (b : UInt8) : Nat := if b.toNat ≤ 57 then b.toNat - 48 else b.toNat - 87
/-- the numbers of two digits each. -/
def pairs : List UInt8 → List Int
  | a :: b :: l => ((16 * digV a + digV b : Nat) : Int) :: pairs l
  | _ => []
structure goodL (l : List UInt8) : Prop where
  two : 2 ≤ l.length
  even : l.length % 2 = 0
  dig : ∀ b ∈ l, isDig b = true
/-- a text of lines that are all so long. -/
structure TextIs (s : List UInt8) (w : Nat) (L : List (List UInt8)) : Prop where
  eq : s = joinL L
  ne : L ≠ []
  good : ∀ l ∈ L, goodL l
  len : ∀ l ∈ L, l.length = w
theorem joinL_cons (l : List UInt8) (L : List (List UInt8)) : joinL (l :: L) = l ++ 10 :: joinL L := by simp [joinL]
theorem joinL_snoc (L : List (List UInt8)) (l : List UInt8) : joinL (L ++ [l]) = joinL L ++ (l ++ [10]) := by simp [joinL]
theorem joinL_nil : joinL [] = [] := rfl
theorem dig_ten {b : UInt8} (h : isDig b = true) : b ≠ 10 := by
  rintro rfl
  exact absurd h (by decide)
theorem good_ten {l : List UInt8} (h : goodL l) : ∀ b ∈ l, b ≠ 10 := fun b hb => dig_ten (h.dig b hb)
theorem cut_eq : ∀ (a b r t : List UInt8), (∀ x ∈ a, x ≠ 10) → (∀ x ∈ b, x ≠ 10) → a ++ 10 :: r = b ++ 10 :: t → a = b ∧ r = t
  | [], [], r, t, _, _, h => by simpa using h
  | [], y :: b, r, t, _, hb, h => by
    simp only [List.nil_append, List.cons_append, List.cons.injEq] at h
    exact absurd h.1.symm (hb y (List.mem_cons_self ..))
  | x :: a, [], r, t, ha, _, h => by
    simp only [List.nil_append, List.cons_append, List.cons.injEq] at h
    exact absurd h.1 (ha x (List.mem_cons_self ..))
  | x :: a, y :: b, r, t, ha, hb, h => by
    simp only [List.cons_append, List.cons.injEq] at h
    obtain ⟨h1, h2⟩ := cut_eq a b r t (fun z hz => ha z (List.mem_cons_of_mem _ hz)) (fun z hz => hb z (List.mem_cons_of_mem _ hz)) h.2
    exact ⟨by rw [h.1, h1], h2⟩
theorem join_line {c r : List UInt8} {L : List (List UInt8)} (hc : ∀ x ∈ c, x ≠ 10) (hL : ∀ l ∈ L, ∀ x ∈ l, x ≠ 10) (h : c ++ 10 :: r = joinL L) : ∃ L', L = c :: L' ∧ r = joinL L' := by
  cases L with
  | nil =>
    rw [joinL_nil] at h
    exact absurd h (by simp)
  | cons l L =>
    rw [joinL_cons] at h
    obtain ⟨h1, h2⟩ := cut_eq c l r _ hc (hL l (List.mem_cons_self ..)) h
    exact ⟨L, by rw [h1], h2⟩
theorem join_next : ∀ (D : List (List UInt8)) {r : List UInt8} {L : List (List UInt8)}, (∀ l ∈ D, ∀ x ∈ l, x ≠ 10) → (∀ l ∈ L, ∀ x ∈ l, x ≠ 10) → joinL D ++ r = joinL L → ∃ L', L = D ++ L' ∧ r = joinL L'
  | [], r, L, _, _, h => ⟨L, rfl, by simpa [joinL_nil] using h⟩
  | d :: D, r, L, hD, hL, h => by
    rw [joinL_cons, List.append_assoc, List.cons_append] at h
    obtain ⟨L1, h1, h2⟩ := join_line (hD d (List.mem_cons_self ..)) hL h
    subst h1
    obtain ⟨L2, h3, h4⟩ := join_next D (fun l hl => hD l (List.mem_cons_of_mem _ hl)) (fun l hl => hL l (List.mem_cons_of_mem _ hl)) h2
    exact ⟨L2, by rw [h3]; rfl, h4⟩
theorem join_bad {c r : List UInt8} {b : UInt8} : ∀ {L : List (List UInt8)}, (∀ x ∈ c, x ≠ 10) → b ≠ 10 → c ++ b :: r = joinL L → ∃ l ∈ L, b ∈ l
  | [], _, _, h => by
    rw [joinL_nil] at h
    exact absurd h (by simp)
  | l :: L, hc, hb, h => by
    rw [joinL_cons] at h
    refine ⟨l, List.mem_cons_self .., ?_⟩
    have key : ∀ (c l r t : List UInt8), (∀ x ∈ c, x ≠ 10) → c ++ b :: r = l ++ 10 :: t → b ∈ l := by
      intro c
      induction c with
      | nil =>
        intro l r t _ h
        cases l with
        | nil =>
          simp only [List.nil_append, List.cons.injEq] at h
          exact absurd h.1 hb
        | cons y l =>
          simp only [List.nil_append, List.cons_append, List.cons.injEq] at h
          rw [h.1]
          exact List.mem_cons_self ..
      | cons x c ih =>
        intro l r t hc h
        cases l with
        | nil =>
          simp only [List.nil_append, List.cons_append, List.cons.injEq] at h
          exact absurd h.1 (hc x (List.mem_cons_self ..))
        | cons y l =>
          simp only [List.cons_append, List.cons.injEq] at h
          exact List.mem_cons_of_mem _ (ih l r t (fun z hz => hc z (List.mem_cons_of_mem _ hz)) h.2)
    exact key c l r _ hc h
theorem join_end {c : List UInt8} : ∀ {L : List (List UInt8)}, (∀ x ∈ c, x ≠ 10) → c ≠ [] → c = joinL L → False
  | [], _, hn, h => hn h
  | l :: L, hc, _, h => by
    rw [joinL_cons] at h
    exact hc 10 (by rw [h]; simp) rfl
theorem TextIs.ten {s : List UInt8} {w : Nat} {L : List (List UInt8)} (h : TextIs s w L) : ∀ l ∈ L, ∀ x ∈ l, x ≠ 10 := fun l hl => good_ten (h.good l hl)
theorem TextIs.same {s : List UInt8} {w w' : Nat} {L L' : List (List UInt8)} (h : TextIs s w L) (h' : TextIs s w' L') : w' = w ∧ L' = L := by
  obtain ⟨M, h1, h2⟩ := join_next L (r := []) (L := L') h.ten h'.ten (by rw [List.append_nil, ← h.eq, h'.eq])
  have : M = [] := by
    cases M with
    | nil => rfl
    | cons l M =>
      rw [joinL_cons] at h2
      exact absurd h2.symm (by simp)
  subst this
  rw [List.append_nil] at h1
  subst h1
  refine ⟨?_, rfl⟩
  cases L' with
  | nil => exact absurd rfl h.ne
  | cons l L =>
    rw [← h.len l (List.mem_cons_self ..), ← h'.len l (List.mem_cons_self ..)]
/-- what has been read so far: lines that are good, and all as long as the first. -/
structure Read (D : List (List UInt8)) (w : Nat) : Prop where
  good : ∀ l ∈ D, goodL l
  len : ∀ l ∈ D, l.length = w
theorem Read.ten {D : List (List UInt8)} {w : Nat} (h : Read D w) : ∀ l ∈ D, ∀ x ∈ l, x ≠ 10 := fun l hl => good_ten (h.good l hl)
theorem Read.nil (w : Nat) : Read [] w := ⟨fun _ hl => absurd hl List.not_mem_nil, fun _ hl => absurd hl List.not_mem_nil⟩
theorem Read.snoc {D : List (List UInt8)} {w : Nat} {l : List UInt8} (h : Read D w) (hg : goodL l) (hl : D = [] ∨ l.length = w) : Read (D ++ [l]) l.length := by
  have hw : ∀ m ∈ D, m.length = l.length := fun m hm => by
    rcases hl with rfl | hl
    · exact absurd hm List.not_mem_nil
    · rw [h.len m hm, hl]
  refine ⟨fun m hm => ?_, fun m hm => ?_⟩
  · rcases List.mem_append.1 hm with hm | hm
    · exact h.good m hm
    · rw [List.mem_singleton.1 hm]
      exact hg
  · rcases List.mem_append.1 hm with hm | hm
    · exact hw m hm
    · rw [List.mem_singleton.1 hm]
theorem Read.done {s : List UInt8} {D : List (List UInt8)} {w : Nat} (h : Read D w) (hs : s = joinL D) (hn : s ≠ []) : TextIs s w D := ⟨hs, fun e => hn (by rw [hs, e]; rfl), h.good, h.len⟩
/-- a whole line behind what was read: a text's line is it. -/
theorem Read.line {s r c : List UInt8} {D L : List (List UInt8)} {w w' : Nat} (h : Read D w) (hs : s = joinL D ++ (c ++ 10 :: r)) (hc : ∀ x ∈ c, x ≠ 10) (ht : TextIs s w' L) : goodL c ∧ c.length = w' ∧ (D ≠ [] → w = w') := by
  obtain ⟨M, h1, h2⟩ := join_next D h.ten ht.ten (by rw [← hs, ht.eq])
  subst h1
  obtain ⟨N, h3, -⟩ := join_line hc (fun l hl => ht.ten l (List.mem_append_right _ hl)) h2
  subst h3
  have hm : c ∈ D ++ c :: N := List.mem_append_right _ (List.mem_cons_self ..)
  refine ⟨ht.good c hm, ht.len c hm, fun hD => ?_⟩
  cases D with
  | nil => exact absurd rfl hD
  | cons d D =>
    rw [← h.len d (List.mem_cons_self ..), ← ht.len d (by simp)]
theorem Read.no_char {s r c : List UInt8} {b : UInt8} {D L : List (List UInt8)} {w w' : Nat} (h : Read D w) (hs : s = joinL D ++ (c ++ b :: r)) (hc : ∀ x ∈ c, x ≠ 10) (hb : b ≠ 10) (hd : isDig b = false) (ht : TextIs s w' L) : False := by
  obtain ⟨M, h1, h2⟩ := join_next D h.ten ht.ten (by rw [← hs, ht.eq])
  obtain ⟨l, hl, hbl⟩ := join_bad hc hb h2
  have := (ht.good l (by rw [h1]; exact List.mem_append_right _ hl)).dig b hbl
  rw [hd] at this
  cases this
theorem Read.no_end {s c : List UInt8} {D L : List (List UInt8)} {w w' : Nat} (h : Read D w) (hs : s = joinL D ++ c) (hc : ∀ x ∈ c, x ≠ 10) (hn : c ≠ []) (ht : TextIs s w' L) : False := by
  obtain ⟨M, -, h2⟩ := join_next D h.ten ht.ten (by rw [← hs, ht.eq])
  exact join_end hc hn h2

-- digits
theorem hexC_dig : ∀ n : Fin 16, isDig (hexC n.val) = true ∧ digV (hexC n.val) = n.val := by decide +kernel
theorem dig_hexF : ∀ n : Fin 256, isDig (UInt8.ofNat n.val) = true → hexC (digV (UInt8.ofNat n.val)) = UInt8.ofNat n.val ∧ digV (UInt8.ofNat n.val) < 16 := by decide +kernel
theorem dig_hex {b : UInt8} (h : isDig b = true) : hexC (digV b) = b ∧ digV b < 16 := by
  have := dig_hexF ⟨b.toNat, b.toNat_lt⟩
  simp only [UInt8.ofNat_toNat] at this
  exact this h
theorem hexB_dig (q : UInt8) : ∀ b ∈ hexB q, isDig b = true := by
  have h1 : q.toNat / 16 < 16 := by have := q.toNat_lt; omega
  intro b hb
  simp only [hexB, List.mem_cons, List.not_mem_nil, or_false] at hb
  rcases hb with rfl | rfl
  · exact (hexC_dig ⟨_, h1⟩).1
  · exact (hexC_dig ⟨_, Nat.mod_lt _ (by omega)⟩).1
theorem pairs_hexB (q : UInt8) (l : List UInt8) : pairs (hexB q ++ l) = (q.toNat : Int) :: pairs l := by
  have h1 : q.toNat / 16 < 16 := by have := q.toNat_lt; omega
  have e1 : digV (hexC (q.toNat / 16)) = q.toNat / 16 := (hexC_dig ⟨_, h1⟩).2
  have e2 : digV (hexC (q.toNat % 16)) = q.toNat % 16 := (hexC_dig ⟨_, Nat.mod_lt _ (by omega)⟩).2
  simp only [hexB, List.cons_append, List.nil_append, pairs, e1, e2, List.cons.injEq, and_true]
  congr 1
  omega
theorem pairs_hex : ∀ (l : List UInt8), pairs (l.flatMap hexB) = l.map fun q : UInt8 => (q.toNat : Int)
  | [] => rfl
  | q :: l => by rw [List.flatMap_cons, pairs_hexB, pairs_hex l]; rfl
theorem hex_pairs : ∀ (l : List UInt8), l.length % 2 = 0 → (∀ b ∈ l, isDig b = true) → (Gr.B8 (pairs l)).flatMap hexB = l ∧ (pairs l).length = l.length / 2
  | [], _, _ => ⟨rfl, rfl⟩
  | [a], h, _ => by simp at h
  | a :: b :: l, h, hd => by
    obtain ⟨h1, h2⟩ := hex_pairs l (by simp at h; omega) (fun x hx => hd x (List.mem_cons_of_mem _ (List.mem_cons_of_mem _ hx)))
    obtain ⟨a1, a2⟩ := dig_hex (hd a (by simp))
    obtain ⟨b1, b2⟩ := dig_hex (hd b (by simp))
    have hn : (UInt8.ofNat (16 * digV a + digV b)).toNat = 16 * digV a + digV b := by
      rw [UInt8.toNat_ofNat']
      omega
    constructor
    · simp only [pairs, Gr.B8, List.map_cons, List.flatMap_cons, Int.toNat_natCast]
      rw [show (List.map (fun p : Int => UInt8.ofNat p.toNat) (pairs l)).flatMap hexB = l from h1]
      simp only [hexB, hn, List.cons_append, List.nil_append, List.cons.injEq, and_true]
      rw [show (16 * digV a + digV b) / 16 = digV a by omega, show (16 * digV a + digV b) % 16 = digV b by omega]
      exact ⟨a1, b1⟩
    · simp only [pairs, List.length_cons, h2]
      omega
theorem pairs_pix : ∀ (l : List UInt8), (∀ b ∈ l, isDig b = true) → Gr.Pix (pairs l)
  | [], _ => fun p hp => absurd hp List.not_mem_nil
  | [a], _ => fun p hp => absurd hp List.not_mem_nil
  | a :: b :: l, hd => by
    intro p hp
    simp only [pairs, List.mem_cons] at hp
    rcases hp with rfl | hp
    · have h1 := (dig_hex (hd a (by simp))).2
      have h2 := (dig_hex (hd b (by simp))).2
      omega
    · exact pairs_pix l (fun x hx => hd x (List.mem_cons_of_mem _ (List.mem_cons_of_mem _ hx))) p hp
theorem pairs_snoc : ∀ (l : List UInt8) (a b : UInt8), l.length % 2 = 0 → pairs (l ++ [a, b]) = pairs l ++ [((16 * digV a + digV b : Nat) : Int)]
  | [], a, b, _ => rfl
  | [x], _, _, h => by simp at h
  | x :: y :: l, a, b, h => by
    have := pairs_snoc l a b (by simp at h; omega)
    simp only [List.cons_append, pairs, this]
theorem pairs_odd : ∀ (l : List UInt8) (a : UInt8), l.length % 2 = 0 → pairs (l ++ [a]) = pairs l
  | [], a, _ => rfl
  | [x], _, h => by simp at h
  | x :: y :: l, a, h => by
    have := pairs_odd l a (by simp at h; omega)
    simp only [List.cons_append, pairs, this]
theorem pairs_get : ∀ (l : List UInt8) (x : Nat) (a b : UInt8), l[2 * x]? = some a → l[2 * x + 1]? = some b → (pairs l)[x]? = some ((16 * digV a + digV b : Nat) : Int)
  | [], x, a, b, h, _ => by simp at h
  | [y], 0, a, b, _, h => by simp at h
  | [y], x + 1, a, b, h, _ => by simp [show 2 * (x + 1) = 2 * x + 1 + 1 by omega] at h
  | y :: z :: l, 0, a, b, h, h' => by
    simp at h h'
    subst h h'
    simp [pairs]
  | y :: z :: l, x + 1, a, b, h, h' => by
    simp only [pairs, List.getElem?_cons_succ]
    exact pairs_get l x a b (by rw [← h, show 2 * (x + 1) = 2 * x + 1 + 1 by omega]; simp) (by rw [← h', show 2 * (x + 1) + 1 = 2 * x + 1 + 1 + 1 by omega]; simp)

-- a grid's text is one
/-- the lines of a grid. -/
def rowsX (W H : Nat) (px : List Int) : List (List UInt8) := (List.range H).map fun y : Nat => (Gr.rowB W H px (y : Int)).flatMap hexB
theorem textB_join (W H : Nat) (px : List Int) : textB W H px = joinL (rowsX W H px) := by
  simp only [textB, joinL, rowsX, List.flatMap_map]
  rfl
theorem hexL_len (l : List UInt8) : (l.flatMap hexB).length = 2 * l.length := by
  induction l with
  | nil => rfl
  | cons a l ih =>
    rw [List.flatMap_cons, List.length_append, ih]
    simp [hexB]
    omega
theorem row_len {W H : Nat} {px : List Int} (hl : px.length = W * H) {y : Nat} (hy : y < H) : (Gr.rowB W H px (y : Int)).length = W := by
  have h1 : (y + 1) * W ≤ H * W := Nat.mul_le_mul_right W hy
  rw [Nat.add_mul, Nat.mul_comm H W] at h1
  unfold Gr.rowB
  rw [if_pos (by omega)]
  simp only [Gr.B8, List.length_map, List.length_take, List.length_drop, Int.toNat_natCast]
  omega
theorem B8_back {l : List Int} (h : Gr.Pix l) : (Gr.B8 l).map (fun q : UInt8 => (q.toNat : Int)) = l := by
  unfold Gr.B8
  rw [List.map_map]
  have : ∀ p ∈ l, ((fun q : UInt8 => (q.toNat : Int)) ∘ fun p : Int => UInt8.ofNat p.toNat) p = id p := fun p hp => by
    have := h p hp
    simp only [Function.comp_apply, id, UInt8.toNat_ofNat']
    omega
  rw [List.map_congr_left this, List.map_id]
theorem rows_flat {α : Type} (W : Nat) : ∀ (H : Nat) (px : List α), px.length = W * H → (List.range H).flatMap (fun y : Nat => (px.drop (y * W)).take W) = px
  | 0, px, h => by
    have : px = [] := List.eq_nil_of_length_eq_zero (by simpa using h)
    simp [this]
  | H + 1, px, h => by
    rw [Nat.mul_add, Nat.mul_one] at h
    rw [List.range_succ_eq_map, List.flatMap_cons, List.flatMap_map]
    have ih := rows_flat W H (px.drop W) (by rw [List.length_drop]; omega)
    simp only [List.drop_drop] at ih
    simp only [Nat.succ_eq_add_one, Nat.zero_mul, List.drop_zero]
    have e : (List.range H).flatMap (fun y : Nat => (px.drop ((y + 1) * W)).take W) = px.drop W := by
      rw [← ih]
      congr 1
      funext y
      rw [Nat.add_mul, Nat.one_mul, Nat.add_comm]
    rw [e, List.take_append_drop]
theorem flat_congr {α β : Type} {l : List α} {f g : α → List β} (h : ∀ a ∈ l, f a = g a) : l.flatMap f = l.flatMap g := by
  induction l with
  | nil => rfl
  | cons a l ih =>
    rw [List.flatMap_cons, List.flatMap_cons, h a (List.mem_cons_self ..), ih fun b hb => h b (List.mem_cons_of_mem _ hb)]
theorem text_is {W H : Nat} {px : List Int} (hl : px.length = W * H) (hp : Gr.Pix px) (hW : 1 ≤ W) (hH : 1 ≤ H) : TextIs (textB W H px) (2 * W) (rowsX W H px) ∧ (rowsX W H px).flatMap pairs = px ∧ (rowsX W H px).length = H := by
  have hlen : ∀ l ∈ rowsX W H px, l.length = 2 * W := fun l h => by
    obtain ⟨y, hy, rfl⟩ := List.mem_map.1 h
    rw [hexL_len, row_len hl (List.mem_range.1 hy)]
  refine ⟨⟨textB_join W H px, ?_, fun l h => ⟨?_, ?_, ?_⟩, hlen⟩, ?_, by simp [rowsX]⟩
  · intro e
    have := congrArg List.length e
    simp [rowsX] at this
    omega
  · rw [hlen l h]
    omega
  · rw [hlen l h]
    omega
  · obtain ⟨y, hy, rfl⟩ := List.mem_map.1 h
    intro b hb
    obtain ⟨q, -, hq⟩ := List.mem_flatMap.1 hb
    exact hexB_dig q b hq
  · unfold rowsX
    rw [List.flatMap_map]
    refine Eq.trans (flat_congr (g := fun y : Nat => (px.drop (y * W)).take W) fun y hy => ?_) (rows_flat W H px hl)
    have hy := List.mem_range.1 hy
    rw [pairs_hex]
    unfold Gr.rowB
    rw [if_pos (by omega), Int.toNat_natCast]
    exact B8_back fun p h => hp p (List.mem_of_mem_drop (List.mem_of_mem_take h))
theorem flatV_len {α β : Type} (f : α → List β) (n : Nat) : ∀ (l : List α), (∀ a ∈ l, (f a).length = n) → (l.flatMap f).length = n * l.length
  | [], _ => by simp
  | a :: l, h => by
    rw [List.flatMap_cons, List.length_append, h a (List.mem_cons_self ..), flatV_len f n l fun b hb => h b (List.mem_cons_of_mem _ hb), List.length_cons, Nat.mul_add]
    omega
theorem flat_row {α β : Type} (f : α → List β) (n : Nat) : ∀ (l : List α), (∀ a ∈ l, (f a).length = n) → ∀ y a, l[y]? = some a → ((l.flatMap f).drop (y * n)).take n = f a
  | [], _, y, a, h => by simp at h
  | b :: l, hf, 0, a, h => by
    simp at h
    subst h
    have := hf b (List.mem_cons_self ..)
    simp [List.flatMap_cons, this]
  | b :: l, hf, y + 1, a, h => by
    have hb := hf b (List.mem_cons_self ..)
    rw [List.getElem?_cons_succ] at h
    rw [List.flatMap_cons, Nat.add_mul, Nat.one_mul, List.drop_append, List.drop_eq_nil_of_le (by omega), List.nil_append, show y * n + n - (f b).length = y * n by omega]
    exact flat_row f n l (fun c hc => hf c (List.mem_cons_of_mem _ hc)) y a h
theorem TextIs.grid {s : List UInt8} {w : Nat} {L : List (List UInt8)} (h : TextIs s w L) : textB (w / 2) L.length (L.flatMap pairs) = s ∧ (L.flatMap pairs).length = w / 2 * L.length ∧ Gr.Pix (L.flatMap pairs) ∧ 1 ≤ w / 2 ∧ 1 ≤ L.length ∧ w % 2 = 0 := by
  have hne : 1 ≤ L.length := by
    have := h.ne
    cases L with
    | nil => exact absurd rfl this
    | cons l L => simp
  have hp : ∀ l ∈ L, (pairs l).length = w / 2 := fun l hl => by
    rw [(hex_pairs l (h.good l hl).even (h.good l hl).dig).2, h.len l hl]
  have h0 : ∃ l, l ∈ L := by
    cases L with
    | nil => exact absurd rfl h.ne
    | cons l L => exact ⟨l, by simp⟩
  obtain ⟨l0, hl0⟩ := h0
  have hw1 := (h.good l0 hl0).two
  have hw2 := (h.good l0 hl0).even
  rw [h.len l0 hl0] at hw1 hw2
  refine ⟨?_, flatV_len pairs _ L hp, ?_, by omega, hne, hw2⟩
  · rw [textB_join, h.eq]
    congr 1
    apply List.ext_getElem?
    intro y
    unfold rowsX
    rw [List.getElem?_map]
    by_cases hy : y < L.length
    · rw [List.getElem?_range hy, List.getElem?_eq_getElem hy]
      simp only [Option.map_some, Option.some.injEq]
      unfold Gr.rowB
      rw [if_pos (by omega), Int.toNat_natCast, flat_row pairs _ L hp y _ (List.getElem?_eq_getElem hy)]
      have hg := h.good _ (List.getElem_mem hy)
      exact (hex_pairs _ hg.even hg.dig).1
    · rw [List.getElem?_eq_none (by simpa using hy), List.getElem?_eq_none (by omega)]
      rfl
  · intro p hp
    obtain ⟨l, hl, hpl⟩ := List.mem_flatMap.1 hp
    exact pairs_pix l (h.good l hl).dig p hpl

-- the document's text
/-- place by place, a line's end behind each row. -/
def textD (W : Nat) (l : List UInt8) (i : Nat) : List UInt8 := (l.take i).zipIdx.flatMap fun q => hexB q.1 ++ (if q.2 % W = W - 1 then [10] else [])
theorem textD_step {W : Nat} {l : List UInt8} {i : Nat} {b : UInt8} (h : l[i]? = some b) : textD W l (i + 1) = textD W l i ++ (hexB b ++ (if i % W = W - 1 then [10] else [])) := by
  obtain ⟨hi, rfl⟩ := List.getElem?_eq_some_iff.1 h
  unfold textD
  rw [List.take_succ_eq_append_getElem hi, List.zipIdx_append, List.flatMap_append]
  simp [Nat.min_eq_left (Nat.le_of_lt hi)]
theorem zip_flat (W : Nat) (hW : 1 ≤ W) : ∀ (l : List UInt8) (k j : Nat), l.length + j = W → j < W → ((l.zipIdx (k * W + j)).flatMap fun q => hexB q.1 ++ (if q.2 % W = W - 1 then [10] else [])) = l.flatMap hexB ++ [10]
  | [], k, j, h, h' => by simp at h; omega
  | [a], k, j, h, h' => by
    simp at h
    have : (k * W + j) % W = W - 1 := by
      rw [Nat.add_comm, Nat.add_mul_mod_self_right, Nat.mod_eq_of_lt h']
      omega
    simp [List.zipIdx, this]
  | a :: b :: l, k, j, h, h' => by
    simp at h
    have ih := zip_flat W hW (b :: l) k (j + 1) (by simp; omega) (by omega)
    have e : (k * W + j) % W ≠ W - 1 := by
      rw [Nat.add_comm, Nat.add_mul_mod_self_right, Nat.mod_eq_of_lt h']
      omega
    rw [List.zipIdx_cons, List.flatMap_cons, Nat.add_assoc, ih]
    dsimp only
    rw [if_neg e]
    simp
theorem textD_text {W H : Nat} {px : List Int} (hl : px.length = W * H) (hW : 1 ≤ W) : textD W (Gr.B8 px) (W * H) = textB W H px := by
  have key : ∀ y, y ≤ H → textD W (Gr.B8 px) (W * y) = (List.range y).flatMap fun y : Nat => rowT (Gr.rowB W H px (y : Int)) := by
    intro y
    induction y with
    | zero => intro _; simp [textD]
    | succ y ih =>
      intro hy
      have hrl := row_len hl (y := y) (by omega)
      have h1 : W * y + W ≤ W * H := by
        have := Nat.mul_le_mul_left W hy
        rw [Nat.mul_add, Nat.mul_one] at this
        exact this
      have hB : (Gr.B8 px).length = W * H := by simp [Gr.B8, hl]
      rw [List.range_succ, List.flatMap_append, ← ih (by omega)]
      unfold textD
      rw [Nat.mul_add, Nat.mul_one, List.take_add, List.zipIdx_append, List.flatMap_append]
      congr 1
      have e1 : (0 + (List.take (W * y) (Gr.B8 px)).length) = y * W + 0 := by
        rw [List.length_take, hB, Nat.min_eq_left (by omega), Nat.mul_comm W y]
        omega
      have e2 : List.take W (List.drop (W * y) (Gr.B8 px)) = Gr.rowB W H px (y : Int) := by
        unfold Gr.rowB
        rw [if_pos (by omega), Int.toNat_natCast, Nat.mul_comm W y]
        simp [Gr.B8, List.map_take, List.map_drop]
      rw [e1, e2, zip_flat W hW _ y 0 (by omega) (by omega)]
      simp [rowT]
  rw [key H (Nat.le_refl _)]
  rfl
-- where a byte lies
theorem idx_hit {s : List UInt8} {c : UInt8} {o : Nat} (h : Lib.indexByte s c = o) : o < s.length ∧ s = s.take o ++ c :: s.drop (o + 1) ∧ ∀ x ∈ s.take o, x ≠ c := by
  obtain ⟨h1, h2⟩ := Lib.indexByte_some h
  obtain ⟨hlt, hc⟩ := List.getElem?_eq_some_iff.1 h1
  refine ⟨hlt, ?_, fun x hx e => ?_⟩
  · rw [← hc, ← List.drop_eq_getElem_cons hlt, List.take_append_drop]
  · obtain ⟨k, hk, hkx⟩ := List.getElem_of_mem hx
    rw [List.length_take] at hk
    rw [List.getElem_take] at hkx
    exact h2 k (by omega) (by rw [List.getElem?_eq_getElem (by omega), hkx, e])
theorem idx_miss {s : List UInt8} {c : UInt8} (h : Lib.indexByte s c = -1) : ∀ x ∈ s, x ≠ c := fun x hx e => by
  obtain ⟨k, hk, hkx⟩ := List.getElem_of_mem hx
  exact Lib.indexByte_none h k (by rw [List.getElem?_eq_getElem hk, hkx, e])
theorem idx_or (s : List UInt8) (c : UInt8) : Lib.indexByte s c = -1 ∨ ∃ o : Nat, Lib.indexByte s c = o := by
  have := Lib.indexByte_ge s c
  by_cases h : Lib.indexByte s c = -1
  · exact .inl h
  · exact .inr ⟨(Lib.indexByte s c).toNat, by omega⟩
def digs : List UInt8 := [48, 49, 50, 51, 52, 53, 54, 55, 56, 57, 97, 98, 99, 100, 101, 102]
theorem idx_digF : ∀ n : Fin 256, Lib.indexByte digs (UInt8.ofNat n.val) = if isDig (UInt8.ofNat n.val) then (digV (UInt8.ofNat n.val) : Int) else -1 := by decide +kernel
theorem idx_dig (b : UInt8) : Lib.indexByte digs b = if isDig b then (digV b : Int) else -1 := by
  have := idx_digF ⟨b.toNat, b.toNat_lt⟩
  simpa only [UInt8.ofNat_toNat] using this
/-- is a line one of digits, two for each pixel? -/
def formB (l : List UInt8) : Bool := decide (2 ≤ l.length) && decide (l.length % 2 = 0) && l.all isDig
theorem formB_iff (l : List UInt8) : formB l = true ↔ goodL l := by
  unfold formB
  rw [Bool.and_eq_true, Bool.and_eq_true, decide_eq_true_eq, decide_eq_true_eq, List.all_eq_true]
  exact ⟨fun h => ⟨h.1.1, h.1.2, h.2⟩, fun h => ⟨⟨h.two, h.even⟩, h.dig⟩⟩
end Go.Proofs.YtdaedkolpfkdjaaGreat
end
