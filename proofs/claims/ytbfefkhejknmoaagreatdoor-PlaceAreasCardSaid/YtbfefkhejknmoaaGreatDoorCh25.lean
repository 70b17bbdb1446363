/-
  Slices of records that are copied by append; the walk of the document's Add.
-/
import Derived.Test.YtbfefkhejknmoaaGreatDoorCh14
import Derived.Test.YtbfefkhejknmoaaGreatDoorCh24
namespace Go.Proofs.YtbfefkhejknmoaaGreatDoor
open Go.RowKit Go.Maps Go.Shelf

section
variable {α : Type}
theorem flat_get (f : α → List Value) (m : Nat) (hm : ∀ x, (f x).length = m) : ∀ (l : List α) (k : Nat) (x : α) (i : Nat), l[k]? = some x → i < m → (l.flatMap f)[k * m + i]? = (f x)[i]?
  | [], k, x, i, h, _ => by simp at h
  | y :: l, 0, x, i, h, hi => by
    simp at h
    subst h
    rw [List.flatMap_cons, List.getElem?_append_left (by rw [hm]; omega)]
    simp
  | y :: l, k + 1, x, i, h, hi => by
    rw [List.flatMap_cons, List.getElem?_append_right (by rw [hm, Nat.add_mul]; omega), hm]
    have := flat_get f m hm l k x i (by simpa using h) hi
    rw [← this]
    congr 1
    rw [Nat.add_mul]
    omega
theorem flat_len (f : α → List Value) (m : Nat) (hm : ∀ x, (f x).length = m) (l : List α) : (l.flatMap f).length = l.length * m := by
  induction l with
  | nil => simp
  | cons y l ih => rw [List.flatMap_cons, List.length_append, hm, ih, List.length_cons, Nat.add_mul]; omega
/-- a slice reads as records of m cells. -/
def RdF (f : α → List Value) (m : Nat) (w : World) (A : Option Addr) (n : Nat) (l : List α) : Prop :=
  l.length = n ∧ (0 < n → ∃ b off, A = some ⟨b, off, none⟩ ∧ b < w.heap.size ∧ ∀ k x, l[k]? = some x → ∀ i u, (f x)[i]? = some u → w.cell? ⟨b, off + k * m + i, none⟩ = some u)
theorem RdF.below {f : α → List Value} {m : Nat} {w w' : World} {A : Option Addr} {n : Nat} {l : List α} (h : RdF f m w A n l) (hb : Below w.heap.size w w') : RdF f m w' A n l :=
  ⟨h.1, fun hn => by
    obtain ⟨b, off, e, hl, hc⟩ := h.2 hn
    exact ⟨b, off, e, Nat.lt_of_lt_of_le hl hb.size, fun k x hk i u hu => (hb.cell (p := ⟨b, off + k * m + i, none⟩) hl).trans (hc k x hk i u hu)⟩⟩
theorem RdF.nil (f : α → List Value) (m : Nat) (w : World) (A : Option Addr) : RdF f m w A 0 [] := ⟨rfl, fun h => absurd h (by omega)⟩
/-- all its cells, one by one. -/
theorem RdF.flat {f : α → List Value} {m : Nat} (hm : ∀ x, (f x).length = m) {w : World} {ad : Addr} {n : Nat} {l : List α} (h : RdF f m w (some ad) n l) : ∀ j u, (l.flatMap f)[j]? = some u → w.cell? (ad.add j) = some u := by
  intro j u hj
  have hlen := (List.getElem?_eq_some_iff.1 hj).1
  rw [flat_len f m hm, h.1] at hlen
  have hm0 : 0 < m := Nat.pos_of_ne_zero (fun e => by rw [e] at hlen; omega)
  have hn : 0 < n := Nat.pos_of_ne_zero (fun e => by rw [e] at hlen; omega)
  obtain ⟨b, off, e, hb, hc⟩ := h.2 hn
  injection e with e
  subst e
  have hk : j / m < l.length := by rw [h.1]; exact Nat.div_lt_of_lt_mul (by rw [Nat.mul_comm]; exact hlen)
  have hx : l[j / m]? = some l[j / m] := List.getElem?_eq_getElem hk
  have hmod : j % m < m := Nat.mod_lt _ hm0
  have hje : j / m * m + j % m = j := by rw [Nat.mul_comm]; exact Nat.div_add_mod j m
  have hg := flat_get f m hm l (j / m) _ (j % m) hx hmod
  rw [hje, hj] at hg
  have := hc (j / m) _ hx (j % m) u hg.symm
  rw [Nat.add_assoc, hje] at this
  unfold Addr.add
  split
  · rename_i e0; subst e0; exact this
  · exact this
theorem RdF.of_own {f : α → List Value} {m : Nat} (hm : ∀ x, (f x).length = m) {w : World} {B e n c : Nat} {A : Option Addr} {l : List α} (h : w.ownsRow B e m (.slice A n c) n (l.flatMap f)) (hl : l.length = n) : RdF f m w A n l := by
  refine ⟨hl, fun hn => ?_⟩
  rcases h.2 with ⟨e1, e2⟩ | ⟨g, cap, cur, e1, hb, hg, _⟩
  · omega
  · injection e1 with e1 _ _
    subst e1
    refine ⟨g, 0, rfl, (Array.getElem?_eq_some_iff.1 hg).1, fun k x hk i u hu => ?_⟩
    have hi : i < m := by have := (List.getElem?_eq_some_iff.1 hu).1; rwa [hm] at this
    have hfg := flat_get f m hm l k x i hk hi
    rw [hu] at hfg
    have := h.cells (g := g) rfl _ _ hfg
    unfold Addr.add at this
    split at this
    · rename_i e0
      rw [show 0 + k * m + i = 0 from by omega]
      exact this
    · rw [Nat.zero_add]
      simpa using this
end

section
variable {P : Program} {w : World}
/-- 'append(s, nothing...)'. -/
theorem run_append_nothing (t ty e : TypeId) (i : TypeInfo) (ht : P.underlying t = some (.slice e)) (hi : P.info? e = some i) (A : Option Addr) (n c c' : Nat) (hc : n ≤ c) :
    (Builtin.append_ #[t, t] ty #[.slice A n c, .slice none 0 c']).run P w = .ok (.slice A n c) w := by
  cases A <;> simp [Builtin.append_, run_underlying ht, sizeOf, typeInfo, hi, Builtin.lenOf, Builtin.firstCells, loadCells, loadCellsFrom, storeCells, hc]
theorem wp_append_opt {o : Oper} {a : Act} {K : Act → World → Prop} {Q : Exit → Act → World → Prop} (s x : Operand) (t : TypeId)
    (ho : o.op = .call { callee := .builtin .append, args := #[s, x], argTypes := #[t, t] })
    (base : Nat) (e : TypeId) (i : TypeInfo) (z : Value) (size bytes : Nat) (ht : P.underlying t = some (.slice e)) (hi : P.info? e = some i) (hz : i.zero = some z)
    (hsize : i.size = size) (hby : i.bytes = bytes) (hzs : z.cells.size = size) (hsz : 0 < size)
    (v : Value) (n : Nat) (xs : List Value) (hs : a.eval s = v) (hown : w.ownsRow base e size v n xs)
    (X : Option Addr) (m c : Nat) (news : List Value) (hx : a.eval x = .slice X m c) (hl : news.length = m * size) (hX : 0 < m → X.isSome = true) (hnews : ∀ ad, X = some ad → ∀ j u, news[j]? = some u → w.cell? (ad.add j) = some u) (h1 : ∀ u ∈ news, u.oneCell' = true)
    (h63 : n + m ≤ maxLen) (hbytes : (n + m) * bytes ≤ 140737488355328) (hbase : base ≤ w.heap.size)
    (h : ∀ v' w', w'.ownsRow base e size v' (n + m) (xs ++ news) → w.grownBy w' v.ownBlock → K (a.put o.dst v') w') : o.wp P a w K Q := by
  cases X with
  | some ad => exact wp_append_own w s x t ho base e i z size bytes ht hi hz hsize hby hzs hsz v n xs hs hown ad m c news hx hl (hnews ad rfl) h1 h63 hbytes hbase (fun v' w' h2 h3 _ => h v' w' h2 h3)
  | none =>
    have hm : m = 0 := Nat.eq_zero_of_not_pos fun h0 => by have := hX h0; cases this
    subst hm
    have hn : news = [] := List.eq_nil_of_length_eq_zero (by simpa using hl)
    subst hn
    obtain ⟨A, cap, rfl, hcap⟩ := own_form hown
    have hr := run_append_nothing (P := P) (w := w) t o.type e i ht hi A n cap c hcap
    unfold Oper.wp execOp
    simp only [ho, resolve, invoke, builtin, Sem.run_bind, Sem.run_pure, Result.andThen_ok, List.map_toArray, List.map_cons, List.map_nil, hs, hx, hr]
    exact h _ _ (by simpa using hown) ⟨rfl, rfl, rfl, Nat.le_refl _, fun _ _ _ => rfl⟩
theorem wpList_append_opt {ops : Array Oper} {rest : List Oper} {o : Oper} {a : Act} {Q : Exit → Act → World → Prop} (hgd : o.guard = none) (s x : Operand) (t : TypeId)
    (ho : o.op = .call { callee := .builtin .append, args := #[s, x], argTypes := #[t, t] })
    (base : Nat) (e : TypeId) (i : TypeInfo) (z : Value) (size bytes : Nat) (ht : P.underlying t = some (.slice e)) (hi : P.info? e = some i) (hz : i.zero = some z)
    (hsize : i.size = size) (hby : i.bytes = bytes) (hzs : z.cells.size = size) (hsz : 0 < size)
    (v : Value) (n : Nat) (xs : List Value) (hs : a.eval s = v) (hown : w.ownsRow base e size v n xs)
    (X : Option Addr) (m c : Nat) (news : List Value) (hx : a.eval x = .slice X m c) (hl : news.length = m * size) (hX : 0 < m → X.isSome = true) (hnews : ∀ ad, X = some ad → ∀ j u, news[j]? = some u → w.cell? (ad.add j) = some u) (h1 : ∀ u ∈ news, u.oneCell' = true)
    (h63 : n + m ≤ maxLen) (hbytes : (n + m) * bytes ≤ 140737488355328) (hbase : base ≤ w.heap.size)
    (h : ∀ v' w', w'.ownsRow base e size v' (n + m) (xs ++ news) → w.grownBy w' v.ownBlock → wpList P ops Q rest (a.put o.dst v') w') : wpList P ops Q (o :: rest) a w :=
  wpList_plain hgd fun _ hK => wp_append_opt s x t ho base e i z size bytes ht hi hz hsize hby hzs hsz v n xs hs hown X m c news hx hl hX hnews h1 h63 hbytes hbase fun v' w' h2 h3 => hK _ _ (h v' w' h2 h3)
end

/-- an empty slice of one's own. -/
theorem own_none (W : World) (base e size : Nat) (hb : base ≤ W.heap.size) : (W.alloc (.cells #[] e)).ownsRow base e size (.slice (some ⟨W.heap.size, 0, none⟩) 0 0) 0 [] :=
  ⟨by simp, .inr ⟨W.heap.size, 0, #[], rfl, hb, heap_alloc_new W _, Nat.le_refl _, Nat.zero_le _, by simp, by simp⟩⟩

/-- a window and its parent, in cells. -/
def ndC (p : Int × Int) : List Value := [.int .u32 p.1, .int .u32 p.2]
theorem ndC_len (p : Int × Int) : (ndC p).length = 2 := rfl
theorem ndC_one (ns : Nodes) : ∀ u ∈ ns.flatMap ndC, u.oneCell' = true := by
  intro u hu
  obtain ⟨p, _, hp⟩ := List.mem_flatMap.1 hu
  simp only [ndC, List.mem_cons, List.not_mem_nil, or_false] at hp
  rcases hp with rfl | rfl <;> rfl
theorem RdN.toF {w : World} {A : Option Addr} {n : Nat} {ns : Nodes} (h : RdN w A n ns) : RdF ndC 2 w A n ns :=
  ⟨h.1, fun hn => by
    obtain ⟨b, off, e, hl, hc⟩ := h.2 hn
    refine ⟨b, off, e, hl, fun k p hk i u hu => ?_⟩
    obtain ⟨c0, c1⟩ := hc k p hk
    match i, hu with
    | 0, hu => cases hu; exact c0
    | 1, hu => cases hu; exact c1
    | i + 2, hu => simp [ndC] at hu⟩
theorem RdN.ofF {w : World} {A : Option Addr} {n : Nat} {ns : Nodes} (h : RdF ndC 2 w A n ns) : RdN w A n ns :=
  ⟨h.1, fun hn => by
    obtain ⟨b, off, e, hl, hc⟩ := h.2 hn
    exact ⟨b, off, e, hl, fun k p hk => ⟨hc k p hk 0 _ rfl, hc k p hk 1 _ rfl⟩⟩⟩
theorem Tryz.infoNd : (Tryz.prog.info? 105).map (fun i => (i.zero, i.size, i.bytes)) = some (some (.agg #[.int .u32 0, .int .u32 0]), 2, 8) := by kernel_rfl
theorem two_new2 (w : World) (a b : Value) (t : TypeId) : ∀ j u, [a, b][j]? = some u → (w.alloc (.cells #[a, b] t)).cell? ((⟨w.heap.size, 0, none⟩ : Addr).add j) = some u := by
  intro j u hu
  match j, hu with
  | 0, hu => simp at hu; subst hu; simp [Addr.add]
  | 1, hu => simp at hu; subst hu; simp [Addr.add]
  | j + 2, hu => simp at hu

set_option maxRecDepth 100000 in
set_option maxHeartbeats 2000000 in
theorem dadd_any (A : Option Addr) (n c : Nat) (ns : Nodes) (id up : Int) (w : World) (hn : n ≤ 1000) (hid : 0 ≤ id ∧ id ≤ 4294967295) (hr : RdN w A n ns) :
    Calls Tryz.prog 32 #[.slice A n c, .int .u32 id, .int .u32 up] w fun e w' => ∃ A' n' c', e = .returned (.tuple #[.slice A' n' c', .int .i64 (addC ns id up)]) ∧ RdN w' A' n' (addN ns id up) ∧ Below w.heap.size w w' := by
  obtain ⟨i0, hi0, hz0, hz1, hz2⟩ := info_parts Tryz.infoNd
  have HR := Lib.hid hr
  have HL := Lib.hid hr.1
  clear hr
  by_cases h1 : idC id = 0
  rotate_left
  · have HC := Lib.hid (show addC ns id up = idC id by simp [addC, h1])
    have HN := Lib.hid (show addN ns id up = ns by unfold addN; rw [HC.out, if_neg h1])
    rw [HC.out, HN.out]
    obtain ⟨cd, hcd⟩ : ∃ cd, idC id = cd := ⟨_, rfl⟩
    have HD := Lib.hid hcd
    have d1 : (cd != 0) = true := by rw [hcd] at h1; simp [h1]
    rw [hcd]
    clear hcd h1
    go_enter Tryz.func32, Tryz.ntmps32
    go_wp2_with (go_at_call 54; refine (dwr_any _ _ hid).mono ?_; rintro e w1 ⟨rfl, rfl⟩; rw [HD.out])
    exact bodyPost_ret (v := .tuple #[.slice A n c, .int .i64 cd]) (by simp [results, Tryz.results32, go_sem]) rfl ⟨A, n, c, rfl, HR.out, bre w⟩
  have H1 := Lib.hid h1
  cases h2 : hasN ns id
  rotate_left
  · have HC := Lib.hid (show addC ns id up = 7 by simp [addC, h1, h2])
    have HN := Lib.hid (show addN ns id up = ns by unfold addN; rw [HC.out, if_neg (by decide)])
    rw [HC.out, HN.out]
    have H2 := Lib.hid h2
    clear h1 h2
    go_enter Tryz.func32, Tryz.ntmps32
    go_wp2_with (first
      | (go_at_call 54; refine (dwr_any _ _ hid).mono ?_; rintro e w1 ⟨rfl, rfl⟩; rw [H1.out])
      | (go_at_call 55; refine (dhas_any A n c ns id _ (by omega) HR.out).mono ?_; rintro e w2 ⟨rfl, hb⟩; rw [H2.out]; have HB := Lib.hid hb; clear hb))
    exact bodyPost_ret (v := .tuple #[.slice A n c, .int .i64 7]) (by simp [results, Tryz.results32, go_sem]) rfl ⟨A, n, c, rfl, HR.out.below HB.out, HB.out⟩
  cases h3 : hasN ns up
  · have HC := Lib.hid (show addC ns id up = 6 by simp [addC, h1, h2, h3])
    have HN := Lib.hid (show addN ns id up = ns by unfold addN; rw [HC.out, if_neg (by decide)])
    rw [HC.out, HN.out]
    have H2 := Lib.hid h2
    have H3 := Lib.hid h3
    clear h1 h2 h3
    go_enter Tryz.func32, Tryz.ntmps32
    go_wp2_with (go_at_call 54; refine (dwr_any _ _ hid).mono ?_; rintro e w1 ⟨rfl, rfl⟩; rw [H1.out])
    refine (dhas_any A n c ns id _ (by omega) HR.out).mono ?_
    rintro e w2 ⟨rfl, hb⟩
    rw [H2.out]
    have HB := Lib.hid hb
    clear hb
    go_wp2_with fail
    refine (dhas_any A n c ns up _ (by omega) (HR.out.below HB.out)).mono ?_
    rintro e w3 ⟨rfl, hb⟩
    rw [H3.out]
    have HB := Lib.hid (bstep HB.out hb)
    clear hb
    go_wp2_with fail
    exact bodyPost_ret (v := .tuple #[.slice A n c, .int .i64 6]) (by simp [results, Tryz.results32, go_sem]) rfl ⟨A, n, c, rfl, HR.out.below HB.out, HB.out⟩
  have H2 := Lib.hid h2
  have H3 := Lib.hid h3
  by_cases h4 : 64 ≤ ns.length + 1
  · have HC := Lib.hid (show addC ns id up = 5 by simp [addC, h1, h2, h3, h4])
    have HN := Lib.hid (show addN ns id up = ns by unfold addN; rw [HC.out, if_neg (by decide)])
    rw [HC.out, HN.out]
    have d4 : decide ((63 : Int) ≤ (n : Int)) = true := decide_eq_true (by have := HL.out; omega)
    clear h1 h2 h3 h4
    go_enter Tryz.func32, Tryz.ntmps32
    go_wp2_with (go_at_call 54; refine (dwr_any _ _ hid).mono ?_; rintro e w1 ⟨rfl, rfl⟩; rw [H1.out])
    refine (dhas_any A n c ns id _ (by omega) HR.out).mono ?_
    rintro e w2 ⟨rfl, hb⟩
    rw [H2.out]
    have HB := Lib.hid hb
    clear hb
    go_wp2_with fail
    refine (dhas_any A n c ns up _ (by omega) (HR.out.below HB.out)).mono ?_
    rintro e w3 ⟨rfl, hb⟩
    rw [H3.out]
    have HB := Lib.hid (bstep HB.out hb)
    clear hb
    go_wp2_with fail
    exact bodyPost_ret (v := .tuple #[.slice A n c, .int .i64 5]) (by simp [results, Tryz.results32, go_sem]) rfl ⟨A, n, c, rfl, HR.out.below HB.out, HB.out⟩
  · have HC := Lib.hid (show addC ns id up = 0 by simp [addC, h1, h2, h3, h4])
    have HN := Lib.hid (show addN ns id up = ns ++ [(id, up)] by unfold addN; rw [HC.out, if_pos rfl])
    rw [HC.out, HN.out]
    have d4 : decide ((63 : Int) ≤ (n : Int)) = false := decide_eq_false (by have := HL.out; omega)
    clear h1 h2 h3 h4
    go_enter Tryz.func32, Tryz.ntmps32
    go_wp2_with (go_at_call 54; refine (dwr_any _ _ hid).mono ?_; rintro e w1 ⟨rfl, rfl⟩; rw [H1.out])
    refine (dhas_any A n c ns id _ (by omega) HR.out).mono ?_
    rintro e w2 ⟨rfl, hb⟩
    rw [H2.out]
    have HB := Lib.hid hb
    clear hb
    go_wp2_with fail
    refine (dhas_any A n c ns up _ (by omega) (HR.out.below HB.out)).mono ?_
    rintro e w3 ⟨rfl, hb⟩
    rw [H3.out]
    have HB := Lib.hid (bstep HB.out hb)
    have hA : 0 < n → A.isSome = true := fun h0 => by
      obtain ⟨b, off, e, _⟩ := HR.out.2 h0
      rw [e]; rfl
    have HA := Lib.hid hA
    have HLN := Lib.hid (show (ns.flatMap ndC).length = n * 2 by rw [flat_len ndC 2 ndC_len, HL.out])
    have HR4 := Lib.hid ((HR.out.below HB.out).below (bal (bre w3) (.cells #[] 105))).toF
    have HNW := Lib.hid (fun (ad : Addr) (e : A = some ad) => (e ▸ HR4.out : RdF ndC 2 (w3.alloc (.cells #[] 105)) (some ad) n ns).flat ndC_len)
    have HO := Lib.hid (own_none w3 w3.heap.size 105 2 (Nat.le_refl _))
    clear hb hA
    go_wp2_with (first
      | (at_builtin; refine wpList_append_opt rfl _ _ 39 rfl w3.heap.size 105 i0 _ 2 8 Tryz.underlying39 hi0 hz0 hz1 hz2 rfl (by decide) _ _ _ rfl HO.out A n c (ns.flatMap ndC) rfl HLN.out HA.out HNW.out (ndC_one ns) (by simp only [maxLen]; omega) (by omega) (by simp) ?_; intro v5 w5 hown5 hg5; obtain ⟨A5, c5, rfl, hc5⟩ := own_form hown5; have HO5 := Lib.hid hown5; have HG5 := Lib.hid hg5; have HS5 := Lib.hid (show w3.heap.size ≤ (w5.alloc (.cells #[.int .u32 id, .int .u32 up] 105)).heap.size by rw [World.size_alloc]; have := hg5.size; rw [World.size_alloc] at this; omega); clear hown5 hg5; go_frame)
      | (at_builtin; refine wpList_append_opt rfl _ _ 39 rfl w3.heap.size 105 i0 _ 2 8 Tryz.underlying39 hi0 hz0 hz1 hz2 rfl (by decide) _ _ _ rfl (HO5.out.alloc _) (some ⟨w5.heap.size, 0, none⟩) 1 1 [.int .u32 id, .int .u32 up] rfl rfl (fun _ => rfl) (fun ad e => by cases e; exact two_new2 _ _ _ _) (by simp [Value.oneCell']) (by simp only [maxLen]; omega) (by omega) HS5.out ?_; intro v6 w6 hown6 hg6; obtain ⟨A6, c6, rfl, hc6⟩ := own_form hown6; have HO6 := Lib.hid hown6; have HG6 := Lib.hid hg6; clear hown6 hg6; go_frame))
    have hO : w6.ownsRow w3.heap.size 105 2 (.slice A6 (0 + n + 1) c6) (0 + n + 1) ((ns ++ [(id, up)]).flatMap ndC) := by
      have := HO6.out
      rwa [List.nil_append, show [Value.int .u32 id, .int .u32 up] = [(id, up)].flatMap ndC from rfl, ← List.flatMap_append] at this
    have hB1 := (bal (bre w3) (.cells #[] 105)).grown HG5.out (by simp) (fun g e => by cases e; exact Nat.le_refl _)
    have hB2 := (bal hB1 (.cells #[.int .u32 id, .int .u32 up] 105)).grown HG6.out HS5.out (fun g e => own_ge HO5.out _ e)
    exact bodyPost_ret (v := .tuple #[.slice A6 (0 + n + 1) c6, .int .i64 0]) (by simp [results, Tryz.results32, go_sem]) rfl ⟨A6, 0 + n + 1, c6, rfl, RdN.ofF (RdF.of_own ndC_len hO (by rw [List.length_append, HL.out]; simp)), bstep HB.out hB2⟩

end Go.Proofs.YtbfefkhejknmoaaGreatDoor
