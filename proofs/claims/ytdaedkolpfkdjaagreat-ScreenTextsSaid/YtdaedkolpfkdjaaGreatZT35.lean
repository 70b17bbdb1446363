/-
  The document's Text and Parse.
  What a text is: a fault, or a grid; and what both Parse say of it.
-/
import Derived.BigQuiet
import Derived.Test.YtdaedkolpfkdjaaGreatZT32
import Derived.Test.YtdaedkolpfkdjaaGreatZT33
import Derived.Test.YtdaedkolpfkdjaaGreatZT00
import Derived.Test.YtdaedkolpfkdjaaGreatZT34
section
namespace Go.Proofs.YtdaedkolpfkdjaaGreat
open Go.RowKit Go.Maps Go.Shelf

/-- a digit's number; -1: it is none. -/
def digI (b : UInt8) : Int := if isDig b then (digV b : Int) else -1
theorem digI_is (b : UInt8) : digI b = if 48 ≤ b.toNat ∧ b.toNat ≤ 57 then (b.toNat : Int) - 48 else if 97 ≤ b.toNat ∧ b.toNat ≤ 102 then (b.toNat : Int) - 87 else -1 := by
  unfold digI isDig digV
  by_cases h1 : 48 ≤ b.toNat ∧ b.toNat ≤ 57
  · simp only [h1.1, h1.2, decide_true, Bool.and_self, Bool.true_or, if_true, and_self]
    omega
  · by_cases h2 : 97 ≤ b.toNat ∧ b.toNat ≤ 102
    · have h3 : ¬ b.toNat ≤ 57 := by omega
      simp only [h2.1, h2.2, h3, decide_true, decide_false, Bool.and_self, Bool.and_false, Bool.or_true, if_true, and_self, and_false, if_false]
      omega
    · rw [if_neg h1, if_neg h2, if_neg]
      simp only [Bool.or_eq_true, Bool.and_eq_true, decide_eq_true_eq]
      omega
theorem digI_yes {b : UInt8} (h : isDig b = true) : digI b = (digV b : Int) := by unfold digI; rw [h]; rfl
theorem digI_no {b : UInt8} (h : isDig b = false) : digI b = -1 := by unfold digI; rw [h]; rfl
set_option maxRecDepth 100000 in
set_option maxHeartbeats 2000000 in
theorem digit_any (b : UInt8) (w : World) : Calls Tryz.prog 112 #[.int .u8 b.toNat] w fun e w' => e = .returned (.int .i64 (digI b)) ∧ w = w' := by
  have hb := b.toNat_lt
  rw [digI_is]
  obtain ⟨m, hm⟩ : ∃ m, b.toNat = m := ⟨_, rfl⟩
  rw [hm] at hb ⊢
  clear hm
  have hb0 : (0 : Int) ≤ (m : Int) := by omega
  have hb1 : (m : Int) < 256 := by omega
  by_cases h1 : 48 ≤ m
  · have i1 : (48 : Int) ≤ (m : Int) := by omega
    by_cases h2 : m ≤ 57
    · have i2 : (m : Int) ≤ 57 := by omega
      rw [if_pos ⟨h1, h2⟩]
      go_enter Tryz.func112, Tryz.ntmps112
      go_wp2_with fail
      go_ret
      exact ⟨rfl, rfl⟩
    · have i2 : ¬ (m : Int) ≤ 57 := by omega
      rw [if_neg (fun h => h2 h.2)]
      by_cases h3 : 97 ≤ m
      · have i3 : (97 : Int) ≤ (m : Int) := by omega
        by_cases h4 : m ≤ 102
        · have i4 : (m : Int) ≤ 102 := by omega
          rw [if_pos ⟨h3, h4⟩]
          go_enter Tryz.func112, Tryz.ntmps112
          go_wp2_with fail
          go_ret
          exact ⟨rfl, rfl⟩
        · have i4 : ¬ (m : Int) ≤ 102 := by omega
          rw [if_neg (fun h => h4 h.2)]
          go_enter Tryz.func112, Tryz.ntmps112
          go_wp2_with fail
          go_ret
          exact ⟨rfl, rfl⟩
      · have i3 : ¬ (97 : Int) ≤ (m : Int) := by omega
        rw [if_neg (fun h => h3 h.1)]
        go_enter Tryz.func112, Tryz.ntmps112
        go_wp2_with fail
        go_ret
        exact ⟨rfl, rfl⟩
  · have i1 : ¬ (48 : Int) ≤ (m : Int) := by omega
    have i3 : ¬ (97 : Int) ≤ (m : Int) := by omega
    rw [if_neg (fun h => h1 h.1), if_neg (fun h => h1 (by omega))]
    go_enter Tryz.func112, Tryz.ntmps112
    go_wp2_with fail
    go_ret
    exact ⟨rfl, rfl⟩

theorem dig_cut (n : Nat) (h : n < 16) : (⟨#[48, 49, 50, 51, 52, 53, 54, 55, 56, 57, 97, 98, 99, 100, 101, 102]⟩ : ByteArray).extract n (n + 1) = ⟨#[hexC n]⟩ := by
  have key : ∀ n : Fin 16, (⟨#[48, 49, 50, 51, 52, 53, 54, 55, 56, 57, 97, 98, 99, 100, 101, 102]⟩ : ByteArray).extract n.val (n.val + 1) = ⟨#[hexC n.val]⟩ := by decide +kernel
  exact key ⟨n, h⟩
theorem textD_len (W : Nat) (l : List UInt8) (i : Nat) : (textD W l i).length ≤ 3 * i := by
  unfold textD
  have := flatT_le (fun q : UInt8 × Nat => hexB q.1 ++ (if q.2 % W = W - 1 then [10] else [])) 3 (l.take i).zipIdx (fun q _ => by
    rw [List.length_append]
    simp only [hexB, List.length_cons, List.length_nil]
    split <;> simp)
  rw [List.length_zipIdx, List.length_take] at this
  omega
set_option maxRecDepth 100000 in
set_option maxHeartbeats 4000000 in
theorem refText_any (W H n c : Nat) (px : List Int) (A : Option Addr) (w : World) (hn : n = W * H) (hW : 1 ≤ W ∧ W ≤ 128) (hH : 1 ≤ H ∧ H ≤ 128) (hr : Rd w A n (Gr.U8 px)) (hp : Gr.Pix px) :
    Calls Tryz.prog 53 #[.int .i64 W, .slice A n c] w fun e w' => e = .returned (.string ⟨(textD W (Gr.B8 px) n).toArray⟩) ∧ Below w.heap.size w w' := by
  have hWH := Gr.mul_le_128 hW.2 hH.2
  have hn0 : 1 ≤ n := by rw [hn]; exact Nat.mul_pos hW.1 hH.1
  have hn1 : n ≤ 16384 := by omega
  have hpl : px.length = n := by simpa [Gr.U8] using hr.1
  obtain ⟨bl, off, rfl, _, _⟩ := hr.2 (by omega)
  have HR := Lib.hid hr
  have HP := Lib.hid hp
  have HPL := Lib.hid hpl
  clear hr hp hn hWH hpl
  go_enter Tryz.func53, Tryz.ntmps53
  go_wp2_with fail
  go_loopw [7, 6] (fun i s wr => ∃ k : Nat, i = .int .i64 k ∧ k ≤ n ∧ s = .string ⟨(textD W (Gr.B8 px) k).toArray⟩ ∧ Below w.heap.size w wr) (fun i _ _ => n - (intOf i).toNat)
  case atStart => exact ⟨0, rfl, by omega, rfl, bre w⟩
  case round =>
    obtain ⟨k, rfl, hk, rfl, hb⟩ := hrel
    have HB := Lib.hid hb
    clear hb
    have k0 : (0 : Int) ≤ (k : Int) := by omega
    by_cases hlt : k < n
    · obtain ⟨p, hpx⟩ : ∃ p, px[k]? = some p := ⟨_, List.getElem?_eq_getElem (by rw [HPL.out]; exact hlt)⟩
      have hpb := HP.out p (List.mem_of_getElem? hpx)
      obtain ⟨q, rfl⟩ : ∃ q : Nat, p = q := ⟨p.toNat, by omega⟩
      have hq0 : (0 : Int) ≤ (q : Int) := by omega
      have hq1 : (q : Int) < 256 := by omega
      have k1 : (k : Int) < (n : Int) := by omega
      have r0 : wr.cell? ⟨bl, off + k, none⟩ = some (.int .u8 q) := by
        obtain ⟨bl', off', e, _, hc⟩ := (HR.out.below HB.out).2 (by omega)
        injection e with e
        injection e with e1 e2
        subst e1 e2
        exact hc k _ (by simp [Gr.U8, hpx])
      obtain ⟨d, hd⟩ : ∃ d : Nat, q / 16 = d := ⟨_, rfl⟩
      obtain ⟨r, hrr⟩ : ∃ r : Nat, q % 16 = r := ⟨_, rfl⟩
      have hd1 : d < 16 := by omega
      have hr1 : r < 16 := by omega
      have hd2 : (d : Int) < 16 := by omega
      have hr2 : (r : Int) < 16 := by omega
      have t0 : (q : Int).tmod 16 = (r : Int) := by rw [Int.tmod_eq_emod_of_nonneg hq0]; omega
      have t1 : (q : Int).tdiv 16 = (d : Int) := by rw [Int.tdiv_eq_ediv_of_nonneg hq0]; omega
      have u1 : IntKind.u8.wrap (d : Int) = (d : Int) := IntWalk.u8_in _ (by omega)
      have u2 : IntKind.u8.wrap ((d : Int) + 1) = (d : Int) + 1 := IntWalk.u8_in _ (by omega)
      have u3 : IntKind.u8.wrap (r : Int) = (r : Int) := IntWalk.u8_in _ (by omega)
      have u4 : IntKind.u8.wrap ((r : Int) + 1) = (r : Int) + 1 := IntWalk.u8_in _ (by omega)
      have u5 : (d : Int) + 1 ≤ 16 := by omega
      have u6 : (r : Int) + 1 ≤ 16 := by omega
      have vd1 : (0 : Int) ≤ (d : Int) := by omega
      have vd2 : (0 : Int) ≤ (d : Int) + 1 := by omega
      have vd3 : (d : Int) ≤ (d : Int) + 1 := by omega
      have vd4 : (d : Int) + 1 ≤ ((⟨#[48, 49, 50, 51, 52, 53, 54, 55, 56, 57, 97, 98, 99, 100, 101, 102]⟩ : ByteArray).size : Int) := by show _ ≤ ((16 : Nat) : Int); omega
      have vr1 : (0 : Int) ≤ (r : Int) := by omega
      have vr2 : (0 : Int) ≤ (r : Int) + 1 := by omega
      have vr3 : (r : Int) ≤ (r : Int) + 1 := by omega
      have vr4 : (r : Int) + 1 ≤ ((⟨#[48, 49, 50, 51, 52, 53, 54, 55, 56, 57, 97, 98, 99, 100, 101, 102]⟩ : ByteArray).size : Int) := by show _ ≤ ((16 : Nat) : Int); omega
      obtain ⟨j, hj⟩ : ∃ j : Nat, k % W = j := ⟨_, rfl⟩
      have hjW : j < W := by rw [← hj]; exact Nat.mod_lt _ hW.1
      have t2 : (k : Int).tmod (W : Int) = (j : Int) := by rw [Int.tmod_eq_emod_of_nonneg k0, ← hj]; exact (Int.natCast_emod k W).symm
      have z1 : ((W : Int) == 0) = false := by rw [beq_eq_false_iff_ne]; omega
      have z2 : ¬ (W : Int) = 0 := by omega
      have hbq : (Gr.B8 px)[k]? = some (UInt8.ofNat q) := by
        unfold Gr.B8
        rw [List.getElem?_map, hpx]
        rfl
      have hstep := textD_step (W := W) hbq
      have hqn : (UInt8.ofNat q).toNat = q := by rw [UInt8.toNat_ofNat']; omega
      have hhex : hexB (UInt8.ofNat q) = [hexC d] ++ [hexC r] := by
        unfold hexB
        rw [hqn, hd, hrr]
        rfl
      rw [hhex, hj] at hstep
      have dc := dig_cut d hd1
      have dr := dig_cut r hr1
      have hlenT := textD_len W (Gr.B8 px) k
      obtain ⟨T, hT⟩ : ∃ T, textD W (Gr.B8 px) k = T := ⟨_, rfl⟩
      rw [hT] at hstep hlenT ⊢
      have HS := Lib.hid hstep
      have l1 : ¬ 9223372036854775807 < T.length + 1 := by omega
      have l2 : ¬ 9223372036854775807 < T.length + 1 + 1 := by omega
      have l3 : ¬ 9223372036854775807 < T.length + 1 + 1 + 1 := by omega
      have wm : IntKind.i64.wrap ((W : Int) - 1) = (W : Int) - 1 := IntWalk.i64_in _ (by omega)
      clear hpx hd hrr hj hbq hstep hqn hhex hpb hT
      go_upto_region 6 with fail
      go_quiet (fail)
      by_cases hjl : j = W - 1
      · have c1 : (j : Int) = (W : Int) - 1 := by omega
        go_wp2_with fail
        go_roundw
        case rel => exact ⟨k + 1, by go_num, by omega, by rw [HS.out, if_pos hjl]; congr 1; apply ByteArray.ext; simp [ByteArray.data_append], HB.out.trans ⟨rfl, rfl, rfl, Nat.le_refl _, fun _ _ => rfl⟩⟩
        case measure => simp [intOf]; omega
      · have c1 : ¬ (j : Int) = (W : Int) - 1 := by omega
        go_wp2_with fail
        go_roundw
        case rel => exact ⟨k + 1, by go_num, by omega, by rw [HS.out, if_neg hjl]; congr 1; apply ByteArray.ext; simp [ByteArray.data_append], HB.out.trans ⟨rfl, rfl, rfl, Nat.le_refl _, fun _ _ => rfl⟩⟩
        case measure => simp [intOf]; omega
    · obtain rfl : k = n := by omega
      have k1 : ¬ (k : Int) < (k : Int) := by omega
      go_wp2_with fail
      go_ret
      exact ⟨rfl, HB.out⟩

/-- what the document reads of a text: nothing; a fault of form; of size; the pixels. -/
def ParsedD (s : List UInt8) (w' : World) (e : Ending) : Prop :=
  (s = [] ∧ e = .returned (.tuple #[.int .i64 0, .slice none 0 0, .int .i64 13])) ∨
  (s ≠ [] ∧ (∀ w L, ¬ TextIs s w L) ∧ e = .returned (.tuple #[.int .i64 0, .slice none 0 0, .int .i64 2])) ∨
  (∃ w L, TextIs s w L ∧ (128 < L.length ∨ 128 < w / 2) ∧ e = .returned (.tuple #[.int .i64 0, .slice none 0 0, .int .i64 17])) ∨
  (∃ (w : Nat) (L : List (List UInt8)) (A : Option Addr) (n c : Nat), TextIs s w L ∧ L.length ≤ 128 ∧ w / 2 ≤ 128 ∧ e = .returned (.tuple #[.int .i64 ((w / 2 : Nat) : Int), .slice A n c, .int .i64 0]) ∧ n = w / 2 * L.length ∧ n ≤ c ∧ Rd w' A n (Gr.U8 (L.flatMap pairs)))
theorem digit_yes (b : UInt8) (h : isDig b = true) (w : World) : Calls Tryz.prog 112 #[.int .u8 b.toNat] w fun e w' => e = .returned (.int .i64 (digV b)) ∧ w = w' := by
  rw [← digI_yes h]
  exact digit_any b w
theorem odd_last {cur : List UInt8} (h : cur.length % 2 = 1) : ∃ c0 a, cur = c0 ++ [a] ∧ c0.length % 2 = 0 := by
  rcases List.eq_nil_or_concat cur with rfl | ⟨c0, a, rfl⟩
  · simp at h
  · refine ⟨c0, a, by simp, ?_⟩
    simp at h
    omega
/-- one byte more is read: what the text is then. -/
theorem split_at {s pre : List UInt8} {k : Nat} {q : UInt8} (h : s.take k = pre) (hq : s[k]? = some q) : s = pre ++ q :: s.drop (k + 1) := by
  obtain ⟨hk, rfl⟩ := List.getElem?_eq_some_iff.1 hq
  rw [← h, ← List.drop_eq_getElem_cons hk, List.take_append_drop]
theorem Tryz.infoB8 : (Tryz.prog.info? 5).map (fun i => (i.zero, i.size, i.bytes)) = some (some (.int .u8 0), 1, 1) := by kernel_rfl
theorem pairs_le : ∀ (l : List UInt8), (pairs l).length ≤ l.length
  | [] => Nat.le_refl _
  | [_] => by simp [pairs]
  | _ :: _ :: l => by have := pairs_le l; simp only [pairs, List.length_cons]; omega
theorem flatP_le (D : List (List UInt8)) (cur : List UInt8) : (D.flatMap pairs ++ pairs cur).length ≤ (joinL D).length + cur.length := by
  have h1 := pairs_le cur
  have h2 : (D.flatMap pairs).length ≤ (joinL D).length := by
    induction D with
    | nil => simp [joinL]
    | cons d D ih =>
      have := pairs_le d
      rw [joinL_cons, List.flatMap_cons, List.length_append, List.length_append, List.length_cons]
      omega
  rw [List.length_append]
  omega
theorem goodL_of {cur : List UInt8} {m : Nat} (hm : cur.length = m) (h2 : ¬ m < 2) (he : m % 2 = 0) (hd : ∀ b ∈ cur, isDig b = true) : goodL cur := ⟨by omega, by rw [hm]; exact he, hd⟩
theorem dig_snoc {cur : List UInt8} {q : UInt8} (h : ∀ b ∈ cur, isDig b = true) (hq : isDig q = true) : ∀ b ∈ cur ++ [q], isDig b = true := fun b hb => by
  rcases List.mem_append.1 hb with hb | hb
  · exact h b hb
  · rw [List.mem_singleton.1 hb]
    exact hq
set_option maxRecDepth 100000 in
set_option maxHeartbeats 8000000 in
theorem refParse_any (s : List UInt8) (w : World) (hs : s.length ≤ 100000) : Calls Tryz.prog 54 #[.string ⟨s.toArray⟩] w fun e w' => ParsedD s w' e ∧ Below w.heap.size w w' := by
  by_cases hs0 : s = []
  · subst hs0
    go_enter Tryz.func54, Tryz.ntmps54
    go_wp2_with fail
    go_ret3
    exact ⟨.inl ⟨rfl, rfl⟩, bre w⟩
  have hne : s.isEmpty = false := by simpa using hs0
  obtain ⟨N, hN⟩ : ∃ N, s.length = N := ⟨_, rfl⟩
  have HN := Lib.hid hN
  rw [hN] at hs
  obtain ⟨i0, hi0, hz0, hz1, hz2⟩ := info_parts Tryz.infoB8
  have HS0 := Lib.hid hs0
  clear hs0
  go_enter Tryz.func54, Tryz.ntmps54
  go_wp2_with fail
  go_loopw [9, 5, 6, 7, 8] (fun i wv at' ln ov wr => ∃ (k : Nat) (D : List (List UInt8)) (cur : List UInt8) (wl : Nat) (wi : Int) (a d : Nat) (vo : Value), i = .int .i64 k ∧ k ≤ N ∧ Read D wl ∧ s.take k = joinL D ++ cur ∧ (∀ b ∈ cur, isDig b = true) ∧ wv = .int .i64 wi ∧ (D = [] → wi = -1) ∧ (D ≠ [] → wi = wl ∧ wl ≤ 100000) ∧ at' = .int .i64 a ∧ a = (joinL D).length ∧ ln = .int .i64 d ∧ d = D.length ∧ d ≤ a ∧ a + cur.length = k ∧ vo = ov ∧ wr.ownsRow w.heap.size 5 1 vo (D.flatMap pairs ++ pairs cur).length (Gr.U8 (D.flatMap pairs ++ pairs cur)) ∧ Below w.heap.size w wr) (fun i _ _ _ _ _ => N - (intOf i).toNat)
  case atStart => exact ⟨0, [], [], 0, -1, 0, 0, _, rfl, by omega, Read.nil 0, rfl, fun _ h => absurd h List.not_mem_nil, rfl, fun _ => rfl, fun h => absurd rfl h, rfl, rfl, rfl, rfl, by omega, rfl, rfl, World.ownsRow_nil _ _ _ _, bre w⟩
  case round =>
    obtain ⟨k, D, cur, wl, wi, a, d, vo, rfl, hk, hrd, htk, hcd, rfl, hw0, hw1, rfl, ha, rfl, hd, hda, hak, rfl, ho, hb⟩ := hrel
    have HRD := Lib.hid hrd
    have HTK := Lib.hid htk
    have HCD := Lib.hid hcd
    have HW0 := Lib.hid hw0
    have HW1 := Lib.hid hw1
    have HA := Lib.hid ha
    have HD := Lib.hid hd
    have HO := Lib.hid ho
    have HB := Lib.hid hb
    clear hrd htk hcd hw0 hw1 ha hd ho hb
    have k0 : (0 : Int) ≤ (k : Int) := by omega
    obtain ⟨m, hm⟩ : ∃ m, cur.length = m := ⟨_, rfl⟩
    have HM := Lib.hid hm
    rw [hm] at hak
    clear hm
    have m0 : (k : Int) - (a : Int) = (m : Int) := by omega
    have m1 : IntKind.i64.wrap (m : Int) = (m : Int) := IntWalk.i64_in _ (by omega)
    obtain ⟨r, hr⟩ : ∃ r : Nat, m % 2 = r := ⟨_, rfl⟩
    have r0 : (m : Int).tmod 2 = (r : Int) := by rw [Int.tmod_eq_emod_of_nonneg (by omega)]; omega
    have r1 : IntKind.i64.wrap (r : Int) = (r : Int) := IntWalk.i64_in _ (by omega)
    have r2 : r < 2 := by omega
    have HR := Lib.hid hr
    have hc10 : ∀ x ∈ cur, x ≠ 10 := fun x hx => dig_ten (HCD.out x hx)
    have HC10 := Lib.hid hc10
    clear hr hc10
    by_cases hlt : k < N
    · have k1 : (k : Int) < (N : Int) := by omega
      obtain ⟨q, hq⟩ : ∃ q, s[k]? = some q := ⟨_, List.getElem?_eq_getElem (by rw [HN.out]; exact hlt)⟩
      have hix : ∀ (h : k < (⟨s.toArray⟩ : ByteArray).size), (⟨s.toArray⟩ : ByteArray)[k]'h = q := fun h => str_at hq h
      have HQ := Lib.hid hq
      have HSP := Lib.hid (show s = joinL D ++ (cur ++ q :: s.drop (k + 1)) by have := split_at HTK.out hq; rw [List.append_assoc] at this; exact this)
      clear hq
      by_cases hq10 : q = 10
      · subst hq10
        have hq1 : ((10 : UInt8).toNat : Int) = 10 := rfl
        have hgood : ∀ w L, TextIs s w L → goodL cur ∧ cur.length = w ∧ (D ≠ [] → wl = w) := fun w L ht => HRD.out.line HSP.out HC10.out ht
        have HG := Lib.hid hgood
        clear hgood
        have bad : (∀ w L, ¬ TextIs s w L) → ∀ W, Below w.heap.size w W → ParsedD s W (.returned (.tuple #[.int .i64 0, .slice none 0 0, .int .i64 2])) ∧ Below w.heap.size w W := fun h W hb => ⟨.inr (.inl ⟨HS0.out, h, rfl⟩), hb⟩
        have BAD := Lib.hid bad
        clear bad
        by_cases h2 : m < 2
        · have i2 : (m : Int) < 2 := by omega
          go_wp2_with fail
          go_ret3
          exact BAD.out (fun w L ht => by have h9 := (HG.out w L ht).1.two; have := HM.out; omega) _ HB.out
        · have i2 : ¬ (m : Int) < 2 := by omega
          by_cases h3 : r = 0
          · subst h3
            have e0 : ((0 : Nat) : Int) = 0 := rfl
            by_cases hD : D = []
            · obtain rfl := HW0.out hD
              have HDD := Lib.hid hD
              clear hD
              go_wp2_with fail
              go_roundw
              case rel => exact ⟨k + 1, D ++ [cur], [], cur.length, m, k + 1, d + 1, _, by go_num, by omega, HRD.out.snoc ((goodL_of HM.out h2 HR.out HCD.out)) (.inl HDD.out), by rw [take_snocT HQ.out, HTK.out, joinL_snoc]; simp, fun b hb => absurd hb List.not_mem_nil, rfl, fun e => absurd e (by simp), fun _ => ⟨by rw [HM.out], by have := HM.out; omega⟩, by go_num, by rw [joinL_snoc, List.length_append, List.length_append, ← HA.out, HM.out]; simp; omega, by go_num, by rw [List.length_append, ← HD.out]; rfl, by omega, by simp, rfl, by rw [List.flatMap_append]; simpa [pairs] using HO.out, HB.out⟩
              case measure => simp [intOf]; omega
            · obtain ⟨rfl, hwl⟩ := HW1.out hD
              have hwz : (0 : Int) ≤ (wl : Int) := by omega
              have HDD := Lib.hid hD
              clear hD
              by_cases h4 : m = wl
              · subst h4
                go_wp2_with fail
                go_roundw
                case rel => exact ⟨k + 1, D ++ [cur], [], cur.length, m, k + 1, d + 1, _, by go_num, by omega, HRD.out.snoc ((goodL_of HM.out h2 HR.out HCD.out)) (.inr HM.out), by rw [take_snocT HQ.out, HTK.out, joinL_snoc]; simp, fun b hb => absurd hb List.not_mem_nil, rfl, fun e => absurd e (by simp), fun _ => ⟨by rw [HM.out], by have := HM.out; omega⟩, by go_num, by rw [joinL_snoc, List.length_append, List.length_append, ← HA.out, HM.out]; simp; omega, by go_num, by rw [List.length_append, ← HD.out]; rfl, by omega, by simp, rfl, by rw [List.flatMap_append]; simpa [pairs] using HO.out, HB.out⟩
                case measure => simp [intOf]; omega
              · have i4 : ¬ (m : Int) = (wl : Int) := by omega
                go_wp2_with fail
                go_ret3
                exact BAD.out (fun w L ht => by have h9 := HG.out w L ht; have := HM.out; have := h9.2.2 HDD.out; omega) _ HB.out
          · have e0 : ¬ (r : Int) = 0 := by omega
            go_wp2_with fail
            go_ret3
            exact BAD.out (fun w L ht => by have h9 := (HG.out w L ht).1.even; have := HM.out; have := HR.out; rw [HM.out] at h9; omega) _ HB.out
      · have hq1 : ¬ (q.toNat : Int) = 10 := fun e => hq10 (UInt8.toNat_inj.1 (by show q.toNat = 10; omega))
        cases hdq : isDig q with
        | false =>
          have HDQ := Lib.hid hdq
          clear hdq
          go_wp2_with fail
          refine (digit_any q _).mono ?_
          rintro e w1 ⟨rfl, rfl⟩
          rw [digI_no HDQ.out]
          go_wp2_with fail
          go_ret3
          exact ⟨.inr (.inl ⟨HS0.out, fun w L ht => HRD.out.no_char HSP.out HC10.out hq10 HDQ.out ht, rfl⟩), HB.out⟩
        | true =>
          have HDQ := Lib.hid hdq
          have hv := (dig_hex hdq).2
          clear hdq
          go_wp2_with fail
          refine (digit_any q _).mono ?_
          rintro e w1 ⟨rfl, rfl⟩
          rw [digI_yes HDQ.out]
          have v0 : ¬ ((digV q : Nat) : Int) < 0 := by omega
          by_cases h3 : r = 0
          · subst h3
            have e0 : ((0 : Nat) : Int) = 0 := rfl
            have e1 : ¬ ((0 : Int)) = 1 := by omega
            go_wp2_with fail
            go_roundw
            case rel => exact ⟨k + 1, D, cur ++ [q], wl, wi, a, d, _, by go_num, by omega, HRD.out, by rw [take_snocT HQ.out, HTK.out, List.append_assoc], dig_snoc HCD.out HDQ.out, rfl, HW0.out, HW1.out, rfl, HA.out, rfl, HD.out, by omega, by rw [List.length_append, HM.out]; simp; omega, rfl, by rw [pairs_odd cur q (by rw [HM.out, HR.out])]; exact HO.out, HB.out⟩
            case measure => simp [intOf]; omega
          · obtain rfl : r = 1 := by omega
            have e0 : ((1 : Nat) : Int) = 1 := rfl
            obtain ⟨c0, b, hcb, hc0⟩ := odd_last (by rw [HM.out]; exact HR.out : cur.length % 2 = 1)
            have HDA := Lib.hid (HCD.out b (by rw [hcb]; simp))
            have hvb := (dig_hex HDA.out).2
            have hkb : s[k - 1]? = some b := by
              have h1 : (s.take k)[k - 1]? = some b := by
                rw [HTK.out, hcb, ← List.append_assoc, List.getElem?_append_right (by have := HA.out; have := HM.out; rw [hcb] at this; simp at this ⊢; omega)]
                have := HA.out; have := HM.out; rw [hcb] at this; simp at this ⊢
                rw [show k - 1 - ((joinL D).length + c0.length) = 0 by omega]
                rfl
              rw [List.getElem?_take] at h1
              split at h1
              · exact h1
              · cases h1
            have hm1 : 1 ≤ m := by have := HR.out; omega
            obtain ⟨j, hj⟩ : ∃ j, k - 1 = j := ⟨_, rfl⟩
            rw [hj] at hkb
            have k2 : IntKind.i64.wrap ((k : Int) - 1) = (j : Int) := by rw [IntWalk.i64_in _ (by omega)]; omega
            have k3 : (0 : Int) ≤ (j : Int) := by omega
            have k4 : (j : Int) < (N : Int) := by omega
            have hiy : ∀ (h : j < (⟨s.toArray⟩ : ByteArray).size), (⟨s.toArray⟩ : ByteArray)[j]'h = b := fun h => str_at hkb h
            clear hj
            have x1 : IntKind.i64.wrap (16 * (digV b : Int)) = 16 * (digV b : Int) := IntWalk.i64_in _ (by omega)
            have x2 : IntKind.i64.wrap (16 * (digV b : Int) + (digV q : Int)) = 16 * (digV b : Int) + (digV q : Int) := IntWalk.i64_in _ (by omega)
            have x3 : IntKind.u8.wrap (16 * (digV b : Int) + (digV q : Int)) = 16 * (digV b : Int) + (digV q : Int) := IntWalk.u8_in _ (by omega)
            obtain ⟨np, hnp⟩ : ∃ np, (D.flatMap pairs ++ pairs cur).length = np := ⟨_, rfl⟩
            have hnl : np ≤ 100000 := by have := flatP_le D cur; have := HA.out; have := HM.out; omega
            have ho9 := HO.out
            rw [hnp] at ho9
            have HNP := Lib.hid hnp
            replace HO := Lib.hid ho9
            have HCB := Lib.hid hcb
            have HC0 := Lib.hid hc0
            clear ho9 hnp hcb hc0 hkb
            go_upto_region 15 with fail
            have HE9 := Lib.hid (show D.flatMap pairs ++ pairs (cur ++ [q]) = (D.flatMap pairs ++ pairs cur) ++ [16 * (digV b : Int) + (digV q : Int)] by
                rw [HCB.out, List.append_assoc, show [b] ++ [q] = [b, q] from rfl, pairs_snoc c0 b q HC0.out, pairs_odd c0 b HC0.out, List.append_assoc]
                simp)
            have HBW0 : Below wr.heap.size wr wr.drew := (bre wr).drew
            have KW := Lib.hid (fun (W' : World) (h : Below wr.heap.size wr W') => show (fun w' => True) W' from trivial)
            refine wp_region_noPanic ?_
            refine wp_region_held_drew (S := (fun w' => True)) (by kernel_rfl) (KW.out _ HBW0) (fun hHeld => ?_)
            have HBW := Lib.hid HBW0
            clear HBW0
            generalize wr.drew = wn at HBW hHeld ⊢
            (refine Tr.take_at 0 61 (vo) rfl rfl (by kernel_rfl) (by kernel_rfl) (by decide +kernel) (fun _ _ _ h => h) (Or.inl ⟨by rfl, ?_⟩) (by assumption) ?_; (focus (intro W0 hSw; (try dsimp only at hSw); go_simp)); simp only [List.set_cons_zero, List.set_cons_succ])
            (refine Tr.take_at 1 62 (.string ⟨s.toArray⟩) rfl rfl (by kernel_rfl) (by kernel_rfl) (by decide +kernel) (fun _ _ _ h => h) (Or.inl ⟨by rfl, ?_⟩) (by assumption) ?_; (focus (intro W0 hSw; (try dsimp only at hSw); go_simp)); simp only [List.set_cons_zero, List.set_cons_succ])
            (refine Tr.take_at 2 63 (.int .i64 k) rfl rfl (by kernel_rfl) (by kernel_rfl) (by decide +kernel) (fun _ _ _ h => h) (Or.inl ⟨by rfl, ?_⟩) (by assumption) ?_; (focus (intro W0 hSw; (try dsimp only at hSw); go_simp)); simp only [List.set_cons_zero, List.set_cons_succ])
            (refine Tr.take_at 3 64 (.int .i64 j) rfl rfl (by kernel_rfl) (by kernel_rfl) (by decide +kernel) (fun _ _ _ h => h) (Or.inl ⟨by rfl, ?_⟩) (by assumption) ?_; (focus (intro W0 hSw; (try dsimp only at hSw); go_simp)); simp only [List.set_cons_zero, List.set_cons_succ])
            (refine Tr.take_at 4 65 (.int .u8 b.toNat) rfl rfl (by kernel_rfl) (by kernel_rfl) (by decide +kernel) (fun _ _ _ h => h) (Or.inl ⟨by rfl, ?_⟩) (by assumption) ?_; (focus (intro W0 hSw; (try dsimp only at hSw); go_simp)); simp only [List.set_cons_zero, List.set_cons_succ])
            (refine Tr.take_at 7 68 (.string ⟨s.toArray⟩) rfl rfl (by kernel_rfl) (by kernel_rfl) (by decide +kernel) (fun _ _ _ h => h) (Or.inl ⟨by rfl, ?_⟩) (by assumption) ?_; (focus (intro W0 hSw; (try dsimp only at hSw); go_simp)); simp only [List.set_cons_zero, List.set_cons_succ])
            (refine Tr.take_at 8 69 (.int .i64 k) rfl rfl (by kernel_rfl) (by kernel_rfl) (by decide +kernel) (fun _ _ _ h => h) (Or.inl ⟨by rfl, ?_⟩) (by assumption) ?_; (focus (intro W0 hSw; (try dsimp only at hSw); go_simp)); simp only [List.set_cons_zero, List.set_cons_succ])
            (refine Tr.take_at 9 70 (.int .u8 q.toNat) rfl rfl (by kernel_rfl) (by kernel_rfl) (by decide +kernel) (fun _ _ _ h => h) (Or.inl ⟨by rfl, ?_⟩) (by assumption) ?_; (focus (intro W0 hSw; (try dsimp only at hSw); go_simp)); simp only [List.set_cons_zero, List.set_cons_succ])
            (refine wpAnyH_ready (rs := [5]) (by decide +kernel) (by simp) ?_; refine AllReadyH.cons rfl (fun K hK => ?_) AllReadyH.nil)
            focus
              go_simp
              refine (digit_yes b HDA.out _).mono ?_
              rintro e wz ⟨rfl, rfl⟩
              go_simp
              refine hK.out _ _ (KW.out _ HBW.out) (fun hHeld => ?_)
              clear hK K
            (refine Tr.take_at 6 67 (.int .i64 (16 * (digV b : Int))) rfl rfl (by kernel_rfl) (by kernel_rfl) (by decide +kernel) (fun _ _ _ h => h) (Or.inl ⟨by rfl, ?_⟩) (by assumption) ?_; (focus (intro W0 hSw; (try dsimp only at hSw); go_simp)); simp only [List.set_cons_zero, List.set_cons_succ])
            (refine wpAnyH_ready (rs := [10]) (by decide +kernel) (by simp) ?_; refine AllReadyH.cons rfl (fun K hK => ?_) AllReadyH.nil)
            focus
              go_simp
              refine (digit_yes q HDQ.out _).mono ?_
              rintro e wz ⟨rfl, rfl⟩
              go_simp
              refine hK.out _ _ (KW.out _ HBW.out) (fun hHeld => ?_)
              clear hK K
            (refine Tr.take_at 11 72 (.int .i64 (16 * (digV b : Int) + (digV q : Int))) rfl rfl (by kernel_rfl) (by kernel_rfl) (by decide +kernel) (fun _ _ _ h => h) (Or.inl ⟨by rfl, ?_⟩) (by assumption) ?_; (focus (intro W0 hSw; (try dsimp only at hSw); go_simp)); simp only [List.set_cons_zero, List.set_cons_succ])
            (refine Tr.take_at 12 73 (.int .u8 (16 * (digV b : Int) + (digV q : Int))) rfl rfl (by kernel_rfl) (by kernel_rfl) (by decide +kernel) (fun _ _ _ h => h) (Or.inl ⟨by rfl, ?_⟩) (by assumption) ?_; (focus (intro W0 hSw; (try dsimp only at hSw); go_simp)); simp only [List.set_cons_zero, List.set_cons_succ])
            (refine wpAnyH_ready (rs := [13]) (by decide +kernel) (by simp) ?_; refine AllReadyH.cons rfl (fun K hK => ?_) AllReadyH.nil)
            focus
              refine Tr.wanted_plain rfl ?_
              refine wpU_one 74 rfl 86 5 _ rfl 1 _ i0 Tryz.underlying86 hi0 hz0 hz1 rfl (by decide) (by decide) (.int .u8 (16 * (digV b : Int) + (digV q : Int))) rfl #[.int .u8 (16 * (digV b : Int) + (digV q : Int))] rfl rfl ?_
              intro ge wn xk hg hbA
              simp only [List.set_cons_zero, List.set_cons_succ]
              replace HBW := Lib.hid (bstep HBW.out hbA)
              replace HO := Lib.hid (ownsRow_below HO.out HBW.out)
              have KE := Lib.hid xk
              clear xk hg hbA
              refine hK.out _ _ (KW.out _ HBW.out) (fun hHeld => ?_)
              clear hK K
            (refine wpAnyH_ready (rs := [14]) (by decide +kernel) (by simp) ?_; refine AllReadyH.cons rfl (fun K hK => ?_) AllReadyH.nil)
            focus
              refine Tr.wanted_plain rfl ?_
              refine wpU_append 75 rfl _ _ 86 rfl w.heap.size 5 i0 _ 1 1 Tryz.underlying86 hi0 hz0 hz1 hz2 rfl (by decide) vo np (Gr.U8 (D.flatMap pairs ++ pairs cur)) rfl HO.out ⟨ge, 0, none⟩ 1 1 [.int .u8 (16 * (digV b : Int) + (digV q : Int))] rfl rfl (news_blk KE.out) (by simp [Value.oneCell']) (by simp only [maxLen]; omega) (by omega) (Nat.le_trans HB.out.size HBW.out.size) ?_
              intro Ab cb wn hown hgr hat
              simp only [List.set_cons_zero, List.set_cons_succ]
              have HBX := Lib.hid (Below.grown (HB.out.trans (HBW.out.mono HB.out.size)) hgr (Nat.le_trans HB.out.size HBW.out.size) (fun q e => own_ge HO.out q e))
              replace HO := Lib.hid hown
              clear hown hgr hat
              refine hK.out _ _ (KW.out _ HBW.out) (fun hHeld => ?_)
              clear hK K
            (refine Tr.take_at 15 8 (.slice Ab (np + 1) cb) rfl rfl (by kernel_rfl) (by kernel_rfl) (by decide +kernel) (fun _ _ _ h => h) (Or.inl ⟨by rfl, ?_⟩) (by assumption) ?_; (focus (intro W0 hSw; (try dsimp only at hSw); go_simp)); simp only [List.set_cons_zero, List.set_cons_succ])
            refine wpAnyH_done (by kernel_rfl) ?_ _
            refine NoPanic.normal ?_
            go_wp2_with fail
            go_roundw
            case rel => exact ⟨k + 1, D, cur ++ [q], wl, wi, a, d, _, by go_num, by omega, HRD.out, by rw [take_snocT HQ.out, HTK.out, List.append_assoc], dig_snoc HCD.out HDQ.out, rfl, HW0.out, HW1.out, rfl, HA.out, rfl, HD.out, by omega, by rw [List.length_append, HM.out]; simp; omega, rfl, by rw [HE9.out, List.length_append, HNP.out]; simpa [Gr.U8] using HO.out, HBX.out⟩
            case measure => simp [intOf]; omega
    · obtain rfl : k = N := by omega
      have k1 : ¬ (k : Int) < (k : Int) := by omega
      have hall : s = joinL D ++ cur := by rw [← HTK.out, List.take_of_length_le (by rw [HN.out]; exact Nat.le_refl _)]
      have HALL := Lib.hid hall
      clear hall
      by_cases hm0 : m = 0
      · obtain rfl : a = k := by omega
        have hcn : cur = [] := List.length_eq_zero_iff.1 (by rw [HM.out]; exact hm0)
        have hsD : s = joinL D := by rw [HALL.out, hcn, List.append_nil]
        have hDn : D ≠ [] := fun e => HS0.out (by rw [hsD, e]; rfl)
        have HT := Lib.hid (HRD.out.done hsD HS0.out)
        obtain ⟨rfl, hwl⟩ := HW1.out hDn
        have HCN := Lib.hid hcn
        clear hcn hsD hDn
        obtain ⟨h, hh⟩ : ∃ h : Nat, wl / 2 = h := ⟨_, rfl⟩
        have t1 : (wl : Int).tdiv 2 = (h : Int) := by rw [Int.tdiv_eq_ediv_of_nonneg (by omega)]; omega
        have t2 : IntKind.i64.wrap (h : Int) = (h : Int) := IntWalk.i64_in _ (by omega)
        have HH := Lib.hid hh
        clear hh
        by_cases hd1 : 128 < d
        · have i1 : (128 : Int) < (d : Int) := by omega
          go_wp2_with fail
          go_ret3
          exact ⟨.inr (.inr (.inl ⟨wl, D, HT.out, .inl (by rw [← HD.out]; exact hd1), rfl⟩)), HB.out⟩
        · have i1 : ¬ (128 : Int) < (d : Int) := by omega
          by_cases hd2 : 128 < h
          · have i2 : (128 : Int) < (h : Int) := by omega
            go_wp2_with fail
            go_ret3
            exact ⟨.inr (.inr (.inl ⟨wl, D, HT.out, .inr (by rw [HH.out]; exact hd2), rfl⟩)), HB.out⟩
          · have i2 : ¬ (128 : Int) < (h : Int) := by omega
            obtain ⟨np, hnp⟩ : ∃ np, (D.flatMap pairs ++ pairs cur).length = np := ⟨_, rfl⟩
            have ho9 := HO.out
            rw [hnp] at ho9
            obtain ⟨A, c, e, hc⟩ := own_form ho9
            subst e
            have HO2 := Lib.hid ho9
            have HNP := Lib.hid hnp
            clear HO ho9 hnp
            go_wp2_with fail
            go_ret3
            have h9 := HO2.out
            have h8 := HNP.out
            rw [HCN.out, show pairs [] = [] from rfl, List.append_nil] at h9 h8
            exact ⟨.inr (.inr (.inr ⟨wl, D, A, np, c, HT.out, by rw [← HD.out]; omega, by rw [HH.out]; omega, by rw [HH.out]; rfl, by rw [← h8]; exact HT.out.grid.2.1, hc, Rd.of_own h9⟩)), HB.out⟩
      · have hak' : ¬ (a : Int) = (k : Int) := by omega
        go_wp2_with fail
        go_ret3
        exact ⟨.inr (.inl ⟨HS0.out, fun w L ht => HRD.out.no_end HALL.out HC10.out (fun e => hm0 (by rw [← HM.out, e]; rfl)) ht, rfl⟩), HB.out⟩

end Go.Proofs.YtdaedkolpfkdjaaGreat
end

section
namespace Go.Proofs.YtdaedkolpfkdjaaGreat
open Go.RowKit Go.Maps Go.Shelf

def Fault (s : List UInt8) (z : Int) : Prop := (z = 13 ∧ s = []) ∨ (z = 2 ∧ s ≠ [] ∧ ∀ w L, ¬ TextIs s w L) ∨ (z = 17 ∧ ∃ w L, TextIs s w L ∧ (128 < L.length ∨ 128 < w / 2))
def GridOf (s : List UInt8) (W H : Nat) (px : List Int) : Prop := ∃ w L, TextIs s w L ∧ L.length ≤ 128 ∧ w / 2 ≤ 128 ∧ W = w / 2 ∧ H = L.length ∧ px = L.flatMap pairs
theorem Fault.ne {s : List UInt8} {z : Int} (h : Fault s z) : z = 13 ∨ z = 2 ∨ z = 17 := by
  rcases h with h | h | h
  · exact .inl h.1
  · exact .inr (.inl h.1)
  · exact .inr (.inr h.1)
theorem textIs_ne {s : List UInt8} {w : Nat} {L : List (List UInt8)} (h : TextIs s w L) : s ≠ [] := fun e => by
  have h1 := h.eq
  rw [e] at h1
  cases L with
  | nil => exact h.ne rfl
  | cons l L => rw [joinL_cons] at h1; exact absurd h1.symm (by simp)
theorem Fault.uniq {s : List UInt8} {z z' : Int} (h : Fault s z) (h' : Fault s z') : z = z' := by
  rcases h with ⟨rfl, h⟩ | ⟨rfl, h, hn⟩ | ⟨rfl, w, L, ht, _⟩ <;> rcases h' with ⟨rfl, h'⟩ | ⟨rfl, h', hn'⟩ | ⟨rfl, w', L', ht', _⟩
  · rfl
  · exact absurd h h'
  · exact absurd h (textIs_ne ht')
  · exact absurd h' h
  · rfl
  · exact absurd ht' (hn _ _)
  · exact absurd h' (textIs_ne ht)
  · exact absurd ht (hn' _ _)
  · rfl
theorem Fault.no_grid {s : List UInt8} {z : Int} {W H : Nat} {px : List Int} (h : Fault s z) (h' : GridOf s W H px) : False := by
  obtain ⟨w, L, ht, h1, h2, -⟩ := h'
  rcases h with ⟨_, h⟩ | ⟨_, _, hn⟩ | ⟨_, w', L', ht', h3⟩
  · exact textIs_ne ht h
  · exact hn _ _ ht
  · obtain ⟨rfl, rfl⟩ := ht.same ht'
    omega
theorem GridOf.uniq {s : List UInt8} {W H W' H' : Nat} {px px' : List Int} (h : GridOf s W H px) (h' : GridOf s W' H' px') : W = W' ∧ H = H' ∧ px = px' := by
  obtain ⟨w, L, ht, -, -, rfl, rfl, rfl⟩ := h
  obtain ⟨w', L', ht', -, -, rfl, rfl, rfl⟩ := h'
  obtain ⟨rfl, rfl⟩ := ht.same ht'
  exact ⟨rfl, rfl, rfl⟩
theorem GridOf.is {s : List UInt8} {W H : Nat} {px : List Int} (h : GridOf s W H px) : textB W H px = s ∧ px.length = W * H ∧ Gr.Pix px ∧ (1 ≤ W ∧ W ≤ 128) ∧ 1 ≤ H ∧ H ≤ 128 := by
  obtain ⟨w, L, ht, h1, h2, rfl, rfl, rfl⟩ := h
  obtain ⟨g1, g2, g3, g4, g5, _⟩ := ht.grid
  exact ⟨g1, g2, g3, ⟨g4, h2⟩, g5, h1⟩
theorem grid_text {W H : Nat} {px : List Int} (hl : px.length = W * H) (hp : Gr.Pix px) (hW : 1 ≤ W ∧ W ≤ 128) (hH : 1 ≤ H ∧ H ≤ 128) : GridOf (textB W H px) W H px := by
  obtain ⟨h1, h2, h3⟩ := text_is hl hp hW.1 hH.1
  exact ⟨2 * W, rowsX W H px, h1, by omega, by omega, by omega, h3.symm, h2.symm⟩
theorem text_or (s : List UInt8) : (∃ z, Fault s z) ∨ ∃ W H px, GridOf s W H px := by
  by_cases h0 : s = []
  · exact .inl ⟨13, .inl ⟨rfl, h0⟩⟩
  · by_cases ht : ∃ w L, TextIs s w L
    · obtain ⟨w, L, ht⟩ := ht
      by_cases hs : 128 < L.length ∨ 128 < w / 2
      · exact .inl ⟨17, .inr (.inr ⟨rfl, w, L, ht, hs⟩)⟩
      · exact .inr ⟨_, _, _, w, L, ht, by omega, by omega, rfl, rfl, rfl⟩
    · exact .inl ⟨2, .inr (.inl ⟨rfl, h0, fun w L h => ht ⟨w, L, h⟩⟩)⟩
section
variable {s : List UInt8} {W H : Nat} {px : List Int} {z : Int}
theorem parse_ok (h : GridOf s W H px) (w : World) (hs : s.length ≤ 100000) : Calls Tryz.prog 52 #[.string ⟨s.toArray⟩] w fun e w' => ∃ A c, e = .returned (.tuple #[.agg #[.int .i64 W, .int .i64 H, .slice A (W * H) c], .int .i64 0]) ∧ W * H ≤ c ∧ Rd w' A (W * H) (Gr.U8 px) ∧ Below w.heap.size w w' := by
  refine (parse_any s w hs).mono ?_
  rintro e w' ⟨hp, hb⟩
  rcases hp with ⟨h0, -⟩ | ⟨h0, hn, -⟩ | ⟨w9, L, ht, h1, -⟩ | ⟨w9, L, A, n, c, ht, h1, h2, rfl, rfl, hc, hr⟩
  · exact (Fault.no_grid (.inl ⟨rfl, h0⟩) h).elim
  · exact (Fault.no_grid (.inr (.inl ⟨rfl, h0, hn⟩)) h).elim
  · exact (Fault.no_grid (.inr (.inr ⟨rfl, w9, L, ht, h1⟩)) h).elim
  · obtain ⟨rfl, rfl, rfl⟩ := h.uniq ⟨w9, L, ht, h1, h2, rfl, rfl, rfl⟩
    exact ⟨A, c, rfl, hc, hr, hb⟩
theorem parse_no (h : Fault s z) (w : World) (hs : s.length ≤ 100000) : Calls Tryz.prog 52 #[.string ⟨s.toArray⟩] w fun e w' => e = .returned (.tuple #[.agg #[.int .i64 0, .int .i64 0, .slice none 0 0], .int .i64 z]) ∧ Below w.heap.size w w' := by
  refine (parse_any s w hs).mono ?_
  rintro e w' ⟨hp, hb⟩
  rcases hp with ⟨h0, rfl⟩ | ⟨h0, hn, rfl⟩ | ⟨w9, L, ht, h1, rfl⟩ | ⟨w9, L, A, n, c, ht, h1, h2, -⟩
  · rw [h.uniq (.inl ⟨rfl, h0⟩)]
    exact ⟨rfl, hb⟩
  · rw [h.uniq (.inr (.inl ⟨rfl, h0, hn⟩))]
    exact ⟨rfl, hb⟩
  · rw [h.uniq (.inr (.inr ⟨rfl, w9, L, ht, h1⟩))]
    exact ⟨rfl, hb⟩
  · exact (h.no_grid ⟨w9, L, ht, h1, h2, rfl, rfl, rfl⟩).elim
theorem refparse_ok (h : GridOf s W H px) (w : World) (hs : s.length ≤ 100000) : Calls Tryz.prog 54 #[.string ⟨s.toArray⟩] w fun e w' => ∃ A c, e = .returned (.tuple #[.int .i64 W, .slice A (W * H) c, .int .i64 0]) ∧ W * H ≤ c ∧ Rd w' A (W * H) (Gr.U8 px) ∧ Below w.heap.size w w' := by
  refine (refParse_any s w hs).mono ?_
  rintro e w' ⟨hp, hb⟩
  rcases hp with ⟨h0, -⟩ | ⟨h0, hn, -⟩ | ⟨w9, L, ht, h1, -⟩ | ⟨w9, L, A, n, c, ht, h1, h2, rfl, rfl, hc, hr⟩
  · exact (Fault.no_grid (.inl ⟨rfl, h0⟩) h).elim
  · exact (Fault.no_grid (.inr (.inl ⟨rfl, h0, hn⟩)) h).elim
  · exact (Fault.no_grid (.inr (.inr ⟨rfl, w9, L, ht, h1⟩)) h).elim
  · obtain ⟨rfl, rfl, rfl⟩ := h.uniq ⟨w9, L, ht, h1, h2, rfl, rfl, rfl⟩
    exact ⟨A, c, rfl, hc, hr, hb⟩
theorem refparse_no (h : Fault s z) (w : World) (hs : s.length ≤ 100000) : Calls Tryz.prog 54 #[.string ⟨s.toArray⟩] w fun e w' => e = .returned (.tuple #[.int .i64 0, .slice none 0 0, .int .i64 z]) ∧ Below w.heap.size w w' := by
  refine (refParse_any s w hs).mono ?_
  rintro e w' ⟨hp, hb⟩
  rcases hp with ⟨h0, rfl⟩ | ⟨h0, hn, rfl⟩ | ⟨w9, L, ht, h1, rfl⟩ | ⟨w9, L, A, n, c, ht, h1, h2, -⟩
  · rw [h.uniq (.inl ⟨rfl, h0⟩)]
    exact ⟨rfl, hb⟩
  · rw [h.uniq (.inr (.inl ⟨rfl, h0, hn⟩))]
    exact ⟨rfl, hb⟩
  · rw [h.uniq (.inr (.inr ⟨rfl, w9, L, ht, h1⟩))]
    exact ⟨rfl, hb⟩
  · exact (h.no_grid ⟨w9, L, ht, h1, h2, rfl, rfl, rfl⟩).elim
theorem textB_len {W H : Nat} (px : List Int) (hW : W ≤ 128) (hH : H ≤ 128) : (textB W H px).length ≤ 100000 := by
  have := text_le W H px H hW
  unfold textB
  omega
theorem textB_zero : textB 0 0 [] = [] := rfl
theorem rd_empty (w : World) : Rd w none 0 (Gr.U8 []) := ⟨rfl, fun h => absurd h (Nat.lt_irrefl 0)⟩
end
end Go.Proofs.YtdaedkolpfkdjaaGreat
end
