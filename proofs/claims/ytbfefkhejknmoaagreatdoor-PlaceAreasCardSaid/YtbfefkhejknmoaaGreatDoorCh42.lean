/-
  The walk of built: the tree and the place, beside the document's.
-/
import Derived.Test.YtbfefkhejknmoaaGreatDoorCh41
import Derived.Deep.DeepCutAuto
namespace Go.Proofs.YtbfefkhejknmoaaGreatDoor
open Go.RowKit Go.Shelf

set_option maxRecDepth 100000 in
set_option maxHeartbeats 8000000 in
theorem built_any (x : WN) (UL : List Int) (L : List DB) (w : World) (hU : Rd w x.U x.nu (U32 UL)) (hL : RdD w x.A x.nl L) (hnl : x.nl ≤ 70) (hnu : x.nu ≤ maxLen) (hu : ∀ u ∈ UL, 0 ≤ u ∧ u ≤ 4294967295)
    (hd : ∀ d ∈ L, (0 ≤ d.id ∧ d.id ≤ 4294967295) ∧ RdR w d.b.A d.b.n d.sh ∧ d.b.n ≤ 12 ∧ ∀ r ∈ d.sh, r.X ≤ 9223372036854775807 ∧ r.Y ≤ 9223372036854775807) :
    Calls Tryz.prog 10 #[x.v] w fun e w' => ∃ tv pv An nn cn Al cl ns n bs l nk mk mu fk, e = .returned (.tuple #[tv, pv, .slice An nn cn, .slice Al n cl, .bool true]) ∧ BuiltAt w' tv pv An nn Al ns n bs l nk mk mu fk ∧ l = L.foldl setL (newD x.W x.H) ∧ n ≤ 71 ∧ Below w.heap.size w w' := by
  obtain ⟨W, H, U, nu, cu, A, nl, cl⟩ := x
  unfold WN.v
  dsimp only at hU hL hnl hnu ⊢
  have HU := Lib.hid hU
  have HL := Lib.hid hL
  have HLN := Lib.hid hL.1
  have HUN := Lib.hid hU.1
  have HUB := Lib.hid hu
  have HD := Lib.hid hd
  clear hU hL hu hd
  have HB := Lib.hid (bal (bal (bal (bre w) (.cells #[.int .i64 W, .int .i64 H, .slice U nu cu, .slice A nl cl] 25)) (.cells #[.map none, .map none] 35)) (.cells #[.map none] 38))
  have K1 := Lib.hid (((Blk.new w 25 #[.int .i64 W, .int .i64 H, .slice U nu cu, .slice A nl cl]).alloc (.cells #[.map none, .map none] 35)).alloc (.cells #[.map none] 38))
  have K2 := Lib.hid ((blk_new2 w (.cells #[.int .i64 W, .int .i64 H, .slice U nu cu, .slice A nl cl] 25) 35 #[.map none, .map none]).alloc (.cells #[.map none] 38))
  have K3 := Lib.hid (blk_new3 w (.cells #[.int .i64 W, .int .i64 H, .slice U nu cu, .slice A nl cl] 25) (.cells #[.map none, .map none] 35) 38 #[.map none])
  go_enter Tryz.func10, Tryz.ntmps10
  go_wp2_with fail
  with_reducible refine (tnew_any _).mono ?_
  rintro e w1 ⟨rfl, hb1⟩
  replace HB := Lib.hid (bal (bstep HB.out hb1) (.cells #[.map none, .map none] 35))
  replace K1 := Lib.hid ((K1.out.belowS hb1).alloc (.cells #[.map none, .map none] 35))
  replace K2 := Lib.hid ((K2.out.belowS hb1).alloc (.cells #[.map none, .map none] 35))
  have L3 := Lib.hid (K3.out.belowS hb1).lt
  replace K3 := Lib.hid ((K3.out.belowS hb1).alloc (.cells #[.map none, .map none] 35))
  have K7 := Lib.hid (Blk.new w1 35 #[.map none, .map none])
  clear hb1
  go_upto_region 3 with fail
  obtain ⟨X1, hX1⟩ : ∃ X1, w1.alloc (.cells #[.map none, .map none] 35) = X1 := ⟨_, rfl⟩
  have hb := HB.out
  have k1 := K1.out
  have k2 := K2.out
  have k3 := K3.out
  have k7 := K7.out
  rw [hX1] at hb k1 k2 k3 k7 ⊢
  replace HB := Lib.hid hb
  replace K1 := Lib.hid k1
  replace K2 := Lib.hid k2
  replace K3 := Lib.hid k3
  replace K7 := Lib.hid k7
  clear hb k1 k2 k3 k7 hX1
  have p0 := K1.out.cellV (i := 0) (v := .int .i64 W) rfl
  have p1 := K1.out.cellV (i := 1) (v := .int .i64 H) rfl
  go_wp2_with fail
  with_reducible refine (pnew_all W H _).mono ?_
  rintro e w2 ⟨mp0, rfl, hp, hb2⟩
  obtain ⟨cd, hcd⟩ : ∃ cd : Int, (if (sideB W && sideB H) = true then 0 else 17) = cd := ⟨_, rfl⟩
  rw [hcd]
  obtain ⟨n0, hn0⟩ : ∃ n0, (newD W H).length = n0 := ⟨_, rfl⟩
  have hcn : (cd = 0 ∧ n0 = 1) ∨ (cd = 17 ∧ n0 = 0) := by
    rw [← hcd, ← hn0]
    unfold newD
    by_cases h : (sideB W && sideB H) = true
    · rw [if_pos h, if_pos h]; exact .inl ⟨rfl, rfl⟩
    · rw [if_neg h, if_neg h]; exact .inr ⟨rfl, rfl⟩
  rw [hn0] at hp
  have HP := Lib.hid (hp.below (bal (bre w2) (.cells #[.map mp0] 38)))
  replace HB := Lib.hid (bal (bstep HB.out hb2) (.cells #[.map mp0] 38))
  replace K1 := Lib.hid ((K1.out.belowS hb2).alloc (.cells #[.map mp0] 38))
  replace K2 := Lib.hid ((K2.out.belowS hb2).alloc (.cells #[.map mp0] 38))
  replace K3 := Lib.hid ((K3.out.belowS hb2).alloc (.cells #[.map mp0] 38))
  have L7 := Lib.hid (K7.out.belowS hb2).lt
  replace K7 := Lib.hid ((K7.out.belowS hb2).alloc (.cells #[.map mp0] 38))
  have K10 := Lib.hid (Blk.new w2 38 #[.map mp0])
  have HCD := Lib.hid hcd
  have HN0 := Lib.hid hn0
  clear hp hb2 p0 p1 hcd hn0
  go_upto_region 4 with fail
  obtain ⟨X2, hX2⟩ : ∃ X2, w2.alloc (.cells #[.map mp0] 38) = X2 := ⟨_, rfl⟩
  have hb := HB.out
  have hp := HP.out
  have k1 := K1.out
  have k2 := K2.out
  have k3 := K3.out
  have k7 := K7.out
  have k10 := K10.out
  rw [hX2] at hb hp k1 k2 k3 k7 k10 ⊢
  replace HB := Lib.hid hb
  replace HP := Lib.hid hp
  replace K1 := Lib.hid k1
  replace K2 := Lib.hid k2
  replace K3 := Lib.hid k3
  replace K7 := Lib.hid k7
  replace K10 := Lib.hid k10
  clear hb hp k1 k2 k3 k7 k10 hX2
  have p0 := K1.out.cellV (i := 0) (v := .int .i64 W) rfl
  have p1 := K1.out.cellV (i := 1) (v := .int .i64 H) rfl
  go_wp2_with fail
  with_reducible refine (dnew_any W H _).mono ?_
  rintro e w3 ⟨A0, c0, rfl, hr0, hb3⟩
  rw [HN0.out] at hr0 ⊢
  have HR0 := Lib.hid hr0
  replace HB := Lib.hid (bstep HB.out hb3)
  replace HP := Lib.hid (HP.out.below hb3)
  replace K1 := Lib.hid (K1.out.belowS hb3)
  replace K2 := Lib.hid (K2.out.belowS hb3)
  replace K3 := Lib.hid (K3.out.belowS hb3)
  replace K7 := Lib.hid (K7.out.belowS hb3)
  replace K10 := Lib.hid (K10.out.belowS hb3)
  clear hr0 hb3 p0 p1
  go_upto_region 5 with fail
  go_cut [13] (fun s13 wx => s13 = .bool true ∧ wx = w3)
  case first =>
    rcases hcn with ⟨rfl, rfl⟩ | ⟨rfl, rfl⟩
    all_goals
      go_wp2_with fail
      go_meet
      exact ⟨rfl, rfl⟩
  case rest =>
    obtain ⟨rfl, rfl⟩ := hcut
    have HAT := Lib.hid (show BuiltAt wc (.agg #[.map none, .map none]) (.agg #[.map mp0]) none 0 A0 [] n0 (newB W H) (newD W H) 0 none none (fun _ => none) from
      ⟨tree_new wc, ok_nil, ⟨rfl, fun h => absurd h (by omega)⟩, HP.out, by have := rel_new W H wc; rwa [HN0.out] at this, HR0.out⟩)
    have hn01 : n0 ≤ 1 := by omega
    clear hcn
    go_wp2_with fail
    as_aux_lemma =>
      go_loopw [14, 9, 12, 13] (fun i nd ls gd wr => ∃ (k : Nat) (An : Option Addr) (nn cn : Nat) (Al : Option Addr) (cq : Nat) (ns : Nodes) (n : Nat) (bs : Bxs) (l : List DB) (nk : Nat) (mk mu : Option Nat) (fk : Int → Option Value) (mp : Option Nat), i = .int .i64 k ∧ k ≤ nl ∧ nd = .slice An nn cn ∧ ls = .slice Al n cq ∧ gd = .bool true ∧ BuiltAt wr (.agg #[.map mk, .map mu]) (.agg #[.map mp]) An nn Al ns n bs l nk mk mu fk ∧ l = (L.take k).foldl setL (newD W H) ∧ n ≤ k + 1 ∧ Blk wr w1.heap.size 35 #[.map mk, .map mu] ∧ Blk wr w2.heap.size 38 #[.map mp] ∧ Blk wr w.heap.size 25 #[.int .i64 W, .int .i64 H, .slice U nu cu, .slice A nl cl] ∧ Blk wr (w.heap.size + 1) 35 #[.map none, .map none] ∧ Blk wr (w.heap.size + 1 + 1) 38 #[.map none] ∧ Below w.heap.size w wr) (fun i _ _ _ _ => nl - (intOf i).toNat)
      case atStart => exact ⟨0, none, 0, 0, A0, c0, [], n0, _, _, 0, none, none, _, mp0, rfl, by omega, rfl, rfl, rfl, HAT.out, rfl, hn01, K7.out, K10.out, K1.out, K2.out, K3.out, HB.out⟩
      case round =>
        obtain ⟨k, An, nn, cn, Al, cq, ns, n, bs, l, nk, mk, mu, fk, mp, rfl, hk, rfl, rfl, rfl, hat, hlf, hnk, h7, h10, h1, h2, h3, hb⟩ := hrel
        as_aux_lemma =>
          replace HAT := Lib.hid hat
          replace HB := Lib.hid hb
          replace K1 := Lib.hid h1
          replace K2 := Lib.hid h2
          replace K3 := Lib.hid h3
          replace K7 := Lib.hid h7
          replace K10 := Lib.hid h10
          have HLF := Lib.hid hlf
          have HWR := Lib.hid h7.lt
          clear hat hb h1 h2 h3 h7 h10 hlf
          have p3 := K1.out.cellV (i := 3) (v := .slice A nl cl) rfl
          by_cases hlt : k < nl
          ·
            have k1 : (k : Int) < (nl : Int) := by omega
            have k0 : (0 : Int) ≤ (k : Int) := by omega
            obtain ⟨d, hdk⟩ : ∃ d, L[k]? = some d := ⟨_, List.getElem?_eq_getElem (by have := HLN.out; omega)⟩
            obtain ⟨hid, hsh, hsn, hsm⟩ := HD.out d (List.mem_of_getElem? hdk)
            have HSH := Lib.hid hsh
            have HSM := Lib.hid hsm
            have HDK := Lib.hid hdk
            obtain ⟨b, off, rfl, hbl, hcl⟩ := (HL.out.below HB.out).2 (by omega)
            have c0 : wr.cell? ⟨b, off + k * 10, none⟩ = some (.int .u32 d.id) := hcl k d hdk 0 _ rfl
            have c1 : wr.cell? ⟨b, off + k * 10 + 1, none⟩ = some (.int .i64 d.b.X) := hcl k d hdk 1 _ rfl
            have c2 : wr.cell? ⟨b, off + k * 10 + 2, none⟩ = some (.int .i64 d.b.Y) := hcl k d hdk 2 _ rfl
            have c3 : wr.cell? ⟨b, off + k * 10 + 3, none⟩ = some (.int .i64 d.b.W) := hcl k d hdk 3 _ rfl
            have c4 : wr.cell? ⟨b, off + k * 10 + 4, none⟩ = some (.int .i64 d.b.H) := hcl k d hdk 4 _ rfl
            have c5 : wr.cell? ⟨b, off + k * 10 + 5, none⟩ = some (.bool d.b.M) := hcl k d hdk 5 _ rfl
            have c6 : wr.cell? ⟨b, off + k * 10 + 6, none⟩ = some (.int .i64 d.b.G) := hcl k d hdk 6 _ rfl
            have c7 : wr.cell? ⟨b, off + k * 10 + 7, none⟩ = some (.int .i64 d.b.B) := hcl k d hdk 7 _ rfl
            have c8 : wr.cell? ⟨b, off + k * 10 + 8, none⟩ = some (.bool d.b.S) := hcl k d hdk 8 _ rfl
            have c9 : wr.cell? ⟨b, off + k * 10 + 9, none⟩ = some (.slice d.b.A d.b.n d.b.c) := hcl k d hdk 9 _ rfl
            clear hcl hdk hsh hsm
            go_upto_region 10 with fail
            clear p3 c0 c1 c2 c3 c4 c5 c6 c7 c8 c9
            have hba : Below wr.heap.size wr (wr.alloc (.cells #[.int .u32 d.id, .int .i64 d.b.X, .int .i64 d.b.Y, .int .i64 d.b.W, .int .i64 d.b.H, .bool d.b.M, .int .i64 d.b.G, .int .i64 d.b.B, .bool d.b.S, .slice d.b.A d.b.n d.b.c] 79)) := bal (bre wr) (.cells #[.int .u32 d.id, .int .i64 d.b.X, .int .i64 d.b.Y, .int .i64 d.b.W, .int .i64 d.b.H, .bool d.b.M, .int .i64 d.b.G, .int .i64 d.b.B, .bool d.b.S, .slice d.b.A d.b.n d.b.c] 79)
            have xHAT := HAT.out.below hba
            have xHB := bstep HB.out hba
            have xK1 := K1.out.belowS hba
            have xK2 := K2.out.belowS hba
            have xK3 := K3.out.belowS hba
            have xK7 := K7.out.belowS hba
            have xK10 := K10.out.belowS hba
            have xK15 := Blk.new wr 79 #[.int .u32 d.id, .int .i64 d.b.X, .int .i64 d.b.Y, .int .i64 d.b.W, .int .i64 d.b.H, .bool d.b.M, .int .i64 d.b.G, .int .i64 d.b.B, .bool d.b.S, .slice d.b.A d.b.n d.b.c]
            obtain ⟨WA, hWA⟩ : ∃ WA, wr.alloc (.cells #[.int .u32 d.id, .int .i64 d.b.X, .int .i64 d.b.Y, .int .i64 d.b.W, .int .i64 d.b.H, .bool d.b.M, .int .i64 d.b.G, .int .i64 d.b.B, .bool d.b.S, .slice d.b.A d.b.n d.b.c] 79) = WA := ⟨_, rfl⟩
            rw [hWA] at xHAT xHB xK1 xK2 xK3 xK7 xK10 xK15 ⊢
            replace HAT := Lib.hid xHAT
            replace HB := Lib.hid xHB
            replace K1 := Lib.hid xK1
            replace K2 := Lib.hid xK2
            replace K3 := Lib.hid xK3
            replace K7 := Lib.hid xK7
            replace K10 := Lib.hid xK10
            have K15 := Lib.hid xK15
            clear hba hWA xHAT xHB xK1 xK2 xK3 xK7 xK10 xK15
            obtain ⟨up, hup⟩ : ∃ up, (UL[k]?).getD 1 = up := ⟨_, rfl⟩
            have hupb : 0 ≤ up ∧ up ≤ 4294967295 := by
              rw [← hup]
              cases e : UL[k]? with
              | none => exact ⟨by decide, by decide⟩
              | some u => exact HUB.out u (List.mem_of_getElem? e)
            have HUP := Lib.hid hup
            clear hup
            have p2 := K1.out.cellV (i := 2) (v := .slice U nu cu) rfl
            go_upto_if 67 with fail
            go_cut [16] (fun s16 wx => s16 = .int .u32 up ∧ wx = WA)
            case first =>
              by_cases hku : k < nu
              · have k2 : (k : Int) < (nu : Int) := by omega
                have d2 : decide ((k : Int) < (nu : Int)) = true := decide_eq_true k2
                obtain ⟨u, hu⟩ : ∃ u, UL[k]? = some u := ⟨_, List.getElem?_eq_getElem (by have := HUN.out; simp [U32] at this; omega)⟩
                obtain ⟨bU, oU, rfl, hbU, hclU⟩ := (HU.out.below HB.out).2 (by omega)
                have cu0 := hclU k _ (U32_at hu)
                obtain rfl : u = up := by have := HUP.out; rw [hu] at this; exact this
                go_wp2_with fail
                go_meet
                exact ⟨rfl, rfl⟩
              · have d2 : decide ((k : Int) < (nu : Int)) = false := decide_eq_false (by omega)
                obtain rfl : 1 = up := by
                  have := HUP.out
                  rw [List.getElem?_eq_none (by have := HUN.out; simp [U32] at this; omega)] at this
                  exact this
                go_wp2_with fail
                go_meet
                exact ⟨rfl, rfl⟩
            case rest =>
              obtain ⟨rfl, rfl⟩ := hcut
              clear p2
              as_aux_lemma =>
                have q0 := K7.out.cellV (i := 0) (v := .map mk) rfl
                have q1 := K7.out.cellV (i := 1) (v := .map mu) rfl
                have e0 := K15.out.cellV (i := 0) (v := .int .u32 d.id) rfl
                go_wp2_with fail
                with_reducible refine (tadd_any _ ns mk mu nk fk d.id up _ hid hupb HAT.out.tree).mono ?_
                rintro e w4 ⟨⟨v4, mk4, mu4, nk4, fk4, rfl, ht4⟩, hb4⟩
                obtain rfl := ht4.shape
                have HT4 := Lib.hid ht4
                clear q0 q1 e0 ht4
                replace HAT := Lib.hid (HAT.out.below hb4)
                replace HB := Lib.hid (bstep HB.out hb4)
                replace K1 := Lib.hid (K1.out.belowS hb4)
                replace K2 := Lib.hid (K2.out.belowS hb4)
                replace K3 := Lib.hid (K3.out.belowS hb4)
                replace K7 := Lib.hid (K7.out.belowS hb4)
                replace K10 := Lib.hid (K10.out.belowS hb4)
                replace K15 := Lib.hid (K15.out.belowS hb4)
                clear hb4
                go_upto_region 14 with fail
                have hba : Below w4.heap.size w4 (w4.alloc (.cells #[.map mk4, .map mu4] 35)) := bal (bre w4) (.cells #[.map mk4, .map mu4] 35)
                have xHAT := HAT.out.below hba
                have xHB := bstep HB.out hba
                have xK1 := K1.out.belowS hba
                have xK2 := K2.out.belowS hba
                have xK3 := K3.out.belowS hba
                have xK7 := K7.out.belowS hba
                have xK10 := K10.out.belowS hba
                have xK15 := K15.out.belowS hba
                have xHT4 := HT4.out.below hba
                have xK17 := Blk.new w4 35 #[.map mk4, .map mu4]
                obtain ⟨WB, hWB⟩ : ∃ WB, w4.alloc (.cells #[.map mk4, .map mu4] 35) = WB := ⟨_, rfl⟩
                rw [hWB] at xHAT xHB xK1 xK2 xK3 xK7 xK10 xK15 xHT4 xK17 ⊢
                replace HAT := Lib.hid xHAT
                replace HB := Lib.hid xHB
                replace K1 := Lib.hid xK1
                replace K2 := Lib.hid xK2
                replace K3 := Lib.hid xK3
                replace K7 := Lib.hid xK7
                replace K10 := Lib.hid xK10
                replace K15 := Lib.hid xK15
                replace HT4 := Lib.hid xHT4
                have K17 := Lib.hid xK17
                clear hba hWB xHAT xHB xK1 xK2 xK3 xK7 xK10 xK15 xHT4 xK17
                obtain ⟨ac, hac⟩ : ∃ ac, addC ns d.id up = ac := ⟨_, rfl⟩
                rw [hac]
                have HAC := Lib.hid hac
                clear hac
                go_upto_if 82 with fail
                go_cut [9] (fun s9 wx => ∃ (An' : Option Addr) (nn' cn' : Nat) (nk' : Nat) (mk' mu' : Option Nat) (fk' : Int → Option Value), s9 = .slice An' nn' cn' ∧ BuiltAt wx (.agg #[.map mk', .map mu']) (.agg #[.map mp]) An' nn' Al (addN ns d.id up) n bs l nk' mk' mu' fk' ∧ Blk wx w1.heap.size 35 #[.map mk', .map mu'] ∧ Blk wx w2.heap.size 38 #[.map mp] ∧ Blk wx w.heap.size 25 #[.int .i64 W, .int .i64 H, .slice U nu cu, .slice (some ⟨b, off, none⟩) nl cl] ∧ Blk wx (w.heap.size + 1) 35 #[.map none, .map none] ∧ Blk wx (w.heap.size + 1 + 1) 38 #[.map none] ∧ Blk wx wr.heap.size 79 #[.int .u32 d.id, .int .i64 d.b.X, .int .i64 d.b.Y, .int .i64 d.b.W, .int .i64 d.b.H, .bool d.b.M, .int .i64 d.b.G, .int .i64 d.b.B, .bool d.b.S, .slice d.b.A d.b.n d.b.c] ∧ Below w.heap.size w wx)
                case first =>
                  by_cases hz : ac = 0
                  ·
                    have dz : (ac == 0) = true := by simp [hz]
                    have HZ := Lib.hid hz
                    clear hz
                    have s0 := K17.out.cellV (i := 0) (v := .map mk4) rfl
                    have s1 := K17.out.cellV (i := 1) (v := .map mu4) rfl
                    have q0 := K7.out.cellV (i := 0) (v := .map mk) rfl
                    have q1 := K7.out.cellV (i := 1) (v := .map mu) rfl
                    have f0 := K7.out.frozen 0
                    have f1 := K7.out.frozen 1
                    have l7 := K7.out.lt
                    go_upto_region 16 with fail
                    clear s0 s1 q0 q1 f0 f1 l7
                    have hle : w.heap.size ≤ w1.heap.size := by have := L3.out; omega
                    have t7 := (K7.out.set_ 0 (.map mk4)).set_ 1 (.map mu4)
                    have tt := (HT4.out.setBlk K7.out (maps_no _ _) 0 (.map mk4)).setBlk (K7.out.set_ 0 (.map mk4)) (maps_no _ _) 1 (.map mu4)
                    have ta := (HAT.out.setBlk K7.out (maps_no _ _) (maps_noI _ _) 0 (.map mk4)).setBlk (K7.out.set_ 0 (.map mk4)) (maps_no _ _) (maps_noI _ _) 1 (.map mu4)
                    have tb := bset (p := ⟨w1.heap.size, 1, none⟩) (bset (p := ⟨w1.heap.size, 0, none⟩) HB.out hle (.map mk4)) hle (.map mu4)
                    have t1 := (K1.out.far (p := ⟨w1.heap.size, 0, none⟩) (by show _ ≠ _; have := L3.out; simp only; omega) (.map mk4)).far (p := ⟨w1.heap.size, 1, none⟩) (by show _ ≠ _; have := L3.out; simp only; omega) (.map mu4)
                    have t2 := (K2.out.far (p := ⟨w1.heap.size, 0, none⟩) (by show _ ≠ _; have := L3.out; simp only; omega) (.map mk4)).far (p := ⟨w1.heap.size, 1, none⟩) (by show _ ≠ _; have := L3.out; simp only; omega) (.map mu4)
                    have t3 := (K3.out.far (p := ⟨w1.heap.size, 0, none⟩) (by show _ ≠ _; have := L3.out; simp only; omega) (.map mk4)).far (p := ⟨w1.heap.size, 1, none⟩) (by show _ ≠ _; have := L3.out; simp only; omega) (.map mu4)
                    have t10 := (K10.out.far (p := ⟨w1.heap.size, 0, none⟩) (by show _ ≠ _; have := L7.out; simp only; omega) (.map mk4)).far (p := ⟨w1.heap.size, 1, none⟩) (by show _ ≠ _; have := L7.out; simp only; omega) (.map mu4)
                    have t15 := (K15.out.far (p := ⟨w1.heap.size, 0, none⟩) (by show _ ≠ _; have := HWR.out; simp only; omega) (.map mk4)).far (p := ⟨w1.heap.size, 1, none⟩) (by show _ ≠ _; have := HWR.out; simp only; omega) (.map mu4)
                    obtain ⟨WC, hWC⟩ : ∃ WC, (WB.setCell ⟨w1.heap.size, 0, none⟩ (.map mk4)).setCell ⟨w1.heap.size, 1, none⟩ (.map mu4) = WC := ⟨_, rfl⟩
                    rw [hWC] at t7 tt ta tb t1 t2 t3 t10 t15 ⊢
                    replace K7 := Lib.hid (show Blk WC w1.heap.size 35 #[.map mk4, .map mu4] from t7)
                    replace HT4 := Lib.hid tt
                    replace HAT := Lib.hid ta
                    replace HB := Lib.hid tb
                    replace K1 := Lib.hid t1
                    replace K2 := Lib.hid t2
                    replace K3 := Lib.hid t3
                    replace K10 := Lib.hid t10
                    replace K15 := Lib.hid t15
                    clear t7 tt ta tb t1 t2 t3 t10 t15 hWC K17
                    have e0 := K15.out.cellV (i := 0) (v := .int .u32 d.id) rfl
                    have hnn : nn ≤ 1000 := by have h1 := HAT.out.nodes.1; have h2 := HAT.out.tree.few; omega
                    go_wp2_with fail
                    with_reducible refine (dadd_any An nn cn ns d.id up _ hnn hid HAT.out.nodes).mono ?_
                    rintro e w5 ⟨A5, n5, c5, rfl, hr5, hb5⟩
                    have HR5 := Lib.hid hr5
                    replace HT4 := Lib.hid (HT4.out.below hb5)
                    clear e0 hr5
                    replace HAT := Lib.hid (HAT.out.below hb5)
                    replace HB := Lib.hid (bstep HB.out hb5)
                    replace K1 := Lib.hid (K1.out.belowS hb5)
                    replace K2 := Lib.hid (K2.out.belowS hb5)
                    replace K3 := Lib.hid (K3.out.belowS hb5)
                    replace K7 := Lib.hid (K7.out.belowS hb5)
                    replace K10 := Lib.hid (K10.out.belowS hb5)
                    replace K15 := Lib.hid (K15.out.belowS hb5)
                    clear hb5
                    go_wp2_with fail
                    go_meet
                    exact ⟨A5, n5, c5, nk4, mk4, mu4, fk4, rfl, ⟨HT4.out, addN_ok HAT.out.tok _ _, HR5.out, HAT.out.place, HAT.out.rel, HAT.out.list⟩, K7.out, K10.out, K1.out, K2.out, K3.out, K15.out, HB.out⟩
                  ·
                    have dz : (ac == 0) = false := by simp [hz]
                    have han : addN ns d.id up = ns := by unfold addN; rw [HAC.out, if_neg hz]
                    have HAN := Lib.hid han
                    clear hz han
                    go_wp2_with fail
                    go_meet
                    exact ⟨An, nn, cn, nk, mk, mu, fk, rfl, by rw [HAN.out]; exact HAT.out, K7.out, K10.out, K1.out, K2.out, K3.out, K15.out, HB.out⟩
                case rest =>
                  obtain ⟨Ax, nx, cx, nkx, mkx, mux, fkx, rfl, hat, h7, h10, h1, h2, h3, h15, hb⟩ := hcut
                  as_aux_lemma =>
                    obtain ⟨nsx, hnsx⟩ : ∃ nsx, addN ns d.id up = nsx := ⟨_, rfl⟩
                    rw [hnsx] at hat
                    replace HAT := Lib.hid hat
                    replace HB := Lib.hid hb
                    replace K1 := Lib.hid h1
                    replace K2 := Lib.hid h2
                    replace K3 := Lib.hid h3
                    replace K7 := Lib.hid h7
                    replace K10 := Lib.hid h10
                    replace K15 := Lib.hid h15
                    clear hat hb h1 h2 h3 h7 h10 h15 HT4 K17 HAC hnsx
                    go_upto_region 17 with fail
                    have HSHc := Lib.hid (HSH.out.below HB.out)
                    have hn1000 : n ≤ 1000 := by omega
                    have HZ0 := Lib.hid (show n = 0 → bs d.id = none from fun h0 => HAT.out.rel.non _ (fun d' hd' => by
                      have hl0 : l = [] := List.eq_nil_of_length_eq_zero (by rw [HAT.out.rel.len, h0])
                      rw [hl0] at hd'
                      cases hd'))
                    have HBW := Lib.hid (show Below wc.heap.size wc wc.drew from (bre wc).drew)
                    go_cut [19, 20] (fun s19 s20 wx => ∃ (g19 : Nat) (bb : BX) (mp5 : Option Nat), s19 = .pointer (some ⟨g19, 0, none⟩) ∧ s20 = .int .i64 (setC bs n d.id bb) ∧ Blk wx g19 38 #[.map mp5] ∧ PlaceIs wx (.agg #[.map mp5]) (setN bs n d.id bb) (setB bs n d.id bb) ∧ SmD wx bb d ∧ Below wc.heap.size wc wx)
                    case first =>
                      refine wp_region_noPanic ?_
                      refine wp_region_held_drew (S := (fun w' => w'.cell? ⟨w2.heap.size, 0, none⟩ = some (.map mp) ∧ w'.cell? ⟨wr.heap.size, 0, none⟩ = some (.int .u32 d.id) ∧ w'.cell? ⟨wr.heap.size, 1, none⟩ = some (.int .i64 d.b.X) ∧ w'.cell? ⟨wr.heap.size, 2, none⟩ = some (.int .i64 d.b.Y) ∧ w'.cell? ⟨wr.heap.size, 3, none⟩ = some (.int .i64 d.b.W) ∧ w'.cell? ⟨wr.heap.size, 4, none⟩ = some (.int .i64 d.b.H) ∧ w'.cell? ⟨wr.heap.size, 5, none⟩ = some (.bool d.b.M) ∧ w'.cell? ⟨wr.heap.size, 6, none⟩ = some (.int .i64 d.b.G) ∧ w'.cell? ⟨wr.heap.size, 7, none⟩ = some (.int .i64 d.b.B) ∧ w'.cell? ⟨wr.heap.size, 8, none⟩ = some (.bool d.b.S) ∧ w'.cell? ⟨wr.heap.size, 9, none⟩ = some (.slice d.b.A d.b.n d.b.c))) (by kernel_rfl) ?_ (fun hHeld => ?_)
                      · (try dsimp only)
                        exact ⟨(K10.out.belowS HBW.out).cellV (i := 0) rfl, (K15.out.belowS HBW.out).cellV (i := 0) rfl, (K15.out.belowS HBW.out).cellV (i := 1) rfl, (K15.out.belowS HBW.out).cellV (i := 2) rfl, (K15.out.belowS HBW.out).cellV (i := 3) rfl, (K15.out.belowS HBW.out).cellV (i := 4) rfl, (K15.out.belowS HBW.out).cellV (i := 5) rfl, (K15.out.belowS HBW.out).cellV (i := 6) rfl, (K15.out.belowS HBW.out).cellV (i := 7) rfl, (K15.out.belowS HBW.out).cellV (i := 8) rfl, (K15.out.belowS HBW.out).cellV (i := 9) rfl⟩
                      refine Tr.take_at 0 93 (.agg #[.map mp]) rfl rfl (by kernel_rfl) (by kernel_rfl) (by kernel_rfl) (fun _ _ _ h => h) (Or.inl ⟨by rfl, ?_⟩) (by assumption) ?_
                      · intro W0 hSw
                        (try dsimp only at hSw)
                        go_simp
                      simp only [List.set_cons_zero, List.set_cons_succ]
                      refine Tr.take_at 1 94 (.pointer (some ⟨wr.heap.size, 0, none⟩)) rfl rfl (by kernel_rfl) (by kernel_rfl) (by kernel_rfl) (fun _ _ _ h => h) (Or.inl ⟨by rfl, ?_⟩) (by assumption) ?_
                      · intro W0 hSw
                        (try dsimp only at hSw)
                        go_simp
                      simp only [List.set_cons_zero, List.set_cons_succ]
                      refine Tr.take_at 2 95 (.int .u32 d.id) rfl rfl (by kernel_rfl) (by kernel_rfl) (by kernel_rfl) (fun _ _ _ h => h) (Or.inl ⟨by rfl, ?_⟩) (by assumption) ?_
                      · intro W0 hSw
                        (try dsimp only at hSw)
                        go_simp
                      simp only [List.set_cons_zero, List.set_cons_succ]
                      refine Tr.take_at 3 96 (.agg #[.int .u32 d.id, .int .i64 d.b.X, .int .i64 d.b.Y, .int .i64 d.b.W, .int .i64 d.b.H, .bool d.b.M, .int .i64 d.b.G, .int .i64 d.b.B, .bool d.b.S, .slice d.b.A d.b.n d.b.c]) rfl rfl (by kernel_rfl) (by kernel_rfl) (by kernel_rfl) (fun _ _ _ h => h) (Or.inl ⟨by rfl, ?_⟩) (by assumption) ?_
                      · intro W0 hSw
                        (try dsimp only at hSw)
                        go_simp
                      simp only [List.set_cons_zero, List.set_cons_succ]
                      refine wpAnyH_ready (rs := [4, 9]) (by kernel_rfl) (by simp) ?_
                      refine AllReadyH.cons rfl (fun K hK => ?_) (AllReadyH.cons rfl (fun K hK => ?_) AllReadyH.nil)
                      ·
                        go_simp
                        refine (boxof_any d _ (HSHc.out.below HBW.out) (by omega) HSM.out).mono ?_
                        rintro e wA ⟨bb, rfl, hsmA, hbA⟩
                        have HSA := Lib.hid hsmA
                        replace HBW := Lib.hid (bstep HBW.out hbA)
                        clear hsmA hbA
                        go_simp
                        refine hK.out _ _ ?_ (fun hHeld => ?_)
                        · (try dsimp only)
                          exact ⟨(K10.out.belowS HBW.out).cellV (i := 0) rfl, (K15.out.belowS HBW.out).cellV (i := 0) rfl, (K15.out.belowS HBW.out).cellV (i := 1) rfl, (K15.out.belowS HBW.out).cellV (i := 2) rfl, (K15.out.belowS HBW.out).cellV (i := 3) rfl, (K15.out.belowS HBW.out).cellV (i := 4) rfl, (K15.out.belowS HBW.out).cellV (i := 5) rfl, (K15.out.belowS HBW.out).cellV (i := 6) rfl, (K15.out.belowS HBW.out).cellV (i := 7) rfl, (K15.out.belowS HBW.out).cellV (i := 8) rfl, (K15.out.belowS HBW.out).cellV (i := 9) rfl⟩
                        clear hK K
                        refine wpAnyH_ready (rs := [5, 9]) (by kernel_rfl) (by simp) ?_
                        refine AllReadyH.cons rfl (fun K hK => ?_) (AllReadyH.cons rfl (fun K hK => ?_) AllReadyH.nil)
                        ·
                          go_simp
                          refine (pset_any (.agg #[.map mp]) n bs d.id bb _ hid hn1000 (HAT.out.place.below HBW.out) HZ0.out).mono ?_
                          rintro e wB ⟨pv5, rfl, hp5, hbB⟩
                          obtain ⟨mp5, rfl, hm5⟩ := hp5
                          have HP5 := Lib.hid (show PlaceIs wB (.agg #[.map mp5]) (setN bs n d.id bb) (setB bs n d.id bb) from ⟨mp5, rfl, hm5⟩)
                          replace HSA := Lib.hid (HSA.out.below hbB)
                          replace HBW := Lib.hid (bstep HBW.out hbB)
                          clear hm5 hbB
                          go_simp
                          refine hK.out _ _ ?_ (fun hHeld => ?_)
                          · (try dsimp only)
                            exact ⟨(K10.out.belowS HBW.out).cellV (i := 0) rfl, (K15.out.belowS HBW.out).cellV (i := 0) rfl, (K15.out.belowS HBW.out).cellV (i := 1) rfl, (K15.out.belowS HBW.out).cellV (i := 2) rfl, (K15.out.belowS HBW.out).cellV (i := 3) rfl, (K15.out.belowS HBW.out).cellV (i := 4) rfl, (K15.out.belowS HBW.out).cellV (i := 5) rfl, (K15.out.belowS HBW.out).cellV (i := 6) rfl, (K15.out.belowS HBW.out).cellV (i := 7) rfl, (K15.out.belowS HBW.out).cellV (i := 8) rfl, (K15.out.belowS HBW.out).cellV (i := 9) rfl⟩
                          clear hK K
                          refine Tr.take_at 6 92 (.tuple #[.agg #[.map mp5], .int .i64 (setC bs n d.id bb)]) rfl rfl (by kernel_rfl) (by kernel_rfl) (by kernel_rfl) (fun _ _ _ h => h) (Or.inl ⟨by rfl, ?_⟩) (by assumption) ?_
                          · intro W0 hSw
                            (try dsimp only at hSw)
                            go_simp
                          simp only [List.set_cons_zero, List.set_cons_succ]
                          refine Tr.take_at 7 99 (.agg #[.map mp5]) rfl rfl (by kernel_rfl) (by kernel_rfl) (by kernel_rfl) (fun _ _ _ h => h) (Or.inl ⟨by rfl, ?_⟩) (by assumption) ?_
                          · intro W0 hSw
                            (try dsimp only at hSw)
                            go_simp
                          simp only [List.set_cons_zero, List.set_cons_succ]
                          refine Tr.take_at 8 100 (.int .i64 (setC bs n d.id bb)) rfl rfl (by kernel_rfl) (by kernel_rfl) (by kernel_rfl) (fun _ _ _ h => h) (Or.inl ⟨by rfl, ?_⟩) (by assumption) ?_
                          · intro W0 hSw
                            (try dsimp only at hSw)
                            go_simp
                          simp only [List.set_cons_zero, List.set_cons_succ]
                          refine wpAnyH_ready (rs := [9]) (by kernel_rfl) (by simp) ?_
                          refine AllReadyH.cons rfl (fun K hK => ?_) AllReadyH.nil
                          go_simp
                          have K19 := Lib.hid (show Blk (wB.alloc (.cells #[.map none] 38)) (wB.heap.size) 38 #[.map none] from Blk.new wB 38 #[.map none])
                          have HL19 := Lib.hid (show wc.heap.size ≤ wB.heap.size from HBW.out.size)
                          have HP5o := HP5
                          have HSAo := HSA
                          have HBWo := HBW
                          replace HSA := Lib.hid (HSA.out.below (bal (bre wB) (.cells #[.map none] 38)))
                          replace HP5 := Lib.hid (HP5.out.below (bal (bre wB) (.cells #[.map none] 38)))
                          replace HBW := Lib.hid (bal HBW.out (.cells #[.map none] 38))
                          refine hK.out _ _ ?_ (fun hHeld => ?_)
                          · (try dsimp only)
                            exact ⟨(K10.out.belowS HBW.out).cellV (i := 0) rfl, (K15.out.belowS HBW.out).cellV (i := 0) rfl, (K15.out.belowS HBW.out).cellV (i := 1) rfl, (K15.out.belowS HBW.out).cellV (i := 2) rfl, (K15.out.belowS HBW.out).cellV (i := 3) rfl, (K15.out.belowS HBW.out).cellV (i := 4) rfl, (K15.out.belowS HBW.out).cellV (i := 5) rfl, (K15.out.belowS HBW.out).cellV (i := 6) rfl, (K15.out.belowS HBW.out).cellV (i := 7) rfl, (K15.out.belowS HBW.out).cellV (i := 8) rfl, (K15.out.belowS HBW.out).cellV (i := 9) rfl⟩
                          clear hK K
                          refine wpAnyH_ready (rs := [10]) (by kernel_rfl) (by simp) ?_
                          refine AllReadyH.cons rfl (fun K hK => ?_) AllReadyH.nil
                          have s0 := K19.out.cellV (i := 0) (v := .map none) rfl
                          have f0 := K19.out.frozen 0
                          have l0 := K19.out.lt
                          go_simp
                          replace HP5 := Lib.hid (HP5o.out.below (bal (bre wB) (.cells #[.map mp5] 38)))
                          replace HSA := Lib.hid (HSAo.out.below (bal (bre wB) (.cells #[.map mp5] 38)))
                          replace HBW := Lib.hid (bal HBWo.out (.cells #[.map mp5] 38))
                          replace K19 := Lib.hid (Blk.new wB 38 #[.map mp5])
                          clear s0 f0 l0 HP5o HSAo HBWo
                          refine hK.out _ _ ?_ (fun hHeld => ?_)
                          · (try dsimp only)
                            exact ⟨(K10.out.belowS HBW.out).cellV (i := 0) rfl, (K15.out.belowS HBW.out).cellV (i := 0) rfl, (K15.out.belowS HBW.out).cellV (i := 1) rfl, (K15.out.belowS HBW.out).cellV (i := 2) rfl, (K15.out.belowS HBW.out).cellV (i := 3) rfl, (K15.out.belowS HBW.out).cellV (i := 4) rfl, (K15.out.belowS HBW.out).cellV (i := 5) rfl, (K15.out.belowS HBW.out).cellV (i := 6) rfl, (K15.out.belowS HBW.out).cellV (i := 7) rfl, (K15.out.belowS HBW.out).cellV (i := 8) rfl, (K15.out.belowS HBW.out).cellV (i := 9) rfl⟩
                          clear hK K
                          refine Tr.take_at 11 20 (.int .i64 (setC bs n d.id bb)) rfl rfl (by kernel_rfl) (by kernel_rfl) (by kernel_rfl) (fun _ _ _ h => h) (Or.inl ⟨by rfl, ?_⟩) (by assumption) ?_
                          · intro W0 hSw
                            (try dsimp only at hSw)
                            go_simp
                          simp only [List.set_cons_zero, List.set_cons_succ]
                          refine wpAnyH_done (by kernel_rfl) ?_ _
                          refine NoPanic.normal ?_
                          go_wp2_with fail
                          go_meet
                          exact ⟨_, bb, mp5, rfl, rfl, K19.out, HP5.out, HSA.out, HBW.out⟩
                        ·
                          go_simp
                          have K19 := Lib.hid (show Blk (wA.alloc (.cells #[.map none] 38)) (wA.heap.size) 38 #[.map none] from Blk.new wA 38 #[.map none])
                          have HL19 := Lib.hid (show wc.heap.size ≤ wA.heap.size from HBW.out.size)
                          replace HSA := Lib.hid (HSA.out.below (bal (bre wA) (.cells #[.map none] 38)))
                          replace HBW := Lib.hid (bal HBW.out (.cells #[.map none] 38))
                          refine hK.out _ _ ?_ (fun hHeld => ?_)
                          · (try dsimp only)
                            exact ⟨(K10.out.belowS HBW.out).cellV (i := 0) rfl, (K15.out.belowS HBW.out).cellV (i := 0) rfl, (K15.out.belowS HBW.out).cellV (i := 1) rfl, (K15.out.belowS HBW.out).cellV (i := 2) rfl, (K15.out.belowS HBW.out).cellV (i := 3) rfl, (K15.out.belowS HBW.out).cellV (i := 4) rfl, (K15.out.belowS HBW.out).cellV (i := 5) rfl, (K15.out.belowS HBW.out).cellV (i := 6) rfl, (K15.out.belowS HBW.out).cellV (i := 7) rfl, (K15.out.belowS HBW.out).cellV (i := 8) rfl, (K15.out.belowS HBW.out).cellV (i := 9) rfl⟩
                          clear hK K
                          refine wpAnyH_ready (rs := [5]) (by kernel_rfl) (by simp) ?_
                          refine AllReadyH.cons rfl (fun K hK => ?_) AllReadyH.nil
                          go_simp
                          refine (pset_any (.agg #[.map mp]) n bs d.id bb _ hid hn1000 (HAT.out.place.below HBW.out) HZ0.out).mono ?_
                          rintro e wB ⟨pv5, rfl, hp5, hbB⟩
                          obtain ⟨mp5, rfl, hm5⟩ := hp5
                          have HP5 := Lib.hid (show PlaceIs wB (.agg #[.map mp5]) (setN bs n d.id bb) (setB bs n d.id bb) from ⟨mp5, rfl, hm5⟩)
                          replace HSA := Lib.hid (HSA.out.below hbB)
                          replace HBW := Lib.hid (bstep HBW.out hbB)
                          replace K19 := Lib.hid (K19.out.belowS hbB)
                          clear hm5 hbB
                          go_simp
                          refine hK.out _ _ ?_ (fun hHeld => ?_)
                          · (try dsimp only)
                            exact ⟨(K10.out.belowS HBW.out).cellV (i := 0) rfl, (K15.out.belowS HBW.out).cellV (i := 0) rfl, (K15.out.belowS HBW.out).cellV (i := 1) rfl, (K15.out.belowS HBW.out).cellV (i := 2) rfl, (K15.out.belowS HBW.out).cellV (i := 3) rfl, (K15.out.belowS HBW.out).cellV (i := 4) rfl, (K15.out.belowS HBW.out).cellV (i := 5) rfl, (K15.out.belowS HBW.out).cellV (i := 6) rfl, (K15.out.belowS HBW.out).cellV (i := 7) rfl, (K15.out.belowS HBW.out).cellV (i := 8) rfl, (K15.out.belowS HBW.out).cellV (i := 9) rfl⟩
                          clear hK K
                          refine Tr.take_at 6 92 (.tuple #[.agg #[.map mp5], .int .i64 (setC bs n d.id bb)]) rfl rfl (by kernel_rfl) (by kernel_rfl) (by kernel_rfl) (fun _ _ _ h => h) (Or.inl ⟨by rfl, ?_⟩) (by assumption) ?_
                          · intro W0 hSw
                            (try dsimp only at hSw)
                            go_simp
                          simp only [List.set_cons_zero, List.set_cons_succ]
                          refine Tr.take_at 7 99 (.agg #[.map mp5]) rfl rfl (by kernel_rfl) (by kernel_rfl) (by kernel_rfl) (fun _ _ _ h => h) (Or.inl ⟨by rfl, ?_⟩) (by assumption) ?_
                          · intro W0 hSw
                            (try dsimp only at hSw)
                            go_simp
                          simp only [List.set_cons_zero, List.set_cons_succ]
                          refine Tr.take_at 8 100 (.int .i64 (setC bs n d.id bb)) rfl rfl (by kernel_rfl) (by kernel_rfl) (by kernel_rfl) (fun _ _ _ h => h) (Or.inl ⟨by rfl, ?_⟩) (by assumption) ?_
                          · intro W0 hSw
                            (try dsimp only at hSw)
                            go_simp
                          simp only [List.set_cons_zero, List.set_cons_succ]
                          refine wpAnyH_ready (rs := [10]) (by kernel_rfl) (by simp) ?_
                          refine AllReadyH.cons rfl (fun K hK => ?_) AllReadyH.nil
                          have s0 := K19.out.cellV (i := 0) (v := .map none) rfl
                          have f0 := K19.out.frozen 0
                          have l0 := K19.out.lt
                          go_simp
                          replace HP5 := Lib.hid (HP5.out.setBlk K19.out 0 (.map mp5))
                          replace HSA := Lib.hid (HSA.out.setBlk K19.out (map_noI _) 0 (.map mp5))
                          replace HBW := Lib.hid (bset (p := ⟨wA.heap.size, 0, none⟩) HBW.out HL19.out (.map mp5))
                          replace K19 := Lib.hid (K19.out.set_ 0 (.map mp5))
                          clear s0 f0 l0
                          refine hK.out _ _ ?_ (fun hHeld => ?_)
                          · (try dsimp only)
                            exact ⟨(K10.out.belowS HBW.out).cellV (i := 0) rfl, (K15.out.belowS HBW.out).cellV (i := 0) rfl, (K15.out.belowS HBW.out).cellV (i := 1) rfl, (K15.out.belowS HBW.out).cellV (i := 2) rfl, (K15.out.belowS HBW.out).cellV (i := 3) rfl, (K15.out.belowS HBW.out).cellV (i := 4) rfl, (K15.out.belowS HBW.out).cellV (i := 5) rfl, (K15.out.belowS HBW.out).cellV (i := 6) rfl, (K15.out.belowS HBW.out).cellV (i := 7) rfl, (K15.out.belowS HBW.out).cellV (i := 8) rfl, (K15.out.belowS HBW.out).cellV (i := 9) rfl⟩
                          clear hK K
                          refine Tr.take_at 11 20 (.int .i64 (setC bs n d.id bb)) rfl rfl (by kernel_rfl) (by kernel_rfl) (by kernel_rfl) (fun _ _ _ h => h) (Or.inl ⟨by rfl, ?_⟩) (by assumption) ?_
                          · intro W0 hSw
                            (try dsimp only at hSw)
                            go_simp
                          simp only [List.set_cons_zero, List.set_cons_succ]
                          refine wpAnyH_done (by kernel_rfl) ?_ _
                          refine NoPanic.normal ?_
                          go_wp2_with fail
                          go_meet
                          exact ⟨_, bb, mp5, rfl, rfl, K19.out, HP5.out, HSA.out, HBW.out⟩
                      ·
                        go_simp
                        have K19 := Lib.hid (show Blk (wc.drew.alloc (.cells #[.map none] 38)) (wc.heap.size) 38 #[.map none] from Blk.new wc.drew 38 #[.map none])
                        have HL19 := Lib.hid (show wc.heap.size ≤ wc.heap.size from HBW.out.size)
                        replace HBW := Lib.hid (bal HBW.out (.cells #[.map none] 38))
                        refine hK.out _ _ ?_ (fun hHeld => ?_)
                        · (try dsimp only)
                          exact ⟨(K10.out.belowS HBW.out).cellV (i := 0) rfl, (K15.out.belowS HBW.out).cellV (i := 0) rfl, (K15.out.belowS HBW.out).cellV (i := 1) rfl, (K15.out.belowS HBW.out).cellV (i := 2) rfl, (K15.out.belowS HBW.out).cellV (i := 3) rfl, (K15.out.belowS HBW.out).cellV (i := 4) rfl, (K15.out.belowS HBW.out).cellV (i := 5) rfl, (K15.out.belowS HBW.out).cellV (i := 6) rfl, (K15.out.belowS HBW.out).cellV (i := 7) rfl, (K15.out.belowS HBW.out).cellV (i := 8) rfl, (K15.out.belowS HBW.out).cellV (i := 9) rfl⟩
                        clear hK K
                        refine wpAnyH_ready (rs := [4]) (by kernel_rfl) (by simp) ?_
                        refine AllReadyH.cons rfl (fun K hK => ?_) AllReadyH.nil
                        go_simp
                        refine (boxof_any d _ (HSHc.out.below HBW.out) (by omega) HSM.out).mono ?_
                        rintro e wA ⟨bb, rfl, hsmA, hbA⟩
                        have HSA := Lib.hid hsmA
                        replace HBW := Lib.hid (bstep HBW.out hbA)
                        replace K19 := Lib.hid (K19.out.belowS hbA)
                        clear hsmA hbA
                        go_simp
                        refine hK.out _ _ ?_ (fun hHeld => ?_)
                        · (try dsimp only)
                          exact ⟨(K10.out.belowS HBW.out).cellV (i := 0) rfl, (K15.out.belowS HBW.out).cellV (i := 0) rfl, (K15.out.belowS HBW.out).cellV (i := 1) rfl, (K15.out.belowS HBW.out).cellV (i := 2) rfl, (K15.out.belowS HBW.out).cellV (i := 3) rfl, (K15.out.belowS HBW.out).cellV (i := 4) rfl, (K15.out.belowS HBW.out).cellV (i := 5) rfl, (K15.out.belowS HBW.out).cellV (i := 6) rfl, (K15.out.belowS HBW.out).cellV (i := 7) rfl, (K15.out.belowS HBW.out).cellV (i := 8) rfl, (K15.out.belowS HBW.out).cellV (i := 9) rfl⟩
                        clear hK K
                        refine wpAnyH_ready (rs := [5]) (by kernel_rfl) (by simp) ?_
                        refine AllReadyH.cons rfl (fun K hK => ?_) AllReadyH.nil
                        go_simp
                        refine (pset_any (.agg #[.map mp]) n bs d.id bb _ hid hn1000 (HAT.out.place.below HBW.out) HZ0.out).mono ?_
                        rintro e wB ⟨pv5, rfl, hp5, hbB⟩
                        obtain ⟨mp5, rfl, hm5⟩ := hp5
                        have HP5 := Lib.hid (show PlaceIs wB (.agg #[.map mp5]) (setN bs n d.id bb) (setB bs n d.id bb) from ⟨mp5, rfl, hm5⟩)
                        replace HSA := Lib.hid (HSA.out.below hbB)
                        replace HBW := Lib.hid (bstep HBW.out hbB)
                        replace K19 := Lib.hid (K19.out.belowS hbB)
                        clear hm5 hbB
                        go_simp
                        refine hK.out _ _ ?_ (fun hHeld => ?_)
                        · (try dsimp only)
                          exact ⟨(K10.out.belowS HBW.out).cellV (i := 0) rfl, (K15.out.belowS HBW.out).cellV (i := 0) rfl, (K15.out.belowS HBW.out).cellV (i := 1) rfl, (K15.out.belowS HBW.out).cellV (i := 2) rfl, (K15.out.belowS HBW.out).cellV (i := 3) rfl, (K15.out.belowS HBW.out).cellV (i := 4) rfl, (K15.out.belowS HBW.out).cellV (i := 5) rfl, (K15.out.belowS HBW.out).cellV (i := 6) rfl, (K15.out.belowS HBW.out).cellV (i := 7) rfl, (K15.out.belowS HBW.out).cellV (i := 8) rfl, (K15.out.belowS HBW.out).cellV (i := 9) rfl⟩
                        clear hK K
                        refine Tr.take_at 6 92 (.tuple #[.agg #[.map mp5], .int .i64 (setC bs n d.id bb)]) rfl rfl (by kernel_rfl) (by kernel_rfl) (by kernel_rfl) (fun _ _ _ h => h) (Or.inl ⟨by rfl, ?_⟩) (by assumption) ?_
                        · intro W0 hSw
                          (try dsimp only at hSw)
                          go_simp
                        simp only [List.set_cons_zero, List.set_cons_succ]
                        refine Tr.take_at 7 99 (.agg #[.map mp5]) rfl rfl (by kernel_rfl) (by kernel_rfl) (by kernel_rfl) (fun _ _ _ h => h) (Or.inl ⟨by rfl, ?_⟩) (by assumption) ?_
                        · intro W0 hSw
                          (try dsimp only at hSw)
                          go_simp
                        simp only [List.set_cons_zero, List.set_cons_succ]
                        refine Tr.take_at 8 100 (.int .i64 (setC bs n d.id bb)) rfl rfl (by kernel_rfl) (by kernel_rfl) (by kernel_rfl) (fun _ _ _ h => h) (Or.inl ⟨by rfl, ?_⟩) (by assumption) ?_
                        · intro W0 hSw
                          (try dsimp only at hSw)
                          go_simp
                        simp only [List.set_cons_zero, List.set_cons_succ]
                        refine wpAnyH_ready (rs := [10]) (by kernel_rfl) (by simp) ?_
                        refine AllReadyH.cons rfl (fun K hK => ?_) AllReadyH.nil
                        have s0 := K19.out.cellV (i := 0) (v := .map none) rfl
                        have f0 := K19.out.frozen 0
                        have l0 := K19.out.lt
                        go_simp
                        replace HP5 := Lib.hid (HP5.out.setBlk K19.out 0 (.map mp5))
                        replace HSA := Lib.hid (HSA.out.setBlk K19.out (map_noI _) 0 (.map mp5))
                        replace HBW := Lib.hid (bset (p := ⟨wc.heap.size, 0, none⟩) HBW.out HL19.out (.map mp5))
                        replace K19 := Lib.hid (K19.out.set_ 0 (.map mp5))
                        clear s0 f0 l0
                        refine hK.out _ _ ?_ (fun hHeld => ?_)
                        · (try dsimp only)
                          exact ⟨(K10.out.belowS HBW.out).cellV (i := 0) rfl, (K15.out.belowS HBW.out).cellV (i := 0) rfl, (K15.out.belowS HBW.out).cellV (i := 1) rfl, (K15.out.belowS HBW.out).cellV (i := 2) rfl, (K15.out.belowS HBW.out).cellV (i := 3) rfl, (K15.out.belowS HBW.out).cellV (i := 4) rfl, (K15.out.belowS HBW.out).cellV (i := 5) rfl, (K15.out.belowS HBW.out).cellV (i := 6) rfl, (K15.out.belowS HBW.out).cellV (i := 7) rfl, (K15.out.belowS HBW.out).cellV (i := 8) rfl, (K15.out.belowS HBW.out).cellV (i := 9) rfl⟩
                        clear hK K
                        refine Tr.take_at 11 20 (.int .i64 (setC bs n d.id bb)) rfl rfl (by kernel_rfl) (by kernel_rfl) (by kernel_rfl) (fun _ _ _ h => h) (Or.inl ⟨by rfl, ?_⟩) (by assumption) ?_
                        · intro W0 hSw
                          (try dsimp only at hSw)
                          go_simp
                        simp only [List.set_cons_zero, List.set_cons_succ]
                        refine wpAnyH_done (by kernel_rfl) ?_ _
                        refine NoPanic.normal ?_
                        go_wp2_with fail
                        go_meet
                        exact ⟨_, bb, mp5, rfl, rfl, K19.out, HP5.out, HSA.out, HBW.out⟩
                    case rest =>
                      obtain ⟨g19, bb, mp5, rfl, rfl, k19, hp5, hsa, hbw⟩ := hcut
                      as_aux_lemma =>
                        replace HAT := Lib.hid (HAT.out.below hbw)
                        replace HB := Lib.hid (bstep HB.out hbw)
                        replace K1 := Lib.hid (K1.out.belowS hbw)
                        replace K2 := Lib.hid (K2.out.belowS hbw)
                        replace K3 := Lib.hid (K3.out.belowS hbw)
                        replace K7 := Lib.hid (K7.out.belowS hbw)
                        replace K10 := Lib.hid (K10.out.belowS hbw)
                        replace K15 := Lib.hid (K15.out.belowS hbw)
                        have HSHd := Lib.hid (HSHc.out.below hbw)
                        obtain ⟨cc, hcc⟩ : ∃ cc, setC bs n d.id bb = cc := ⟨_, rfl⟩
                        obtain ⟨n5, hn5⟩ : ∃ n5, setN bs n d.id bb = n5 := ⟨_, rfl⟩
                        obtain ⟨bs5, hbs5⟩ : ∃ bs5, setB bs n d.id bb = bs5 := ⟨_, rfl⟩
                        have hcode := HAT.out.rel.code hsa.1 hsa.empty
                        have hrel5 := HAT.out.rel.set hsa hsa.1 hsa.empty
                        have hle5 := setN_le bs n d.id bb
                        rw [hcc] at hcode ⊢
                        rw [hbs5, hn5] at hrel5
                        rw [hbs5, hn5] at hp5
                        rw [hn5] at hle5
                        have HC := Lib.hid hcode
                        have HREL := Lib.hid hrel5
                        have HP5 := Lib.hid hp5
                        have K19 := Lib.hid k19
                        clear hcode hrel5 hp5 k19 hsa hbw hcc hn5 hbs5 HSHc HBW HZ0
                        have e0 := K15.out.cellV (i := 0) (v := .int .u32 d.id) rfl
                        have e1 := K15.out.cellV (i := 1) (v := .int .i64 d.b.X) rfl
                        have e2 := K15.out.cellV (i := 2) (v := .int .i64 d.b.Y) rfl
                        have e3 := K15.out.cellV (i := 3) (v := .int .i64 d.b.W) rfl
                        have e4 := K15.out.cellV (i := 4) (v := .int .i64 d.b.H) rfl
                        have e5 := K15.out.cellV (i := 5) (v := .bool d.b.M) rfl
                        have e6 := K15.out.cellV (i := 6) (v := .int .i64 d.b.G) rfl
                        have e7 := K15.out.cellV (i := 7) (v := .int .i64 d.b.B) rfl
                        have e8 := K15.out.cellV (i := 8) (v := .bool d.b.S) rfl
                        have e9 := K15.out.cellV (i := 9) (v := .slice d.b.A d.b.n d.b.c) rfl
                        go_wp2_with fail
                        refine (dset_any Al n cq l d _ hid hn1000 HAT.out.list HSHd.out (by omega)).mono ?_
                        rintro e w7 ⟨A7, n7, c7, rfl, hr7, hb7⟩
                        obtain rfl : n7 = n5 := hr7.1.symm.trans HREL.out.len
                        have HR7 := Lib.hid hr7
                        replace HP5 := Lib.hid (HP5.out.below hb7)
                        replace HREL := Lib.hid (HREL.out.mono (fun _ _ hs => hs.below hb7))
                        replace K19 := Lib.hid (K19.out.belowS hb7)
                        clear hr7 e0 e1 e2 e3 e4 e5 e6 e7 e8 e9
                        replace HAT := Lib.hid (HAT.out.below hb7)
                        replace HB := Lib.hid (bstep HB.out hb7)
                        replace K1 := Lib.hid (K1.out.belowS hb7)
                        replace K2 := Lib.hid (K2.out.belowS hb7)
                        replace K3 := Lib.hid (K3.out.belowS hb7)
                        replace K7 := Lib.hid (K7.out.belowS hb7)
                        replace K10 := Lib.hid (K10.out.belowS hb7)
                        replace K15 := Lib.hid (K15.out.belowS hb7)
                        clear hb7 HSHd
                        obtain ⟨dd, hdd⟩ : ∃ dd, setD l d = dd := ⟨_, rfl⟩
                        rw [hdd]
                        have HDD := Lib.hid hdd
                        clear hdd
                        go_upto_if 108 with fail
                        go_cut [13] (fun s13 wx => s13 = .bool true ∧ wx = w7)
                        case first =>
                          have hsd := setD_code l d
                          have hcode := HC.out
                          rw [HDD.out] at hsd hcode
                          rcases hsd with ⟨g1, g2, rfl⟩ | ⟨g1, g2, g3⟩
                          · rw [if_pos ⟨g1, g2⟩] at hcode
                            have HCK := Lib.hid hcode.symm
                            have z1 : (cc != 0) = true := by rw [hcode]; simp [g2]
                            have e0 := K15.out.cellV (i := 0) (v := .int .u32 d.id) rfl
                            clear g1 g2 hcode
                            go_wp2_with (go_at_call 35; refine (check_any _ _ hid).mono ?_; rintro e w' ⟨rfl, rfl⟩; rw [HCK.out])
                            go_meet
                            exact ⟨rfl, rfl⟩
                          · rw [if_neg g1] at hcode
                            have z1 : decide (dd < 0) = false := decide_eq_false (by omega)
                            have z2 : ¬ dd < 0 := by omega
                            subst hcode
                            clear g1 g3
                            go_wp2_with fail
                            go_meet
                            exact ⟨rfl, rfl⟩
                        case rest =>
                          obtain ⟨rfl, rfl⟩ := hcut
                          as_aux_lemma =>
                            have y0 := K19.out.cellV (i := 0) (v := .map mp5) rfl
                            have q0 := K10.out.cellV (i := 0) (v := .map mp) rfl
                            have f0 := K10.out.frozen 0
                            have l0 := K10.out.lt
                            go_wp2_with fail
                            go_roundw
                            case rel =>
                              have hat9 := (show BuiltAt wc (.agg #[.map mkx, .map mux]) (.agg #[.map mp5]) Ax nx A7 nsx n7 bs5 (setL l d) nkx mkx mux fkx from ⟨HAT.out.tree, HAT.out.tok, HAT.out.nodes, HP5.out, HREL.out, HR7.out⟩).setBlk K10.out (map_no _) (map_noI _) 0 (.map mp5)
                              exact ⟨k + 1, Ax, nx, cx, A7, c7, nsx, n7, bs5, setL l d, nkx, mkx, mux, fkx, mp5, by go_num, by omega, rfl, rfl, rfl, hat9, by rw [take_snoc' HDK.out, List.foldl_append, ← HLF.out]; rfl, by omega, K7.out.far (p := ⟨w2.heap.size, 0, none⟩) (by show _ ≠ _; have := L7.out; simp only; omega) _, K10.out.set_ 0 (.map mp5), K1.out.far (p := ⟨w2.heap.size, 0, none⟩) (by show _ ≠ _; have := L7.out; have := L3.out; simp only; omega) _, K2.out.far (p := ⟨w2.heap.size, 0, none⟩) (by show _ ≠ _; have := L7.out; have := L3.out; simp only; omega) _, K3.out.far (p := ⟨w2.heap.size, 0, none⟩) (by show _ ≠ _; have := L7.out; have := L3.out; simp only; omega) _, bset (p := ⟨w2.heap.size, 0, none⟩) HB.out (by have := L7.out; have := L3.out; show w.heap.size ≤ w2.heap.size; omega) _⟩
                            case measure => simp [intOf]; omega
          ·
            obtain rfl : k = nl := by omega
            have k1 : ¬ (k : Int) < (k : Int) := by omega
            have hlf := HLF.out
            rw [List.take_of_length_le (by rw [HLN.out]; exact Nat.le_refl _)] at hlf
            have HLF9 := Lib.hid hlf
            go_upto_region 23 with fail
            clear p3 hlf
            have q0 := K7.out.cellV (i := 0) (v := .map mk) rfl
            have q1 := K7.out.cellV (i := 1) (v := .map mu) rfl
            have q2 := K10.out.cellV (i := 0) (v := .map mp) rfl
            have s0 := K2.out.cellV (i := 0) (v := .map none) rfl
            have s1 := K2.out.cellV (i := 1) (v := .map none) rfl
            have s2 := K3.out.cellV (i := 0) (v := .map none) rfl
            have f0 := K2.out.frozen 0
            have f1 := K2.out.frozen 1
            have f2 := K3.out.frozen 0
            have l0 := K2.out.lt
            have l1 := K3.out.lt
            have l3 := L3.out
            have l7' := L7.out
            have ne1 : w2.heap.size ≠ w.heap.size + 1 := by omega
            have ne2 : w2.heap.size ≠ w.heap.size + 1 + 1 := by omega
            have ne3 : w1.heap.size ≠ w.heap.size + 1 := by omega
            have ne4 : w1.heap.size ≠ w.heap.size + 1 + 1 := by omega
            go_region
            have tk2 := (((K2.out.set_ 0 (.map mk)).set_ 1 (.map mu)).far (p := ⟨w.heap.size + 1 + 1, 0, none⟩) (by show _ ≠ _; simp only; omega) (.map mp)).drewT
            have tk3a := (K3.out.far (p := ⟨w.heap.size + 1, 0, none⟩) (by show _ ≠ _; simp only; omega) (.map mk)).far (p := ⟨w.heap.size + 1, 1, none⟩) (by show _ ≠ _; simp only; omega) (.map mu)
            have tk3 := (tk3a.set_ 0 (.map mp)).drewT
            have tha := (((HAT.out.setBlk K2.out (maps_no _ _) (maps_noI _ _) 0 (.map mk)).setBlk (K2.out.set_ 0 (.map mk)) (cs := #[.map mk, .map none]) (maps_no _ _) (maps_noI _ _) 1 (.map mu)).setBlk tk3a (map_no _) (map_noI _) 0 (.map mp)).below (bre _).drew
            have thb := (bset (p := ⟨w.heap.size + 1 + 1, 0, none⟩) (bset (p := ⟨w.heap.size + 1, 1, none⟩) (bset (p := ⟨w.heap.size + 1, 0, none⟩) HB.out (by show w.heap.size ≤ w.heap.size + 1; omega) (.map mk)) (by show w.heap.size ≤ w.heap.size + 1; omega) (.map mu)) (by show w.heap.size ≤ w.heap.size + 1 + 1; omega) (.map mp)).drew
            clear q0 q1 q2 s0 s1 s2 f0 f1 f2 l0 l1 tk3a
            obtain ⟨W9, hW9⟩ : ∃ W9, (((wr.setCell ⟨w.heap.size + 1, 0, none⟩ (.map mk)).setCell ⟨w.heap.size + 1, 1, none⟩ (.map mu)).setCell ⟨w.heap.size + 1 + 1, 0, none⟩ (.map mp)).drew = W9 := ⟨_, rfl⟩
            rw [hW9] at tk2 tk3 tha thb ⊢
            have r0 := tk2.cellV (i := 0) (v := .map mk) rfl
            have r1 := tk2.cellV (i := 1) (v := .map mu) rfl
            have r2 := tk3.cellV (i := 0) (v := .map mp) rfl
            have HA9 := Lib.hid tha
            have HB9 := Lib.hid thb
            clear tk2 tk3 tha thb hW9
            repeat (first | go_values | go_skip | go_guarded | go_step | go_upon)
            exact bodyPost_ret (v := .tuple #[.agg #[.map mk, .map mu], .agg #[.map mp], .slice An nn cn, .slice Al n cq, .bool true]) (by simp [results, Tryz.results10, go_sem, r0, r1, r2]) rfl ⟨_, _, An, nn, cn, Al, cq, ns, n, bs, l, nk, mk, mu, fk, rfl, HA9.out, HLF9.out, by omega, HB9.out⟩

end Go.Proofs.YtbfefkhejknmoaaGreatDoor
