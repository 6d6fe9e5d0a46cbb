/-
  ParseChains: true.
-/
import Derived.Test.YtfgbbmnmblchiaaDoorShow
namespace Go.Proofs.YtfgbbmnmblchiaaDoor
open Go.RowKit
set_option linter.unusedVariables false

theorem wrap_u8 {n : Int} (h0 : 0 ≤ n) (h1 : n < 256) : IntKind.u8.wrap n = n := by
  show n % 256 = n
  omega

/-- the letter's text, whatever the world. -/
theorem conv_letC (i : Nat) (hi : i < 12) (w : World) (g : Nat) (h : w.cell? ⟨g, 0, none⟩ = some (.int .u8 (97 + (i : Int)))) : (convert 24 9 (.slice (some ⟨g, 0, none⟩) 1 1)).run Tryd.prog w = .ok (.string ⟨#[letC i]⟩) w := by
  have e : ((letC i).toNat : Int) = 97 + (i : Int) := by
    rcases (show i = 0 ∨ i = 1 ∨ i = 2 ∨ i = 3 ∨ i = 4 ∨ i = 5 ∨ i = 6 ∨ i = 7 ∨ i = 8 ∨ i = 9 ∨ i = 10 ∨ i = 11 from by omega) with rfl | rfl | rfl | rfl | rfl | rfl | rfl | rfl | rfl | rfl | rfl | rfl <;> rfl
  exact run_conv_string (P := Tryd.prog) _ 24 9 5 Tryd.underlying24 Tryd.underlying5 Tryd.underlying9 (some ⟨g, 0, none⟩) 1 [letC i] (fun _ => ⟨_, 0, rfl, fun j u hj => by
    cases j with
    | zero =>
      have hu : Value.int .u8 ((letC i).toNat : Int) = u := Option.some.inj hj
      rw [← hu, e]
      exact h
    | succ j => simp at hj⟩)

def ksC (zs : List Int) : List Nat := (zs.take 12).map fun z => (z % 4).toNat
theorem ksC_len (zs : List Int) : (ksC zs).length = min zs.length 12 := by
  unfold ksC
  rw [List.length_map, List.length_take]
  omega
theorem ksC_lt (zs : List Int) : ∀ k ∈ ksC zs, k < 4 := by
  intro k hk
  obtain ⟨z, _, rfl⟩ := List.mem_map.1 hk
  omega
theorem ksC_get (zs : List Int) (i : Nat) (z : Int) (h : zs[i]? = some z) (hi : i < 12) : (ksC zs)[i]? = some (z % 4).toNat := by
  unfold ksC
  rw [List.getElem?_map, List.getElem?_take, if_pos hi, h]
  rfl

theorem cat_seg (ks : List Nat) (i k : Nat) (hk : ks[i]? = some k) : Lx.strB (segC ks 0 i) ++ Lx.strB (sgC k) ++ ⟨#[99]⟩ ++ ⟨#[letC i]⟩ = Lx.strB (segC ks 0 (i + 1)) := by
  have h1 := Lx.strB_append (segC ks 0 i) (sgC k)
  have h2 := Lx.strB_append (segC ks 0 i ++ sgC k) [99]
  have h3 := Lx.strB_append (segC ks 0 i ++ sgC k ++ [99]) [letC i]
  show _ ++ Lx.strB [99] ++ Lx.strB [letC i] = _
  rw [h1, h2, h3]
  have e : segC ks 0 (i + 1) = segC ks 0 i ++ sgC (ks.getD (0 + i) 0) ++ nmC (0 + i + 1) := rfl
  rw [e, Nat.zero_add, List.getD_eq_getElem?_getD, hk]
  unfold nmC
  rw [if_neg (by omega)]
  simp

set_option maxHeartbeats 4000000 in
set_option maxRecDepth 10000 in
theorem parseChains_any (a : Option Addr) (n c : Nat) (zs : List Int) (w : World) (hz : zs.length = n) (hn : (n : Int) ≤ 9223372036854775807) (hsrc : SrcAt w a (zs.map fun z => Value.int .i64 z)) (hT : Hid (U8 w)) (m : Int) (hm : w.cell? ⟨2, 0, none⟩ = some (.int .i64 m)) :
    Calls Tryd.prog 3 #[.slice a n c] w fun e w' => e = .returned (.bool true) ∧ Chg [] w w' := by
  have HM := Lib.hid hm
  have HSRC := Lib.hid hsrc
  have HZ := Lib.hid hz
  have HC0 := Lib.hid (Chg.refl [] w)
  obtain ⟨K, hK⟩ : ∃ K, min n 12 = K := ⟨_, rfl⟩
  have HK := Lib.hid hK
  have hK2 : min (n : Int) 12 = (K : Int) := by omega
  have K12 : K ≤ 12 := by omega
  have HKS := Lib.hid (show (ksC zs).length = K from by rw [ksC_len, hz, hK])
  clear hm hsrc hz
  go_enter Tryd.func3, Tryd.ntmps3
  go_wp2_with fail
  go_loopg [4, 5] (K + 1) (fun g c4 c5 wr => ∃ i : Nat, K < i + g ∧ i ≤ K ∧ c4 = .string (Lx.strB (segC (ksC zs) 0 i)) ∧ c5 = .int .i64 i ∧ Hid (Chg [] w wr))
  case atStart => exact ⟨0, by omega, by omega, rfl, rfl, HC0⟩
  case round =>
    clear HC0
    obtain ⟨i, hg, hi, rfl, rfl, HC⟩ := hrel
    have i0 : (0 : Int) ≤ (i : Int) := by omega
    have hsz := Lx.strB_size (segC (ksC zs) 0 i)
    have hsl := (segC_len (ksC zs) i).2
    have HSL := Lib.hid hsl
    obtain ⟨L, hL⟩ : ∃ L, (segC (ksC zs) 0 i).length = L := ⟨_, rfl⟩
    rw [hL] at hsz hsl
    clear hL
    by_cases hlt : i < K
    · cases gk with
      | zero => omega
      | succ g =>
        have hd : decide ((i : Int) < (K : Int)) = true := decide_eq_true (by omega)
        have hdN : decide (i < K) = true := decide_eq_true hlt
        have i12 : i < 12 := by omega
        have hin : i < n := by omega
        have i1 : (i : Int) < (n : Int) := by omega
        have i2 : 0 < n := by omega
        have hw1 : IntKind.u8.wrap (i : Int) = i := wrap_u8 (by omega) (by omega)
        have hw2 : IntKind.u8.wrap (97 + (i : Int)) = 97 + i := wrap_u8 (by omega) (by omega)
        have CV := fun W g => conv_letC i i12 W g
        obtain ⟨z, hzi⟩ : ∃ z, zs[i]? = some z := ⟨_, List.getElem?_eq_getElem (by rw [HZ.out]; omega)⟩
        obtain ⟨b, off, rfl, hx⟩ := HSRC.out (fun e => by have := congrArg List.length e; rw [List.length_map, HZ.out] at this; simp at this; omega)
        have x0 := HC.out.cell (hx i (.int .i64 z) (by rw [List.getElem?_map, hzi]; rfl)) (by simp)
        have x0a := fun (o : Obj) => ((Chg.refl [] wr).alloc o).cell x0 (by simp)
        have x0b := fun (o o2 : Obj) => (((Chg.refl [] wr).alloc o).alloc o2).cell x0 (by simp)
        obtain ⟨k, hk, hk4⟩ : ∃ k : Nat, z % 4 = (k : Int) ∧ k < 4 := ⟨(z % 4).toNat, by omega, by omega⟩
        have hbit : bits .and .i64 z 3 = (k : Int) := by rw [i64_and3, hk]
        have HKI := Lib.hid (show (ksC zs)[i]? = some k from by rw [ksC_get zs i z hzi i12, hk]; rfl)
        have HG := Lib.hid hg
        clear hg hx hzi hk
        go_upto_region 6 with (fail)
        have o1 := eq_false (show ¬ 9223372036854775807 < L + 3 from by omega)
        have o2 := eq_false (show ¬ 9223372036854775807 < L + 4 from by omega)
        have o3 := eq_false (show ¬ 9223372036854775807 < L + 3 + 1 from by omega)
        have o4 := eq_false (show ¬ 9223372036854775807 < L + 4 + 1 from by omega)
        have o5 := eq_false (show ¬ 9223372036854775807 < L + 3 + 1 + 1 from by omega)
        have o6 := eq_false (show ¬ 9223372036854775807 < L + 4 + 1 + 1 from by omega)
        rcases (show k = 0 ∨ k = 1 ∨ k = 2 ∨ k = 3 from by omega) with rfl | rfl | rfl | rfl
        all_goals
          have CAT := Lib.hid (cat_seg (ksC zs) i _ HKI.out)
          go_region
          all_goals
            go_wp2
            go_roundg g
            case measure => omega
            case rel => exact ⟨i + 1, by have := HG.out; omega, by omega, congrArg Value.string CAT.out, by go_num, Lib.hid (by first | exact ((HC.out.alloc _).alloc _).drew | exact (HC.out.drew.alloc _).alloc _)⟩
    · obtain rfl : i = K := by omega
      have hd : decide ((i : Int) < (i : Int)) = false := decide_eq_false (by omega)
      have hdN : decide (i < i) = false := decide_eq_false (by omega)
      obtain ⟨zz, q1, q2, q3, q4⟩ := seg_program (ksC zs) (by rw [HKS.out]; exact K12) (ksC_lt zs)
      rw [HKS.out] at q1 q4
      obtain ⟨T, hTT⟩ : ∃ T, segC (ksC zs) 0 i = T := ⟨_, rfl⟩
      have HTL := Lib.hid (show T.length ≤ 100 from by rw [← hTT]; have := HSL.out; omega)
      rw [hTT] at q1 q4 ⊢
      have PR := program_any T wr (by have := HTL.out; omega) (U8.chg hT HC.out) m (HC.out.cell HM.out (by simp))
      rw [q1] at PR
      have HP := Lib.hid PR
      have HQ2 := Lib.hid q2
      have HQ4 := Lib.hid q4
      clear PR q1 q2 q4 hTT hg hi hlt HSL hsl hsz
      go_wp2_with fail
      refine HP.out.mono ?_
      rintro e w1 ⟨hC1, cs, rfl, hN⟩
      obtain ⟨s0, ka0, wa0, sa0, ra0, kn0, kc0, wn0, wc0, sn0, sc0, rn0, rc0, rfl, hkn, j2⟩ := hN.cells6 (z := 1) rfl
      have hkl : kn0 = zz.length := hkn.trans (by show (zz.map (·.1)).length = _; rw [List.length_map])
      subst hkl
      have HC1 := Lib.hid (HC.out.then0 hC1)
      have hal : Chg [] w1 (w1.alloc (.cells #[.int .i64 1, .slice ka0 zz.length kc0, .string s0, .slice wa0 wn0 wc0, .slice sa0 sn0 sc0, .slice ra0 rn0 rc0] 30)) := (Chg.refl [] w1).alloc _
      have HOB := Lib.hid (obj_alloc_new w1 (.cells #[.int .i64 1, .slice ka0 zz.length kc0, .string s0, .slice wa0 wn0 wc0, .slice sa0 sn0 sc0, .slice ra0 rn0 rc0] 30))
      have HN := Lib.hid (NodeAt.kept hal (by simp) _ _ hN)
      have HC2 := Lib.hid (HC1.out.then0 hal)
      have HTOT := Lib.hid (show (jnC [32, 59, 32] (zz.map (·.2)) zz.length).length ≤ 100 from by rw [HQ4.out]; exact HTL.out)
      have hzl : zz.length ≤ 101 := by
        have h1 := jnC_count [32, 59, 32] (by simp) (zz.map (·.2)) zz.length
        have h2 := HTOT.out
        omega
      clear hC1 hal hN hkn j2 HP hd hdN HC HC1
      go_upto_region 8 with (fail)
      generalize w1.alloc (.cells #[.int .i64 1, .slice ka0 zz.length kc0, .string s0, .slice wa0 wn0 wc0, .slice sa0 sn0 sc0, .slice ra0 rn0 rc0] 30) = w2 at *
      generalize w1.heap.size = tb at *
      go_wp2_with fail
      go_loopg [9, 10] (zz.length + 1) (fun g c9 c10 wr2 => ∃ j : Nat, zz.length < j + g ∧ j ≤ zz.length ∧ c9 = .string (Lx.strB (jnC [32, 59, 32] (zz.map (·.2)) j)) ∧ c10 = .int .i64 j ∧ Hid (Chg [] w2 wr2))
      case atStart => exact ⟨0, by omega, by omega, rfl, rfl, Lib.hid (Chg.refl [] w2)⟩
      case round =>
        obtain ⟨j, hg, hj, rfl, rfl, HC⟩ := hrel
        have j0 : (0 : Int) ≤ (j : Int) := by omega
        have hsz := Lx.strB_size (jnC [32, 59, 32] (zz.map (·.2)) j)
        have hl2 := Nat.le_trans (jnC_len [32, 59, 32] (zz.map (·.2)) j zz.length hj) HTOT.out
        obtain ⟨t0, t1, t2, t3, t4, t5, tf⟩ := six_cells (HC.out.obj HOB.out (by simp))
        by_cases hlt : j < zz.length
        · cases gk with
          | zero => omega
          | succ g =>
            have HLT := Lib.hid hlt
            have hd : decide (j < zz.length) = true := decide_eq_true hlt
            have j1 : (j : Int) < (zz.length : Int) := by omega
            have j2 : 0 < zz.length := by omega
            obtain ⟨y, hy⟩ : ∃ y, zz[j]? = some y := ⟨_, List.getElem?_eq_getElem hlt⟩
            obtain ⟨nd, x⟩ := y
            have hsh : Sh nd x := HQ2.out _ (List.mem_of_getElem? hy)
            have hstep : jnC [32, 59, 32] (zz.map (·.2)) (j + 1) = jnC [32, 59, 32] (zz.map (·.2)) j ++ (if 0 < j then [32, 59, 32] else []) ++ x := by
              show _ ++ _ ++ (zz.map (·.2)).getD j [] = _
              rw [List.getD_eq_getElem?_getD, List.getElem?_map, hy]
              rfl
            have hl3 := Nat.le_trans (jnC_len [32, 59, 32] (zz.map (·.2)) (j + 1) zz.length hlt) HTOT.out
            rw [hstep, List.length_append, List.length_append] at hl3
            obtain ⟨b0, c0, ds, hk0, hNk, hx0⟩ := NodeAt.kid (i := j) (k := nd) (NodeAt.kept HC.out (by simp) _ _ HN.out) (by show (zz.map (·.1))[j]? = _; rw [List.getElem?_map, hy]; rfl)
            have SC0 := show_any hsh (show x.length ≤ 100000 from by omega) _ _ wr hNk
            obtain ⟨s1, ka1, wa1, sa1, ra1, kn1, kc1, wn1, wc1, sn1, sc1, rn1, rc1, rfl, jj1⟩ := hNk.cells6 rfl
            have e0 : Value.slice ka0 zz.length kc0 = .slice (some ⟨b0, 0, none⟩) (zz.map (·.1)).length c0 := Option.some.inj hk0
            rw [List.length_map] at e0
            cases e0
            have y0 : wr.cell? ⟨b0, j * 6, none⟩ = some (.int .i64 nd.kind) := hx0 0 _ rfl
            have y1 := hx0 1 _ rfl
            have y2 := hx0 2 _ rfl
            have y3 := hx0 3 _ rfl
            have y4 := hx0 4 _ rfl
            have y5 := hx0 5 _ rfl
            have SC := Lib.hid SC0
            have hszx := Lx.strB_size x
            have HG := Lib.hid hg
            have HST := Lib.hid hstep
            clear hg jj1 hk0 hx0 hNk hstep hy hsh SC0
            by_cases h0 : j = 0
            · have hd0 : decide (0 < j) = false := decide_eq_false (by omega)
              have HS2 := Lib.hid (show Lx.strB (jnC [32, 59, 32] (zz.map (·.2)) j) ++ Lx.strB x = Lx.strB (jnC [32, 59, 32] (zz.map (·.2)) (j + 1)) from by rw [HST.out, if_neg (by omega), List.append_nil, Lx.strB_append])
              obtain ⟨L, hL⟩ : ∃ L, (jnC [32, 59, 32] (zz.map (·.2)) j).length = L := ⟨_, rfl⟩
              obtain ⟨M, hM⟩ : ∃ M, x.length = M := ⟨_, rfl⟩
              rw [hL] at hsz hl2 hl3
              rw [hM] at hszx hl3
              have o1 := eq_false (show ¬ 9223372036854775807 < L + M from by omega)
              clear hL hM h0
              go_wp2_with fail
              refine SC.out.mono ?_
              rintro e w3 ⟨rfl, hC3⟩
              have HC3 := Lib.hid (HC.out.then0 hC3)
              clear hC3
              go_wp2
              go_roundg g
              case measure => omega
              case rel => exact ⟨j + 1, by have := HG.out; omega, by have := HLT.out; omega, congrArg Value.string HS2.out, by go_num, HC3⟩
            · have hd0 : decide (0 < j) = true := decide_eq_true (by omega)
              have HS2 := Lib.hid (show Lx.strB (jnC [32, 59, 32] (zz.map (·.2)) j) ++ ⟨#[32, 59, 32]⟩ ++ Lx.strB x = Lx.strB (jnC [32, 59, 32] (zz.map (·.2)) (j + 1)) from by
                rw [HST.out, if_pos (by omega)]
                have h1 := Lx.strB_append (jnC [32, 59, 32] (zz.map (·.2)) j) [32, 59, 32]
                have h2 := Lx.strB_append (jnC [32, 59, 32] (zz.map (·.2)) j ++ [32, 59, 32]) x
                rw [← h2, ← h1]
                rfl)
              rw [if_pos (show 0 < j by omega)] at hl3
              obtain ⟨L, hL⟩ : ∃ L, (jnC [32, 59, 32] (zz.map (·.2)) j).length = L := ⟨_, rfl⟩
              obtain ⟨M, hM⟩ : ∃ M, x.length = M := ⟨_, rfl⟩
              rw [hL] at hsz hl2 hl3
              rw [hM] at hszx hl3
              simp only [List.length_cons, List.length_nil] at hl3
              have o1 := eq_false (show ¬ 9223372036854775807 < L + 3 from by omega)
              have o2 := eq_false (show ¬ 9223372036854775807 < L + 3 + M from by omega)
              clear hL hM h0
              go_wp2_with fail
              refine SC.out.mono ?_
              rintro e w3 ⟨rfl, hC3⟩
              have HC3 := Lib.hid (HC.out.then0 hC3)
              clear hC3
              go_wp2
              go_roundg g
              case measure => omega
              case rel => exact ⟨j + 1, by have := HG.out; omega, by have := HLT.out; omega, congrArg Value.string HS2.out, by go_num, HC3⟩
        · obtain rfl : j = zz.length := by omega
          have hd : decide (zz.length < zz.length) = false := decide_eq_false (by omega)
          have HC4 := Lib.hid (HC2.out.then0 HC.out)
          have q3i : (1 : Int) ≤ (zz.length : Int) := by omega
          have hd1 : decide (1 ≤ zz.length) = true := decide_eq_true q3
          have heq : ((Lx.strB T).toList == (Lx.strB T).toList) = true := by simp
          rw [HQ4.out]
          clear hg hj hlt hsz hl2
          go_wp2_with fail
          refine (awake_any _ (U8.chg hT HC4.out) m (HC4.out.cell HM.out (by simp))).mono ?_
          rintro e w7 ⟨rfl, h7⟩
          have HC9 := Lib.hid (HC4.out.then0 h7)
          clear h7
          go_wp2
          go_ret
          exact ⟨rfl, HC9.out⟩

end Go.Proofs.YtfgbbmnmblchiaaDoor
