/-
  VmEnds, walked.
-/
import Derived.Test.YtocjdbenelikpaaEndsP
import Derived.Test.YtocjdbenelikpaaCounts
import Derived.Deep.LoopGhost
namespace Go.Proofs.Ytocjdbenelikpaa
open Go.RowKit
set_option linter.unusedVariables false
set_option linter.unusedSimpArgs false
set_option linter.unnecessarySimpa false

set_option maxHeartbeats 4000000 in
set_option maxRecDepth 100000 in
theorem ends_any (w : World) (a : Option Addr) (len cap : Nat) (bs : List Bool) (hlen : bs.length = len) (hcap : len ≤ cap ∧ cap ≤ maxLen) (hsrc : SrcAt w a (bs.map Value.bool)) :
    Calls Try.prog 4 #[.slice a len cap] w fun e w' => e = .returned (.bool true) ∧ Chg [] w w' := by
  obtain ⟨i0, hi, hz0, hz1, hz2⟩ := info_parts Try.infoByte
  have hcm : cap ≤ 9223372036854775807 := by have h1 := hcap.2; unfold maxLen at h1; omega
  obtain ⟨n, hn⟩ : ∃ n, min len 40 = n := ⟨_, rfl⟩
  have hn1 : n ≤ len := by omega
  have hn2 : n ≤ 40 := by omega
  have hmin : min (len : Int) 40 = (n : Int) := by omega
  obtain ⟨ts, hts⟩ : ∃ ts, bs.take n = ts := ⟨_, rfl⟩
  have htl : ts.length = n := by rw [← hts]; simp; omega
  have hget : ∀ i, i < n → ∃ t b off, ts[i]? = some t ∧ a = some ⟨b, off, none⟩ ∧ w.cell? ⟨b, off + i, none⟩ = some (.bool t) := by
    intro i hi
    obtain ⟨b, off, ha, hb⟩ := hsrc (by intro e; have := congrArg List.length e; simp at this; subst this; simp at hlen; omega)
    have hi2 : i < bs.length := by omega
    refine ⟨bs[i], b, off, ?_, ha, hb i _ (by rw [List.getElem?_map, List.getElem?_eq_getElem hi2]; rfl)⟩
    rw [← hts, List.getElem?_take, if_pos hi, List.getElem?_eq_getElem hi2]
  have HGET := Lib.hid hget
  have HTS := Lib.hid htl
  have hnil : ∀ w : World, Bytes w none 0 0 [] := fun w => ⟨rfl, by simp, fun h => absurd rfl h⟩
  have HNIL := Lib.hid hnil
  clear hget hts hsrc hlen hcap hn htl hnil
  go_enter Try.func4, Try.ntmps4
  go_wp2_with fail
  all_goals first | rw [show (40 : Int) = (n : Int) by omega] | rw [show (len : Int) = (n : Int) by omega]
  all_goals
    go_loopg [3, 5] n (fun g v3 v5 wr => ∃ i : Nat, i + g = n ∧ v5 = .int .i64 i ∧ Row wr 5 1 v3 (4 * i) ((EndsP.codeOf (ts.take i)).map byteV) ∧ Hid (∀ k ∈ rowBlock v3, w.heap.size ≤ k) ∧ Chg [] w wr)
    case atStart => exact ⟨0, by omega, rfl, Row.nil _ _ _ _, Lib.hid (by simp [rowBlock]), Chg.refl _ _⟩
    case round =>
      obtain ⟨i, hig, rfl, hrow, HOWN, hch⟩ := hrel
      have HROW := Lib.hid hrow
      have HCH := Lib.hid hch
      clear hrow hch
      cases gk with
      | succ g =>
        have hin : i < n := by omega
        have hi3 : (i : Int) < (len : Int) := by omega
        have hi4 : (0 : Int) ≤ (i : Int) := by omega
        obtain ⟨t, b, off, ht, rfl, hcell0⟩ := HGET.out i hin
        have hcell := HCH.out.cell hcell0 (by simp)
        have hpush : ts.take (i + 1) = ts.take i ++ [t] := by rw [List.take_add_one, ht]; rfl
        have HP := Lib.hid hpush
        clear hcell0 hpush
        cases t with
        | true =>
          have hrow2 := HROW.out.kept ((Chg.refl [] wr).alloc (.cells #[.int .u8 1, .int .u8 0, .int .u8 0, .int .u8 0] 5)) (by simp)
          have hs4 : SrcAt (wr.alloc (.cells #[.int .u8 1, .int .u8 0, .int .u8 0, .int .u8 0] 5)) (some ⟨wr.heap.size, 0, none⟩) ((EndsP.ins true).map byteV) :=
            fun _ => ⟨_, 0, rfl, fun j u hj => cells_of_take (k := 4) (heap_alloc_new wr _) rfl (by rw [Nat.zero_add]; exact hj)⟩
          go_wp2_with (at_builtin; refine wpList_append_row _ rfl _ _ 26 rfl 5 i0 (.int .u8 0) 1 1 Try.underlying26 hi hz0 hz1 hz2 rfl (by decide) _ _ _ rfl hrow2 _ 4 4 _ rfl (by simp [EndsP.ins]) hs4 (bytes_one _) (by unfold maxLen; omega) (by omega) ?_)
          intro v1 w1 hr1 hc1 hsub1
          have HR1 : Hid (Row w1 5 1 v1 (4 * (i + 1)) ((EndsP.codeOf (ts.take (i + 1))).map byteV)) := Lib.hid (by
            rw [HP.out, EndsP.codeOf_push, List.map_append]
            exact hr1)
          have HO1 : Hid (∀ k ∈ rowBlock v1, w.heap.size ≤ k) := Lib.hid (fun k hk => by
            rcases hsub1 k hk with h | h
            · exact HOWN.out k h
            · have := HCH.out.size; omega)
          have HC1 : Hid (Chg [] w w1) := Lib.hid ((HCH.out.alloc _).trans hc1 (fun x hx => .inr (HOWN.out x hx)))
          clear hr1 hc1 hsub1 hrow2 hs4
          go_wp2
          all_goals
            go_roundg g
            case measure => omega
            case rel => exact ⟨i + 1, by omega, by go_num, HR1.out, HO1, HC1.out⟩
        | false =>
          have hrow2 := HROW.out.kept ((Chg.refl [] wr).alloc (.cells #[.int .u8 3, .int .u8 1, .int .u8 2, .int .u8 0] 5)) (by simp)
          have hs4 : SrcAt (wr.alloc (.cells #[.int .u8 3, .int .u8 1, .int .u8 2, .int .u8 0] 5)) (some ⟨wr.heap.size, 0, none⟩) ((EndsP.ins false).map byteV) :=
            fun _ => ⟨_, 0, rfl, fun j u hj => cells_of_take (k := 4) (heap_alloc_new wr _) rfl (by rw [Nat.zero_add]; exact hj)⟩
          go_wp2_with (at_builtin; refine wpList_append_row _ rfl _ _ 26 rfl 5 i0 (.int .u8 0) 1 1 Try.underlying26 hi hz0 hz1 hz2 rfl (by decide) _ _ _ rfl hrow2 _ 4 4 _ rfl (by simp [EndsP.ins]) hs4 (bytes_one _) (by unfold maxLen; omega) (by omega) ?_)
          intro v1 w1 hr1 hc1 hsub1
          have HR1 : Hid (Row w1 5 1 v1 (4 * (i + 1)) ((EndsP.codeOf (ts.take (i + 1))).map byteV)) := Lib.hid (by
            rw [HP.out, EndsP.codeOf_push, List.map_append]
            exact hr1)
          have HO1 : Hid (∀ k ∈ rowBlock v1, w.heap.size ≤ k) := Lib.hid (fun k hk => by
            rcases hsub1 k hk with h | h
            · exact HOWN.out k h
            · have := HCH.out.size; omega)
          have HC1 : Hid (Chg [] w w1) := Lib.hid ((HCH.out.alloc _).trans hc1 (fun x hx => .inr (HOWN.out x hx)))
          clear hr1 hc1 hsub1 hrow2 hs4
          go_wp2
          all_goals
            go_roundg g
            case measure => omega
            case rel => exact ⟨i + 1, by omega, by go_num, HR1.out, HO1, HC1.out⟩
      | zero =>
        obtain rfl : i = n := by omega
        by_cases hn0 : i = 0
        · subst hn0
          go_wp2_with fail
          refine (build_any wr none 0 0 [] (HNIL.out _) none 0 0 [] (HNIL.out _) (by omega) (by omega)).mono ?_
          rintro e w1 ⟨a1, len1, cap1, rfl, hb1, hc1⟩
          have HB1 : Hid (Bytes w1 a1 len1 cap1 (EndsP.img [])) := Lib.hid hb1
          have HC1 := Lib.hid (HCH.out.then0 hc1)
          clear hb1 hc1
          go_wp2_with fail
          refine (new_bad w1 a1 len1 cap1 _ HB1.out EndsP.img_empty).mono ?_
          rintro e w2 ⟨rfl, hc2⟩
          have HC2 := Lib.hid (HC1.out.then0 hc2)
          clear hc2
          go_wp2_with (go_at_call 16; refine (awake_any _).mono ?_; rintro e w9 ⟨rfl, h9⟩)
          all_goals
            go_ret
            exact ⟨rfl, HC2.out.then0 h9⟩
        · have hn0b : ((i : Int) == 0) = false := by simp; omega
          obtain ⟨ca, ccap, rfl, hcc⟩ := HROW.out.shape
          have htk : ts.take i = ts := List.take_of_length_le (by rw [HTS.out]; omega)
          have hcb : Bytes wr ca (4 * i) ccap (EndsP.codeOf ts) := ⟨by rw [EndsP.codeOf_len, HTS.out], hcc, by have := HROW.out.src; rw [htk] at this; exact this⟩
          have HCB := Lib.hid hcb
          clear hcb htk
          go_wp2_with fail
          refine (build_any wr ca (4 * i) ccap _ HCB.out none 0 0 [] (HNIL.out _) (by omega) (by omega)).mono ?_
          rintro e w1 ⟨a1, len1, cap1, rfl, hb1, hc1⟩
          rw [EndsP.codeOf_len] at hb1
          have HB1 : Hid (Bytes w1 a1 len1 cap1 (EndsP.img ts)) := Lib.hid hb1
          have HC1 := Lib.hid (HCH.out.then0 hc1)
          clear hb1 hc1 HCB HROW HOWN HCH
          go_wp2_with fail
          refine (new_good w1 a1 len1 cap1 _ HB1.out (EndsP.img_valid ts (by rw [HTS.out]; omega) (by rw [HTS.out]; omega))).mono ?_
          rintro e w2 ⟨mb, cb, co, cc, rfl, hm, hg, hc, hmb, -⟩
          rw [EndsP.img_start ts (by rw [HTS.out]; omega)] at hm
          have HM := Lib.hid hm
          have HC2 := Lib.hid (HC1.out.then0 hc)
          have HMB : Hid (w.heap.size ≤ mb) := Lib.hid (by have := HC1.out.size; omega)
          clear hm hc hmb HB1 HC1 hg
          go_wp2_with fail
          go_loopg [10, 11] i (fun g v10 v11 wr => ∃ k p : Nat, k + g = i ∧ p ≤ k ∧ v10 = .int .i64 p ∧ v11 = .int .i64 k ∧ MachAt wr mb cb co cc (EndsP.E ts p) ∧ Chg [] w wr ∧ Hid (∀ j, p ≤ j → j < k → ts[j]? = some false))
          case atStart => exact ⟨0, 0, by omega, by omega, rfl, rfl, HM.out, HC2.out, Lib.hid (fun j h1 h2 => by omega)⟩
          case round =>
            obtain ⟨k, p, hk, hpk, rfl, rfl, hm, hch, HF⟩ := hrel
            clear HM HC2
            have HM := Lib.hid hm
            have HCH := Lib.hid hch
            clear hm hch
            cases gk with
            | succ g =>
              have hin : k < i := by omega
              have hi3 : (k : Int) < (len : Int) := by omega
              have hi4 : (0 : Int) ≤ (k : Int) := by omega
              obtain ⟨t, b, off, ht, rfl, hcell0⟩ := HGET.out k hin
              have hcell := HCH.out.cell hcell0 (by simp)
              clear hcell0
              cases t with
              | false =>
                go_wp2
                all_goals
                  go_roundg g
                  case measure => omega
                  case rel => exact ⟨k + 1, p, by omega, by omega, rfl, by go_num, HM.out, HCH.out, Lib.hid (fun j h1 h2 => by
                    rcases Nat.lt_or_ge j k with h | h
                    · exact HF.out j h1 h
                    · obtain rfl : j = k := by omega
                      exact ht)⟩
              | true =>
                have HT := Lib.hid ht
                clear ht
                go_wp2_with fail
                refine (run_from wr mb cb co cc _ HM.out (EndsP.good_E ts (by rw [HTS.out]; omega) (by rw [HTS.out]; omega) p (by rw [HTS.out]; omega)) rfl 99 (by omega) _ _ _ (EndsP.run_trap ts p k hpk (by omega) HF.out HT.out)).mono ?_
                rintro e w3 ⟨rfl, hm3, hc3⟩
                have HM3 := Lib.hid hm3
                have HC3 : Hid (Chg [] w w3) := Lib.hid (HCH.out.trans hc3 (fun x hx => .inr (by have := HMB.out; simp at hx; omega)))
                obtain ⟨U, hU⟩ : ∃ U : Int, ((k + 1 - p : Nat) : Int) = U := ⟨_, rfl⟩
                have hU2 : U = (k : Int) + 1 - (p : Int) := by omega
                rw [hU]
                clear hm3 hc3 HM hU
                subst hU2
                go_wp2_with fail
                refine (pc_any w3 mb cb co cc _ HM3.out).mono ?_
                rintro e w4 ⟨rfl, rfl⟩
                rw [show (EndsP.E ts (k + 1)).pc = (k : Int) + 1 from rfl]
                go_wp2
                all_goals
                  go_roundg g
                  case measure => omega
                  case rel => exact ⟨k + 1, k + 1, by omega, by omega, by go_num, by go_num, HM3.out, HC3.out, Lib.hid (fun j h1 h2 => by omega)⟩
            | zero =>
              obtain rfl : k = i := by omega
              go_wp2_with fail
              refine (run_from wr mb cb co cc _ HM.out (EndsP.good_E ts (by rw [HTS.out]; omega) (by rw [HTS.out]; omega) p (by rw [HTS.out]; omega)) rfl 99 (by omega) _ _ _ (EndsP.run_end ts p (by rw [HTS.out]; omega) (by rw [HTS.out]; omega) (fun j h1 h2 => HF.out j h1 (by rw [HTS.out] at h2; exact h2)))).mono ?_
              rintro e w3 ⟨rfl, hm3, hc3⟩
              have HM3 := Lib.hid hm3
              have HC3 : Hid (Chg [] w w3) := Lib.hid (HCH.out.trans hc3 (fun x hx => .inr (by have := HMB.out; simp at hx; omega)))
              obtain ⟨U, hU⟩ : ∃ U : Int, ((ts.length - p : Nat) : Int) = U := ⟨_, rfl⟩
              have hU2 : U = (k : Int) - (p : Int) := by have := HTS.out; omega
              rw [hU]
              clear hm3 hc3 HM hU
              subst hU2
              go_wp2_with fail
              refine (pc_any w3 mb cb co cc _ HM3.out).mono ?_
              rintro e w4 ⟨rfl, rfl⟩
              rw [show ({ EndsP.E ts ts.length with stopped := 4 } : Vm.M).pc = (k : Int) from by rw [← HTS.out]; rfl]
              go_wp2_with (go_at_call 16; refine (awake_any _).mono ?_; rintro e w9 ⟨rfl, h9⟩)
              all_goals
                go_ret
                exact ⟨rfl, HC3.out.then0 h9⟩

end Go.Proofs.Ytocjdbenelikpaa
