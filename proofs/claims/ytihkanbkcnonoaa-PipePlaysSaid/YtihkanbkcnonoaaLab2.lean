/-
  More of the label package's functions and of package slices, walked.
-/
import Derived.Test.YtihkanbkcnonoaaLab
namespace Go.Proofs.Ytihkanbkcnonoaa
open Go.RowKit
set_option linter.unusedVariables false

theorem Try.infoInt : (Try.prog.info? 3).map (fun i => (i.zero, i.size, i.bytes)) = some (some (.int .i64 0), 1, 8) := by kernel_rfl

/-- the place of a number in a list; below 0: it is not there. -/
def idxOf (zs : List Int) (x : Int) : Int := match zs.findIdx? (· == x) with | some i => i | none => -1

theorem idxOf_pos (zs : List Int) (x : Int) : decide (0 ≤ idxOf zs x) = zs.contains x := by
  unfold idxOf
  cases h : zs.findIdx? (· == x) with
  | none =>
    rw [List.findIdx?_eq_none_iff] at h
    have : zs.contains x = false := by
      cases hc : zs.contains x with
      | false => rfl
      | true =>
        rw [List.contains_iff_mem] at hc
        simpa using h x hc
    rw [this]; simp
  | some i =>
    obtain ⟨hi, h2, _⟩ := List.findIdx?_eq_some_iff_getElem.1 h
    have : zs.contains x = true := by
      rw [List.contains_iff_mem]
      have : zs[i] = x := by simpa using h2
      rw [← this]; exact List.getElem_mem hi
    rw [this]; simp

theorem ret_i64 {a b : Int} (h : a = b) : Ending.returned (.int .i64 a) = .returned (.int .i64 b) := by rw [h]

set_option maxHeartbeats 400000 in
theorem index_any (a : Option Addr) (len cap : Nat) (zs : List Int) (x : Int) (w : World) (h : Nums w a len cap zs) :
    Calls Try.prog 45 #[.slice a len cap, .int .i64 x] w fun e w' => e = .returned (.int .i64 (idxOf zs x)) ∧ w = w' := by
  rcases h.cases with ⟨rfl, rfl⟩ | ⟨b, off, rfl, hlen, h0, hm, hcell⟩
  · go_enter Try.func45, Try.ntmps45
    go_wp2
    refine wp_loop_rounds 1 ?_
    rw [rounds_succ]
    go_wp2
    go_ret
    exact ⟨ret_i64 (by simp [idxOf]), rfl⟩
  · clear h
    go_enter Try.func45, Try.ntmps45
    go_wp2
    go_loop [5, 8] (fun _ c => ∃ k : Nat, k ≤ len ∧ c = .int .i64 k ∧ Hid (∀ j (hj : j < zs.length), j < k → zs[j] ≠ x)) (fun _ c => len - (intOf c).toNat)
    case atStart => exact ⟨0, Nat.zero_le _, rfl, fun j _ h => by omega⟩
    case round =>
      obtain ⟨k, hk, rfl, hr⟩ := hrel
      by_cases hlt : k < len
      · have hc := hcell k hlt
        clear hcell
        go_wp2
        · have hx : x = zs[k] := by simpa using (show (x == zs[k]) = true from by assumption)
          go_ret
          refine ⟨ret_i64 ?_, rfl⟩
          have : zs.findIdx? (· == x) = some k := by
            rw [List.findIdx?_eq_some_iff_getElem]
            exact ⟨by omega, by simp [hx], fun j hj => by simpa using hr.out j (by omega) hj⟩
          unfold idxOf
          rw [this]
        · have hx : ¬ x = zs[k] := by simpa using (show (x == zs[k]) = false from by assumption)
          go_round
          case rel =>
            refine ⟨k + 1, by omega, by go_num, fun j hj hjk => ?_⟩
            by_cases e : j = k
            · subst e; exact fun h => hx h.symm
            · exact hr.out j hj (by omega)
          case measure => simp [intOf]; omega
      · clear hcell
        go_wp2
        go_ret
        refine ⟨ret_i64 ?_, rfl⟩
        have : zs.findIdx? (· == x) = none := by
          rw [List.findIdx?_eq_none_iff]
          intro y hy
          obtain ⟨j, hj, rfl⟩ := List.mem_iff_getElem.1 hy
          simpa using hr.out j hj (by omega)
        unfold idxOf
        rw [this]

theorem contains_any (a : Option Addr) (len cap : Nat) (zs : List Int) (x : Int) (w : World) (h : Nums w a len cap zs) :
    Calls Try.prog 44 #[.slice a len cap, .int .i64 x] w fun e w' => e = .returned (.bool (zs.contains x)) ∧ w = w' := by
  go_enter Try.func44, Try.ntmps44
  go_wp2_with fail
  refine (index_any a len cap zs x _ h).mono ?_
  rintro e w' ⟨rfl, rfl⟩
  go_wp2
  go_ret
  exact ⟨ret_bool (idxOf_pos zs x), rfl⟩

theorem out_any (a : Option Addr) (len cap : Nat) (zs : List Int) (x : Int) (w : World) (h : Nums w a len cap zs) :
    Calls Try.prog 41 #[.slice a len cap, .int .i64 x] w fun e w' => e = .returned (.bool (!zs.contains x)) ∧ w = w' := by
  go_enter Try.func41, Try.ntmps41
  go_wp2_with fail
  refine (contains_any a len cap zs x _ h).mono ?_
  rintro e w' ⟨rfl, rfl⟩
  obtain ⟨y, hy⟩ : ∃ y, y = zs.contains x := ⟨_, rfl⟩
  have HY := Lib.hid hy
  rw [← hy]
  clear hy
  go_wp2
  go_ret
  exact ⟨ret_bool (by rw [HY.out]), rfl⟩

theorem clip_any (a : Option Addr) (len cap : Nat) (w : World) (h1 : len ≤ cap) (h2 : cap ≤ maxLen) :
    Calls Try.prog 43 #[.slice a len cap] w fun e w' => e = .returned (.slice a len len) ∧ w = w' := by
  unfold maxLen at h2
  go_enter Try.func43, Try.ntmps43
  go_wp2
  go_ret
  exact ⟨rfl, rfl⟩

end Go.Proofs.Ytihkanbkcnonoaa
