/-
  The label package's functions, walked: what each answers, over the plain functions of Spec.
-/
import Derived.Test.YtihkanbkcnonoaaRows
import Derived.Test.YtihkanbkcnonoaaMem
import Derived.Test.YtihkanbkcnonoaaSpec
namespace Go.Proofs.Ytihkanbkcnonoaa
open Go.RowKit
set_option linter.unusedVariables false

theorem ret_bool {a b : Bool} (h : a = b) : Ending.returned (.bool a) = .returned (.bool b) := by rw [h]

theorem tag_any (n : Int) (w : World) : Calls Try.prog 39 #[.int .i64 n] w fun e w' => e = .returned (.bool (Pi.tagB n)) ∧ w = w' := by
  go_enter Try.func39, Try.ntmps39
  go_wp2
  all_goals
    go_ret
    exact ⟨ret_bool (by simp [Pi.tagB]; omega), rfl⟩

/-- A slice of numbers as the walks are handed it: no elements, or an address with the cells behind it. -/
def Nums (w : World) (a : Option Addr) (len cap : Nat) (zs : List Int) : Prop :=
  zs.length = len ∧ len ≤ cap ∧ cap ≤ maxLen ∧ SrcAt w a (zs.map (Value.int .i64))

theorem Nums.cases {w : World} {a : Option Addr} {len cap : Nat} {zs : List Int} (h : Nums w a len cap zs) :
    zs = [] ∧ len = 0 ∨ ∃ b off, a = some ⟨b, off, none⟩ ∧ zs.length = len ∧ 0 < len ∧ len ≤ 9223372036854775807 ∧ ∀ k, k < len → w.cell? ⟨b, off + k, none⟩ = some (.int .i64 (zs.getD k 0)) := by
  obtain ⟨h1, h2, h3, h4⟩ := h
  by_cases hz : zs = []
  · exact .inl ⟨hz, by rw [← h1, hz]; rfl⟩
  · obtain ⟨b, off, rfl, hb⟩ := h4 (by simpa using hz)
    have : 0 < zs.length := List.length_pos_iff.2 hz
    unfold maxLen at h3
    refine .inr ⟨b, off, rfl, h1, by omega, by omega, fun k hk => hb k _ ?_⟩
    have hk' : k < zs.length := by omega
    simp [hk']

/-- the number ahead of place k. -/
def prevAt (zs : List Int) (k : Nat) : Option Int := if k = 0 then none else zs[k - 1]?

theorem rises_step (zs : List Int) (k : Nat) (hk : k < zs.length) :
    Pi.risesFrom (prevAt zs k) (zs.drop k) = (Pi.tagB (zs.getD k 0) && (decide (k = 0) || decide (zs.getD (k - 1) 0 < zs.getD k 0)) && Pi.risesFrom (prevAt zs (k + 1)) (zs.drop (k + 1))) := by
  rw [List.drop_eq_getElem_cons hk]
  have e1 : prevAt zs (k + 1) = some zs[k] := by simp [prevAt, hk]
  rw [e1]
  unfold prevAt
  by_cases h0 : k = 0
  · subst h0; simp [Pi.risesFrom, hk]
  · have hk1 : k - 1 < zs.length := by omega
    simp [Pi.risesFrom, h0, hk, hk1]

set_option maxHeartbeats 400000 in
theorem set_any (a : Option Addr) (len cap : Nat) (zs : List Int) (w : World) (h : Nums w a len cap zs) :
    Calls Try.prog 35 #[.slice a len cap] w fun e w' => e = .returned (.bool (Pi.setB zs)) ∧ w = w' := by
  rcases h.cases with ⟨rfl, rfl⟩ | ⟨b, off, rfl, hlen, h0, hm, hcell⟩
  · go_enter Try.func35, Try.ntmps35
    go_wp2
    refine wp_loop_rounds 1 ?_
    rw [rounds_succ]
    go_wp2
    go_ret
    exact ⟨ret_bool (by simp [Pi.setB, Pi.risesFrom]), rfl⟩
  · have hs0 : Hid (Pi.setB zs = (Pi.risesFrom none zs && decide (len ≤ 16))) := by unfold Pi.setB; rw [hlen]; rfl
    clear h
    go_enter Try.func35, Try.ntmps35
    go_wp2
    go_loop [3, 4, 7] (fun _ _ c => ∃ k : Nat, k ≤ len ∧ c = .int .i64 k ∧ Hid (Pi.risesFrom none zs = Pi.risesFrom (prevAt zs k) (zs.drop k))) (fun _ _ c => len - (intOf c).toNat)
    case atStart => exact ⟨0, Nat.zero_le _, rfl, rfl⟩
    case round =>
      obtain ⟨k, hk, rfl, hr⟩ := hrel
      by_cases hlt : k < len
      · have hc := hcell k hlt
        have hst := rises_step zs k (by omega)
        have HST := Lib.hid hst
        clear hst
        have hcp : 0 < k → w.cell? ⟨b, off + (k - 1), none⟩ = some (.int .i64 (zs.getD (k - 1) 0)) := fun _ => hcell (k - 1) (by omega)
        clear hcell
        go_wp2_with (go_at_call 39; refine (tag_any _ _).mono ?_; rintro e w' ⟨rfl, rfl⟩)
        · go_ret
          have h1 : zs[k] ≤ zs[k - 1]?.getD 0 := by assumption
          exact ⟨ret_bool (by rw [hs0.out, hr.out, HST.out]; simp [hlen, hlt]; omega), rfl⟩
        · have h1 : zs[k - 1]?.getD 0 < zs[k] := by assumption
          have h2 : Pi.tagB zs[k] = true := by assumption
          go_round
          case rel => exact ⟨k + 1, by omega, by go_num, by unfold Hid; rw [hr.out, HST.out]; simp [h1, h2, hlen, hlt]⟩
          case measure => simp [intOf]; omega
        · have h1 : ¬ 0 < k := by assumption
          have h2 : Pi.tagB zs[k] = true := by assumption
          obtain rfl : k = 0 := by omega
          go_round
          case rel => exact ⟨1, by omega, by go_num, by unfold Hid; rw [hr.out, HST.out]; simp [h2, hlen, hlt]⟩
          case measure => simp [intOf]; omega
        · go_ret
          have h2 : ¬ Pi.tagB zs[k] = true := by assumption
          exact ⟨ret_bool (by rw [hs0.out, hr.out, HST.out]; simp [h2, hlen, hlt]), rfl⟩
      · have hkl : k = len := by omega
        have hd : zs.drop k = [] := List.drop_eq_nil_of_le (by omega)
        have HD := Lib.hid hd
        clear hd hcell
        have HK := Lib.hid hkl
        clear hkl
        go_wp2
        go_ret
        exact ⟨ret_bool (by rw [hs0.out, hr.out, HD.out, show Pi.risesFrom (prevAt zs k) [] = true from by simp [Pi.risesFrom]]; simp; omega), rfl⟩

end Go.Proofs.Ytihkanbkcnonoaa
