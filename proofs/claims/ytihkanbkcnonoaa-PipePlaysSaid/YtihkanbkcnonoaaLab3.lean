/-
  label.some and label.Sub, walked.
-/
import Derived.Test.YtihkanbkcnonoaaLab2
namespace Go.Proofs.Ytihkanbkcnonoaa
open Go.RowKit
set_option linter.unusedVariables false

theorem Nums.kept {w w' : World} {F : List Nat} {a : Option Addr} {len cap : Nat} {zs : List Int} (h : Nums w a len cap zs) (hc : Chg F w w') (hne : ∀ x, a = some x → x.block ∉ F) : Nums w' a len cap zs :=
  ⟨h.1, h.2.1, h.2.2.1, h.2.2.2.kept hc hne⟩
theorem Nums.kept0 {w w' : World} {a : Option Addr} {len cap : Nat} {zs : List Int} (h : Nums w a len cap zs) (hc : Chg [] w w') : Nums w' a len cap zs :=
  h.kept hc (by simp)
theorem Nums.alloc {w : World} {a : Option Addr} {len cap : Nat} {zs : List Int} (h : Nums w a len cap zs) (o : Obj) : Nums (w.alloc o) a len cap zs :=
  h.kept0 ((Chg.refl [] w).alloc o)

/-- those of a list that another one has not. -/
def rest (xs bs : List Int) : List Int := xs.filter fun x => !bs.contains x

theorem rest_snoc (xs bs : List Int) (k : Nat) (hk : k < xs.length) :
    rest (xs.take (k + 1)) bs = rest (xs.take k) bs ++ (if bs.contains xs[k] then [] else [xs[k]]) := by
  unfold rest
  rw [List.take_succ_eq_append_getElem hk, List.filter_append]
  congr 1
  by_cases h : xs[k] ∈ bs <;> simp [h]

set_option maxHeartbeats 1000000 in
theorem some_out (a1 : Option Addr) (n1 c1 : Nat) (xs : List Int) (a2 : Option Addr) (n2 c2 : Nat) (bs : List Int) (w : World) (h1 : Nums w a1 n1 c1 xs) (h2 : Nums w a2 n2 c2 bs) (hreach : n1 * 8 ≤ 140737488351232) :
    Calls Try.prog 40 #[.slice a1 n1 c1, .slice a2 n2 c2, .func (.func 41) #[] #[]] w fun e w' => ∃ a c, e = .returned (.slice a (rest xs bs).length c) ∧ Chg [] w w' := by
  obtain ⟨i0, hi, hz0, hz1, hz2⟩ := info_parts Try.infoInt
  rcases h1.cases with ⟨rfl, rfl⟩ | ⟨b, off, rfl, hlen, h0, hm, hcell⟩
  · go_enter Try.func40, Try.ntmps40
    go_wp2
    refine wp_loop_rounds 1 ?_
    rw [rounds_succ]
    go_wp2_with (go_at_call 43; refine (clip_any none 0 0 _ (by omega) (by unfold maxLen; omega)).mono ?_; rintro e w' ⟨rfl, rfl⟩)
    go_ret
    exact ⟨none, 0, rfl, Chg.refl _ _⟩
  · go_enter Try.func40, Try.ntmps40
    go_wp2
    go_loopw [7, 9, 12] (fun v _ c wr => ∃ k : Nat, k ≤ n1 ∧ c = .int .i64 k ∧ Row wr 3 1 v (rest (xs.take k) bs).length ((rest (xs.take k) bs).map (Value.int .i64)) ∧ Chg [] w wr ∧ ∀ x ∈ rowBlock v, w.heap.size ≤ x)
      (fun _ _ c _ => n1 - (intOf c).toNat)
    case atStart => exact ⟨0, Nat.zero_le _, rfl, Row.nil _ _ _ _, Chg.refl _ _, by simp [rowBlock]⟩
    case round =>
      obtain ⟨k, hk, rfl, hrow, hch, hnew⟩ := hrel
      obtain ⟨av, cv, rfl, hle, hcm⟩ := hrow.shape
      have h2r := h2.kept0 hch
      have hlr : (rest (xs.take k) bs).length ≤ k := Nat.le_trans (List.length_filter_le _ _) (by simp; omega)
      have HN := Lib.hid hnew
      clear hnew
      by_cases hlt : k < n1
      · have hc : wr.cell? ⟨b, off + k, none⟩ = some (.int .i64 (xs.getD k 0)) := hch.cell (hcell k hlt) (by simp)
        have hsn := Lib.hid (rest_snoc xs bs k (by omega))
        clear hcell
        go_wp2_with (first
          | (go_at_call 41; refine (out_any _ _ _ _ _ _ h2r).mono ?_; rintro e w' ⟨rfl, rfl⟩)
          | (at_builtin; refine wpList_append_row _ rfl _ _ 22 rfl 3 i0 (.int .i64 0) 1 8 Try.underlying22 hi hz0 hz1 hz2 rfl (by decide) _ _ _ rfl (hrow.alloc _) _ 1 1 [.int .i64 xs[k]] rfl rfl (srcNew1 _ _ _ _) (by simp [Value.oneCell']) (by unfold maxLen; omega) (by omega) ?_))
        · intro v' w' hrow' hch' hsub
          have hb : (!decide (xs[k] ∈ bs)) = true := by assumption
          have hb' : xs[k] ∉ bs := by simpa using hb
          have e1 : rest (xs.take (k + 1)) bs = rest (xs.take k) bs ++ [xs[k]] := by rw [hsn.out]; simp [hb']
          have R1 := Lib.hid (show Row w' 3 1 v' (rest (xs.take (k + 1)) bs).length ((rest (xs.take (k + 1)) bs).map (Value.int .i64)) from by rw [e1]; simpa using hrow')
          have R2 := Lib.hid (show Chg [] w w' from (hch.alloc _).trans hch' (fun x hx => .inr (HN.out x hx)))
          have R3 := Lib.hid (show ∀ x ∈ rowBlock v', w.heap.size ≤ x from fun x hx => by
            rcases hsub x hx with h | h
            · exact HN.out x h
            · have := hch.size; omega)
          clear hrow' hch' hsub e1 hb hb' hsn hc h2r hch hrow h1 h2 HN
          go_wp2
          go_roundw
          case rel => exact ⟨k + 1, by omega, by go_num, R1.out, R2.out, R3.out⟩
          case measure => simp [intOf]; omega
        · have hb : (!decide (xs[k] ∈ bs)) = false := by assumption
          have hb' : xs[k] ∈ bs := by simpa using hb
          have e1 : rest (xs.take (k + 1)) bs = rest (xs.take k) bs := by rw [hsn.out]; simp [hb']
          go_roundw
          case rel => exact ⟨k + 1, by omega, by go_num, by rw [e1]; exact hrow, hch, HN.out⟩
          case measure => simp [intOf]; omega
      · obtain rfl : k = n1 := by omega
        have e1 : xs.take k = xs := List.take_of_length_le (by omega)
        have E1 := Lib.hid e1
        clear e1 hcell
        go_wp2_with (go_at_call 43; refine (clip_any _ _ _ _ hle hcm).mono ?_; rintro e w' ⟨rfl, rfl⟩)
        go_ret
        exact ⟨av, (rest (xs.take k) bs).length, congrArg (fun l => Ending.returned (.slice av (rest l bs).length (rest (xs.take k) bs).length)) E1.out, hch⟩

theorem sub_any (a1 : Option Addr) (n1 c1 : Nat) (xs : List Int) (a2 : Option Addr) (n2 c2 : Nat) (bs : List Int) (w : World) (h1 : Nums w a1 n1 c1 xs) (h2 : Nums w a2 n2 c2 bs) (hreach : n1 * 8 ≤ 140737488351232) :
    Calls Try.prog 36 #[.slice a1 n1 c1, .slice a2 n2 c2] w fun e w' => e = .returned (.bool (Pi.subB xs bs)) ∧ Chg [] w w' := by
  have hlen : (rest xs bs).length ≤ n1 := by rw [← h1.1]; exact List.length_filter_le _ _
  have hb : ((rest xs bs).length : Int) == 0 ↔ Pi.subB xs bs = true := by
    rw [beq_iff_eq]
    unfold Pi.subB rest
    rw [List.all_eq_true]
    constructor
    · intro h x hx
      have : xs.filter (fun x => !bs.contains x) = [] := List.eq_nil_of_length_eq_zero (by omega)
      rw [List.filter_eq_nil_iff] at this
      simpa using this x hx
    · intro h
      have : xs.filter (fun x => !bs.contains x) = [] := by
        rw [List.filter_eq_nil_iff]
        intro x hx
        simpa using h x hx
      rw [this]; rfl
  have HB := Lib.hid hb
  clear hb
  go_enter Try.func36, Try.ntmps36
  go_wp2_with fail
  refine (some_out _ _ _ _ _ _ _ _ _ h1 h2 hreach).mono ?_
  rintro e w' ⟨a, c, rfl, hch⟩
  go_wp2
  go_ret
  exact ⟨ret_bool (by
    have := HB.out
    cases h : Pi.subB xs bs <;> simp_all), hch⟩

end Go.Proofs.Ytihkanbkcnonoaa
