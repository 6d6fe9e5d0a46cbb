/-
  Texts without wrong characters, in plain words; what a dollar, two quotes and a word read does not hang on what stands behind.
-/
import Derived.Test.YtocngneomllmoaaDoorLTokens
namespace Go.Proofs.YtocngneomllmoaaDoor
open Go.RowKit
set_option linter.unusedVariables false

/-- no wrong character. -/
def VT (r : List UInt8) : Prop := ∀ p, Lx.badP (r.length + 1) r p = none

theorem badP_shift : ∀ (f : Nat) (r : List UInt8) (p p' : Nat), Lx.badP f r p = none → Lx.badP f r p' = none
  | 0, _, _, _, _ => rfl
  | f + 1, r, p, p', h => by
    by_cases hr : r = []
    · subst hr; rw [badP_nil]
    · rw [badP_cons _ _ _ hr] at h ⊢
      split at h
      · cases h
      · rename_i hw
        rw [if_neg hw]
        exact badP_shift f _ _ _ h

theorem VT_nil : VT [] := fun p => badP_nil _ _

theorem VT_step (r : List UInt8) (h : r ≠ []) : VT r ↔ (Lx.wrongB (Lx.rune r) (Lx.wid r) = false ∧ VT (r.drop (Lx.wid r))) := by
  have hp := Lx.wid_pos r h
  have hl := Lx.wid_le r h
  have key : ∀ p, Lx.badP (r.length + 1) r p = if Lx.wrongB (Lx.rune r) (Lx.wid r) = true then some p else Lx.badP ((r.drop (Lx.wid r)).length + 1) (r.drop (Lx.wid r)) (p + Lx.wid r) := by
    intro p
    rw [badP_cons _ _ _ h, badP_fuel (r.drop (Lx.wid r)).length r.length ((r.drop (Lx.wid r)).length + 1) _ _ (Nat.le_refl _) (by rw [List.length_drop]; omega) (by omega)]
  constructor
  · intro hv
    have h0 := hv 0
    rw [key] at h0
    split at h0
    · cases h0
    · rename_i hw
      exact ⟨by simpa using hw, fun p => badP_shift _ _ _ _ h0⟩
  · rintro ⟨hw, hv⟩ p
    rw [key, if_neg (by rw [hw]; simp)]
    exact hv _

theorem whole_of (r : List UInt8) (h : Lx.wrongB (Lx.rune r) (Lx.wid r) = false) : Lx.rune r ≠ 65533 ∨ Lx.wid r ≠ 1 := by
  by_cases h1 : Lx.rune r = 65533
  · right
    intro h2
    rw [wrong_low, h1, h2] at h
    simp at h
  · exact .inl h1

theorem VT_append : ∀ (n : Nat) (a b : List UInt8), a.length ≤ n → VT a → VT b → VT (a ++ b)
  | 0, a, b, h, _, hb => by
    have : a = [] := List.eq_nil_of_length_eq_zero (by omega)
    subst this; exact hb
  | n + 1, a, b, h, ha, hb => by
    by_cases hn : a = []
    · subst hn; exact hb
    · obtain ⟨h1, h2⟩ := (VT_step a hn).1 ha
      have hp := Lx.wid_pos a hn
      have hl := Lx.wid_le a hn
      obtain ⟨e1, e2⟩ := dec_append a b hn (whole_of a h1)
      refine (VT_step (a ++ b) (by simp [hn])).2 ?_
      rw [e1, e2, List.drop_append_of_le_length hl]
      exact ⟨h1, VT_append n _ _ (by rw [List.length_drop]; omega) h2 hb⟩

theorem dec_back (n m b0 b1 b2 b3 c1 c2 c3 : Nat) (h0 : 1 ≤ n) (h1 : 1 < n → c1 = b1) (h2 : 2 < n → c2 = b2) (h3 : 3 < n → c3 = b3) (hbad : Lib.decodeN (n + m) b0 c1 c2 c3 ≠ (65533, 1)) (hk : (Lib.decodeN (n + m) b0 c1 c2 c3).2 ≤ n) :
    Lib.decodeN n b0 b1 b2 b3 = Lib.decodeN (n + m) b0 c1 c2 c3 := by
  by_cases k0 : b0 < 128
  · unfold Lib.decodeN
    rw [if_pos k0, if_pos k0]
  · by_cases k1 : b0 / 32 = 6 ∧ (1 < n + m ∧ c1 / 64 = 2)
    · have e1 : Lib.decodeN (n + m) b0 c1 c2 c3 = (if b0 % 32 * 64 + c1 % 64 ≥ 128 then (b0 % 32 * 64 + c1 % 64, 2) else (65533, 1)) := by unfold Lib.decodeN; rw [if_neg k0, if_pos k1]
      rw [e1] at hbad hk ⊢
      by_cases g : b0 % 32 * 64 + c1 % 64 ≥ 128
      · rw [if_pos g] at hk
        have hk : 2 ≤ n := hk
        obtain rfl := h1 (by omega)
        unfold Lib.decodeN
        rw [if_neg k0, if_pos (And.intro k1.1 (And.intro (by omega) k1.2.2))]
      · rw [if_neg g] at hbad
        exact absurd rfl hbad
    · by_cases k2 : b0 / 16 = 14 ∧ (1 < n + m ∧ c1 / 64 = 2) ∧ (2 < n + m ∧ c2 / 64 = 2)
      · have e1 : Lib.decodeN (n + m) b0 c1 c2 c3 = (if b0 % 16 * 4096 + c1 % 64 * 64 + c2 % 64 ≥ 2048 ∧ (b0 % 16 * 4096 + c1 % 64 * 64 + c2 % 64 < 55296 ∨ (57344 ≤ b0 % 16 * 4096 + c1 % 64 * 64 + c2 % 64 ∧ b0 % 16 * 4096 + c1 % 64 * 64 + c2 % 64 ≤ 1114111)) then (b0 % 16 * 4096 + c1 % 64 * 64 + c2 % 64, 3) else (65533, 1)) := by
          unfold Lib.decodeN; rw [if_neg k0, if_neg k1, if_pos k2]
        rw [e1] at hbad hk ⊢
        by_cases g : b0 % 16 * 4096 + c1 % 64 * 64 + c2 % 64 ≥ 2048 ∧ (b0 % 16 * 4096 + c1 % 64 * 64 + c2 % 64 < 55296 ∨ (57344 ≤ b0 % 16 * 4096 + c1 % 64 * 64 + c2 % 64 ∧ b0 % 16 * 4096 + c1 % 64 * 64 + c2 % 64 ≤ 1114111))
        · rw [if_pos g] at hk
          have hk : 3 ≤ n := hk
          obtain rfl := h1 (by omega)
          obtain rfl := h2 (by omega)
          unfold Lib.decodeN
          rw [if_neg k0, if_neg (fun e => by have := e.1; have := k2.1; omega), if_pos (And.intro k2.1 (And.intro (And.intro (by omega) k2.2.1.2) (And.intro (by omega) k2.2.2.2)))]
        · rw [if_neg g] at hbad
          exact absurd rfl hbad
      · by_cases k3 : b0 / 8 = 30 ∧ (1 < n + m ∧ c1 / 64 = 2) ∧ (2 < n + m ∧ c2 / 64 = 2) ∧ (3 < n + m ∧ c3 / 64 = 2)
        · have e1 : Lib.decodeN (n + m) b0 c1 c2 c3 = (if b0 % 8 * 262144 + c1 % 64 * 4096 + c2 % 64 * 64 + c3 % 64 ≥ 65536 ∧ (b0 % 8 * 262144 + c1 % 64 * 4096 + c2 % 64 * 64 + c3 % 64 < 55296 ∨ (57344 ≤ b0 % 8 * 262144 + c1 % 64 * 4096 + c2 % 64 * 64 + c3 % 64 ∧ b0 % 8 * 262144 + c1 % 64 * 4096 + c2 % 64 * 64 + c3 % 64 ≤ 1114111)) then (b0 % 8 * 262144 + c1 % 64 * 4096 + c2 % 64 * 64 + c3 % 64, 4) else (65533, 1)) := by
            unfold Lib.decodeN; rw [if_neg k0, if_neg k1, if_neg k2, if_pos k3]
          rw [e1] at hbad hk ⊢
          by_cases g : b0 % 8 * 262144 + c1 % 64 * 4096 + c2 % 64 * 64 + c3 % 64 ≥ 65536 ∧ (b0 % 8 * 262144 + c1 % 64 * 4096 + c2 % 64 * 64 + c3 % 64 < 55296 ∨ (57344 ≤ b0 % 8 * 262144 + c1 % 64 * 4096 + c2 % 64 * 64 + c3 % 64 ∧ b0 % 8 * 262144 + c1 % 64 * 4096 + c2 % 64 * 64 + c3 % 64 ≤ 1114111))
          · rw [if_pos g] at hk
            have hk : 4 ≤ n := hk
            obtain rfl := h1 (by omega)
            obtain rfl := h2 (by omega)
            obtain rfl := h3 (by omega)
            unfold Lib.decodeN
            rw [if_neg k0, if_neg (fun e => by have := e.1; have := k3.1; omega), if_neg (fun e => by have := e.1; have := k3.1; omega), if_pos (And.intro k3.1 (And.intro (And.intro (by omega) k3.2.1.2) (And.intro (And.intro (by omega) k3.2.2.1.2) (And.intro (by omega) k3.2.2.2.2))))]
          · rw [if_neg g] at hbad
            exact absurd rfl hbad
        · refine absurd ?_ hbad
          unfold Lib.decodeN
          rw [if_neg k0, if_neg k1, if_neg k2, if_neg k3]

/-- a whole character that ends within a: it is a's own. -/
theorem dec_cut (a x : List UInt8) (h : a ≠ []) (hr : Lx.rune (a ++ x) ≠ 65533 ∨ Lx.wid (a ++ x) ≠ 1) (hl : Lx.wid (a ++ x) ≤ a.length) : Lx.rune a = Lx.rune (a ++ x) ∧ Lx.wid a = Lx.wid (a ++ x) := by
  have h1 : 1 ≤ a.length := by cases a with | nil => exact absurd rfl h | cons c t => simp
  have g : ∀ j, j < a.length → (a ++ x).getD j 0 = a.getD j 0 := fun j hj => by
    rw [List.getD_eq_getElem?_getD, List.getElem?_append_left hj, ← List.getD_eq_getElem?_getD]
  have d1 := Lx.dec_eq a
  have d2 := Lx.dec_eq (a ++ x)
  rw [List.length_append, g 0 (by omega)] at d2
  rw [dec_back a.length x.length _ _ _ _ ((a ++ x).getD 1 0).toNat ((a ++ x).getD 2 0).toNat ((a ++ x).getD 3 0).toNat h1 (fun h => by rw [g 1 h]) (fun h => by rw [g 2 h]) (fun h => by rw [g 3 h]) ?_ ?_, ← d2] at d1
  · exact Prod.mk.inj d1
  · rw [← d2]
    intro e
    obtain ⟨e1, e2⟩ := Prod.mk.inj e
    rcases hr with hr | hr
    · exact hr e1
    · exact hr e2
  · rw [← d2]
    exact hl

theorem VT_cut : ∀ (n : Nat) (a : List UInt8) (c : UInt8) (b : List UInt8), a.length ≤ n → c.toNat < 128 → VT (a ++ c :: b) → VT a ∧ VT (c :: b)
  | 0, a, c, b, h, _, hv => by
    have : a = [] := List.eq_nil_of_length_eq_zero (by omega)
    subst this; exact ⟨VT_nil, hv⟩
  | n + 1, [], c, b, _, _, hv => ⟨VT_nil, hv⟩
  | n + 1, d :: a, c, b, h, hc, hv => by
    obtain ⟨h1, h2⟩ := (VT_step (d :: a ++ c :: b) (by simp)).1 hv
    have hp := Lx.wid_pos (d :: a ++ c :: b) (by simp)
    rw [List.length_cons] at h
    have hle : Lx.wid (d :: a ++ c :: b) ≤ (d :: a).length := by
      by_cases hd : d.toNat < 128
      · rw [List.cons_append, (Lx.dec_ascii d _ hd).2, List.length_cons]; omega
      · refine Nat.not_lt.1 fun hlt => ?_
        have hm : c ∈ (d :: a ++ c :: b).take (Lx.wid (d :: a ++ c :: b)) := by
          refine List.mem_iff_getElem?.2 ⟨(d :: a).length, ?_⟩
          rw [List.getElem?_take, if_pos hlt, List.getElem?_append_right (Nat.le_refl _), Nat.sub_self]
          rfl
        have := Lx.wid_high d (a ++ c :: b) (by omega) c hm
        omega
    rw [List.drop_append_of_le_length hle] at h2
    obtain ⟨h3, h4⟩ := VT_cut n _ c b (by rw [List.length_drop, List.length_cons]; omega) hc h2
    obtain ⟨e1, e2⟩ := dec_cut (d :: a) (c :: b) (by simp) (whole_of _ h1) hle
    refine ⟨(VT_step (d :: a) (by simp)).2 ?_, h4⟩
    rw [e1, e2]
    exact ⟨h1, h3⟩

theorem VT_tail (c : UInt8) (t : List UInt8) (hc : c.toNat < 128) (h : VT (c :: t)) : VT t := by
  have := ((VT_step (c :: t) (by simp)).1 h).2
  rwa [(Lx.dec_ascii c t hc).2] at this

/-- the character behind a backslash is read alike, whatever stands behind it. -/
theorem wid_local (t y : List UInt8) (h : t ≠ []) (hv : VT t) : Lx.wid (t.take (Lx.wid t) ++ y) = Lx.wid t := by
  have hp := Lx.wid_pos t h
  have hl := Lx.wid_le t h
  have hw := whole_of t ((VT_step t h).1 hv).1
  have e : t.take (Lx.wid t) ++ t.drop (Lx.wid t) = t := List.take_append_drop _ _
  have hne : t.take (Lx.wid t) ≠ [] := by intro e; have := congrArg List.length e; rw [List.length_take, List.length_nil] at this; omega
  obtain ⟨c1, c2⟩ := dec_cut (t.take (Lx.wid t)) (t.drop (Lx.wid t)) hne (by rw [e]; exact hw) (by rw [e, List.length_take]; omega)
  rw [e] at c1 c2
  obtain ⟨d1, d2⟩ := dec_append (t.take (Lx.wid t)) y hne (by rw [c1, c2]; exact hw)
  rw [d2, c2]

theorem takeWhile_cut {p : UInt8 → Bool} (a y : List UInt8) (ha : ∀ c ∈ a, p c = true) (hy : y = [] ∨ p (y.getD 0 0) = false) : (a ++ y).takeWhile p = a := by
  induction a with
  | nil =>
    rcases hy with rfl | hy
    · rfl
    · cases y with
      | nil => rfl
      | cons d y =>
        have : p d = false := hy
        simp [this]
  | cons c a ih =>
    rw [List.cons_append, List.takeWhile_cons, if_pos (ha c (by simp)), ih (fun d hd => ha d (by simp [hd]))]

theorem nameR_mem (t : List UInt8) : ∀ c ∈ t.take (nameR t), Lx.laterB c = true := by
  intro c hc
  obtain ⟨j, hj⟩ := List.mem_iff_getElem?.1 hc
  rw [List.getElem?_take] at hj
  split at hj
  · rename_i hlt
    have := nameR_later t j hlt
    rw [List.getD_eq_getElem?_getD, hj] at this
    exact this
  · cases hj

theorem nameR_stop (t : List UInt8) (h : 0 < nameR t) : t.drop (nameR t) = [] ∨ Lx.laterB ((t.drop (nameR t)).getD 0 0) = false := by
  unfold nameR at h ⊢
  split at h
  · rename_i hc
    rw [if_pos hc]
    have key : ∀ t : List UInt8, t.drop (t.takeWhile Lx.laterB).length = [] ∨ Lx.laterB ((t.drop (t.takeWhile Lx.laterB).length).getD 0 0) = false := by
      intro t
      induction t with
      | nil => left; rfl
      | cons c t ih =>
        by_cases hl : Lx.laterB c = true
        · rw [List.takeWhile_cons, if_pos hl, List.length_cons, List.drop_succ_cons]; exact ih
        · rw [List.takeWhile_cons, if_neg hl]
          right
          simpa using hl
    exact key t
  · omega

theorem firstB_later (c : UInt8) (h : Lx.laterB c = false) : Lx.firstB c = false := by
  cases hf : Lx.firstB c with
  | false => rfl
  | true => rw [first_later c hf] at h; cases h

/-- the name at the beginning of a then y, where a is the whole name of a ++ b (or 32 bytes of it). -/
theorem name_local (t y : List UInt8) (hy : y.head? = (t.drop (min 32 (nameR t))).head? ∨ y.head? = some 32) :
    min 32 (nameR (t.take (min 32 (nameR t)) ++ y)) = min 32 (nameR t) := by
  obtain ⟨q, hq⟩ : ∃ q, min 32 (nameR t) = q := ⟨_, rfl⟩
  rw [hq] at hy ⊢
  by_cases h0 : q = 0
  · subst h0
    rw [List.take_zero, List.nil_append]
    rw [List.drop_zero] at hy
    have hz : nameR t = 0 := by omega
    have hf : Lx.firstB (t.getD 0 0) = false ∨ t = [] := by
      by_cases ht : t = []
      · exact .inr ht
      · left
        cases hf : Lx.firstB (t.getD 0 0) with
        | false => rfl
        | true =>
          unfold nameR at hz
          rw [if_pos ⟨hf, ht⟩] at hz
          cases t with
          | nil => exact absurd rfl ht
          | cons c t =>
            have : Lx.firstB c = true := hf
            rw [List.takeWhile_cons, if_pos (first_later c this)] at hz
            simp at hz
    have hyz : nameR y = 0 := by
      unfold nameR
      rw [if_neg]
      rintro ⟨h1, h2⟩
      cases y with
      | nil => exact h2 rfl
      | cons d y =>
        have h1 : Lx.firstB d = true := h1
        rcases hy with hy | hy
        · cases t with
          | nil => simp at hy
          | cons c t =>
            simp at hy
            subst hy
            rcases hf with hf | hf
            · have hf : Lx.firstB d = false := hf
              rw [hf] at h1; cases h1
            · cases hf
        · simp at hy
          subst hy
          exact absurd h1 (by decide)
    rw [hyz]
    rfl
  · have hle := nameR_le t
    have hall : ∀ c ∈ t.take q, Lx.laterB c = true := fun c hc => nameR_mem t c (by
      have : t.take q = (t.take (nameR t)).take q := by rw [List.take_take, Nat.min_eq_left (by omega)]
      rw [this] at hc
      exact List.mem_of_mem_take hc)
    have hlen : (t.take q).length = q := by rw [List.length_take]; omega
    obtain ⟨c, a, hca⟩ : ∃ c a, t.take q = c :: a := by
      cases h : t.take q with
      | nil => rw [h] at hlen; simp at hlen; omega
      | cons c a => exact ⟨c, a, rfl⟩
    have hfc : Lx.firstB c = true := by
      have hnz : 0 < nameR t := by omega
      unfold nameR at hnz
      split at hnz
      · rename_i hf
        cases t with
        | nil => simp at hca
        | cons d t =>
          obtain ⟨k, rfl⟩ : ∃ k, q = k + 1 := ⟨q - 1, by omega⟩
          rw [List.take_succ_cons] at hca
          rw [← (List.cons.inj hca).1]
          exact hf.1
      · omega
    have hnR : nameR (t.take q ++ y) = ((t.take q ++ y).takeWhile Lx.laterB).length := by
      unfold nameR
      rw [if_pos]
      rw [hca]
      exact ⟨hfc, by simp⟩
    by_cases h32 : q = 32
    · have : 32 ≤ nameR (t.take q ++ y) := by
        rw [hnR]
        refine takeWhile_ge (fun j hj => ?_) (by rw [List.length_append, hlen]; omega)
        rw [List.getD_eq_getElem?_getD, List.getElem?_append_left (by omega), List.getElem?_eq_getElem (by omega)]
        exact hall _ (List.getElem_mem _)
      omega
    · have hqn : q = nameR t := by omega
      have hst := nameR_stop t (by omega)
      rw [← hqn] at hst
      rw [hnR, takeWhile_cut (t.take q) y hall, hlen]
      · omega
      · cases y with
        | nil => exact .inl rfl
        | cons d y =>
          right
          show Lx.laterB d = false
          rcases hy with hy | hy
          · rcases hst with hst | hst
            · rw [hst] at hy; simp at hy
            · cases hdr : t.drop q with
              | nil => rw [hdr] at hy; simp at hy
              | cons e z =>
                rw [hdr] at hy hst
                simp at hy
                subst hy
                exact hst
          · simp at hy
            subst hy
            decide

theorem nameR_pre (a y : List UInt8) (h0 : a ≠ []) (hf : Lx.firstB (a.getD 0 0) = true) (ha : ∀ c ∈ a, Lx.laterB c = true) (hy : y = [] ∨ Lx.laterB (y.getD 0 0) = false) : nameR (a ++ y) = a.length := by
  unfold nameR
  rw [if_pos, takeWhile_cut a y ha hy]
  cases a with
  | nil => exact absurd rfl h0
  | cons c a => exact ⟨hf, by simp⟩

theorem nameR_first (t : List UInt8) (h : 0 < nameR t) : Lx.firstB (t.getD 0 0) = true := by
  unfold nameR at h
  split at h
  · rename_i hc; exact hc.1
  · omega

/-- a dollar reads the same, whatever stands behind what it reads, as long as that begins alike, or with a blank. -/
theorem dollar_local (t y : List UInt8) (m : Nat) (hm : (Lx.dollarP t).2 = (m : Int)) (hy : y.head? = (t.drop (m - 1)).head? ∨ y.head? = some 32) : Lx.dollarP (t.take (m - 1) ++ y) = Lx.dollarP t := by
  by_cases h63 : t.head? = some 63
  · cases t with
    | nil => cases h63
    | cons c t =>
      simp at h63
      subst h63
      have : m = 2 := by
        have e : (Lx.dollarP (63 :: t)).2 = 2 := rfl
        rw [e] at hm; omega
      subst this
      rfl
  · by_cases h123 : t.head? = some 123
    · cases t with
      | nil => cases h123
      | cons c t =>
        simp at h123
        subst h123
        rw [dollarP_brace] at hm ⊢
        split at hm
        · rename_i hk
          rw [if_pos hk]
          simp only at hm
          have hmm : m - 1 = nameR t + 2 := by omega
          obtain ⟨k1, k2, k3⟩ := hk
          have hlt := (List.getElem?_eq_some_iff.1 k3).1
          have ht : t.take (nameR t + 1) = t.take (nameR t) ++ [125] := by
            rw [List.take_succ_eq_append_getElem hlt, (List.getElem?_eq_some_iff.1 k3).2]
          have e : (123 :: t).take (m - 1) ++ y = 123 :: (t.take (nameR t) ++ (125 :: y)) := by
            rw [hmm, List.take_succ_cons, ht]
            simp
          have hnl : nameR (t.take (nameR t) ++ (125 :: y)) = nameR t := by
            have hca : t.take (nameR t) ≠ [] := by intro e; have := congrArg List.length e; rw [List.length_take, List.length_nil] at this; omega
            rw [nameR_pre (t.take (nameR t)) (125 :: y) hca ?_ (nameR_mem t) (.inr (show Lx.laterB 125 = false from by decide)), List.length_take]
            · omega
            · have hf := nameR_first t (by omega)
              cases t with
              | nil => simp at hlt
              | cons d t =>
                obtain ⟨k, hk⟩ : ∃ k, nameR (d :: t) = k + 1 := ⟨nameR (d :: t) - 1, by omega⟩
                rw [hk, List.take_succ_cons]
                exact hf
          rw [e, dollarP_brace, hnl, if_pos]
          · rw [List.take_append_of_le_length (by rw [List.length_take]; omega), List.take_take, Nat.min_self]
          · refine ⟨k1, k2, ?_⟩
            rw [List.getElem?_append_right (by rw [List.length_take]; omega), List.length_take, Nat.min_eq_left (by omega), Nat.sub_self]
            rfl
        · simp only at hm
          omega
    · rw [dollarP_plain t h63 h123] at hm ⊢
      simp only at hm
      have hmm : m - 1 = min 32 (nameR t) := by omega
      rw [hmm] at hy ⊢
      have hle := nameR_le t
      have hnl := name_local t y hy
      have hh : ∀ c : UInt8, (c = 63 ∨ c = 123) → (t.take (min 32 (nameR t)) ++ y).head? ≠ some c := by
        intro c hc e
        cases hta : t.take (min 32 (nameR t)) with
        | nil =>
          rw [hta, List.nil_append] at e
          have hz : min 32 (nameR t) = 0 ∨ t = [] := by
            have := congrArg List.length hta
            rw [List.length_take, List.length_nil] at this
            cases t with
            | nil => exact .inr rfl
            | cons _ _ => rw [List.length_cons] at this; left; omega
          rcases hy with hy | hy
          · rw [e] at hy
            have hd : (t.drop (min 32 (nameR t))).head? = t.head? := by
              rcases hz with hz | hz
              · rw [hz, List.drop_zero]
              · subst hz; simp
            rw [hd] at hy
            rcases hc with rfl | rfl
            · exact h63 hy.symm
            · exact h123 hy.symm
          · rw [e] at hy
            have := Option.some.inj hy
            rcases hc with rfl | rfl <;> exact absurd this (by decide)
        | cons d z =>
          rw [hta] at e
          simp at e
          subst e
          have hd : t.head? = some d := by
            cases t with
            | nil => simp at hta
            | cons b t =>
              cases hq : min 32 (nameR (b :: t)) with
              | zero => rw [hq] at hta; simp at hta
              | succ k =>
                rw [hq, List.take_succ_cons] at hta
                simp [(List.cons.inj hta).1]
          rcases hc with rfl | rfl
          · exact h63 hd
          · exact h123 hd
      rw [dollarP_plain _ (hh 63 (.inl rfl)) (hh 123 (.inr rfl)), hnl, List.take_append_of_le_length (by rw [List.length_take]; omega), List.take_take, Nat.min_self]

end Go.Proofs.YtocngneomllmoaaDoor
