/-
  What stands between single quotes, in plain words.
-/
import Derived.Test.YtocngneomllmoaaDoorPlaces
namespace Go.Proofs.YtocngneomllmoaaDoor
open Go.RowKit
set_option linter.unusedVariables false

theorem dec_num (n m b0 b1 b2 b3 c1 c2 c3 : Nat) (h1 : 1 < n → c1 = b1) (h2 : 2 < n → c2 = b2) (h3 : 3 < n → c3 = b3) (hbad : Lib.decodeN n b0 b1 b2 b3 ≠ (65533, 1)) : Lib.decodeN (n + m) b0 c1 c2 c3 = Lib.decodeN n b0 b1 b2 b3 := by
  by_cases k0 : b0 < 128
  · unfold Lib.decodeN
    rw [if_pos k0, if_pos k0]
  · by_cases k1 : b0 / 32 = 6 ∧ (1 < n ∧ b1 / 64 = 2)
    · have l1 := k1.2.1
      obtain rfl := h1 l1
      have e1 : Lib.decodeN n b0 c1 b2 b3 = (if b0 % 32 * 64 + c1 % 64 ≥ 128 then (b0 % 32 * 64 + c1 % 64, 2) else (65533, 1)) := by unfold Lib.decodeN; rw [if_neg k0, if_pos k1]
      rw [e1]
      unfold Lib.decodeN
      rw [if_neg k0, if_pos (And.intro k1.1 (And.intro (by omega) k1.2.2))]
    · by_cases k2 : b0 / 16 = 14 ∧ (1 < n ∧ b1 / 64 = 2) ∧ (2 < n ∧ b2 / 64 = 2)
      · have l2 := k2.2.2.1
        obtain rfl := h1 (by omega)
        obtain rfl := h2 l2
        have e1 : Lib.decodeN n b0 c1 c2 b3 = (if b0 % 16 * 4096 + c1 % 64 * 64 + c2 % 64 ≥ 2048 ∧ (b0 % 16 * 4096 + c1 % 64 * 64 + c2 % 64 < 55296 ∨ (57344 ≤ b0 % 16 * 4096 + c1 % 64 * 64 + c2 % 64 ∧ b0 % 16 * 4096 + c1 % 64 * 64 + c2 % 64 ≤ 1114111)) then (b0 % 16 * 4096 + c1 % 64 * 64 + c2 % 64, 3) else (65533, 1)) := by
          unfold Lib.decodeN; rw [if_neg k0, if_neg k1, if_pos k2]
        rw [e1]
        unfold Lib.decodeN
        rw [if_neg k0, if_neg (fun e => by have := e.1; have := k2.1; omega), if_pos (And.intro k2.1 (And.intro (And.intro (by omega) k2.2.1.2) (And.intro (by omega) k2.2.2.2)))]
      · by_cases k3 : b0 / 8 = 30 ∧ (1 < n ∧ b1 / 64 = 2) ∧ (2 < n ∧ b2 / 64 = 2) ∧ (3 < n ∧ b3 / 64 = 2)
        · have l3 := k3.2.2.2.1
          obtain rfl := h1 (by omega)
          obtain rfl := h2 (by omega)
          obtain rfl := h3 l3
          have e1 : Lib.decodeN n b0 c1 c2 c3 = (if b0 % 8 * 262144 + c1 % 64 * 4096 + c2 % 64 * 64 + c3 % 64 ≥ 65536 ∧ (b0 % 8 * 262144 + c1 % 64 * 4096 + c2 % 64 * 64 + c3 % 64 < 55296 ∨ (57344 ≤ b0 % 8 * 262144 + c1 % 64 * 4096 + c2 % 64 * 64 + c3 % 64 ∧ b0 % 8 * 262144 + c1 % 64 * 4096 + c2 % 64 * 64 + c3 % 64 ≤ 1114111)) then (b0 % 8 * 262144 + c1 % 64 * 4096 + c2 % 64 * 64 + c3 % 64, 4) else (65533, 1)) := by
            unfold Lib.decodeN; rw [if_neg k0, if_neg k1, if_neg k2, if_pos k3]
          rw [e1]
          unfold Lib.decodeN
          rw [if_neg k0, if_neg (fun e => by have := e.1; have := k3.1; omega), if_neg (fun e => by have := e.1; have := k3.1; omega), if_pos (And.intro k3.1 (And.intro (And.intro (by omega) k3.2.1.2) (And.intro (And.intro (by omega) k3.2.2.1.2) (And.intro (by omega) k3.2.2.2.2))))]
        · refine absurd ?_ hbad
          unfold Lib.decodeN
          rw [if_neg k0, if_neg k1, if_neg k2, if_neg k3]

/-- a character that is whole stays as it is, whatever comes behind. -/
theorem dec_append (r x : List UInt8) (h : r ≠ []) (hr : Lx.rune r ≠ 65533 ∨ Lx.wid r ≠ 1) : Lx.rune (r ++ x) = Lx.rune r ∧ Lx.wid (r ++ x) = Lx.wid r := by
  have h1 : 1 ≤ r.length := by cases r with | nil => exact absurd rfl h | cons c t => simp
  have g : ∀ j, j < r.length → (r ++ x).getD j 0 = r.getD j 0 := fun j hj => by
    rw [List.getD_eq_getElem?_getD, List.getElem?_append_left hj, ← List.getD_eq_getElem?_getD]
  have d1 := Lx.dec_eq r
  have d2 := Lx.dec_eq (r ++ x)
  rw [List.length_append, g 0 (by omega), dec_num _ _ _ (r.getD 1 0).toNat (r.getD 2 0).toNat (r.getD 3 0).toNat _ _ _ (fun h => by rw [g 1 h]) (fun h => by rw [g 2 h]) (fun h => by rw [g 3 h]) ?_, ← d1] at d2
  · exact Prod.mk.inj d2
  · rw [← d1]
    intro e
    obtain ⟨e1, e2⟩ := Prod.mk.inj e
    rcases hr with hr | hr
    · exact hr e1
    · exact hr e2

theorem badP_nil (f p : Nat) : Lx.badP f [] p = none := by
  cases f with
  | zero => rfl
  | succ f => unfold Lx.badP; rw [if_pos rfl]

theorem badP_cons (f : Nat) (r : List UInt8) (p : Nat) (h : r ≠ []) : Lx.badP (f + 1) r p = if Lx.wrongB (Lx.rune r) (Lx.wid r) = true then some p else Lx.badP f (r.drop (Lx.wid r)) (p + Lx.wid r) := by
  conv => lhs; unfold Lx.badP
  rw [if_neg h]

theorem badP_fuel : ∀ (n f f' : Nat) (r : List UInt8) (p : Nat), r.length ≤ n → n < f → n < f' → Lx.badP f r p = Lx.badP f' r p
  | n, f, f', [], p, _, _, _ => by rw [badP_nil, badP_nil]
  | 0, _, _, _ :: _, _, h, _, _ => by simp at h
  | n + 1, 0, _, _ :: _, _, _, h, _ => by omega
  | n + 1, _ + 1, 0, _ :: _, _, _, _, h => by omega
  | n + 1, f + 1, f' + 1, c :: t, p, h, h1, h2 => by
    have hw := Lx.wid_pos (c :: t) (by simp)
    rw [List.length_cons] at h
    rw [badP_cons _ _ _ (by simp), badP_cons _ _ _ (by simp), badP_fuel n f f' _ _ (by rw [List.length_drop, List.length_cons]; omega) (by omega) (by omega)]

/-- may this character not stand between the quotes of the law? -/
def qbadB (u : Nat) : Bool := u == 39 || (decide (u < 32) && !(u == 10) && !(u == 9)) || u == 127 || u == 65533
def qokP : Nat → List UInt8 → Bool
  | 0, _ => false
  | f + 1, r => if r = [] then true else if qbadB (Lx.rune r) = true then false else qokP f (r.drop (Lx.wid r))

theorem qokP_nil (f : Nat) : qokP (f + 1) [] = true := by unfold qokP; rw [if_pos rfl]
theorem qokP_cons (f : Nat) (r : List UInt8) (h : r ≠ []) : qokP (f + 1) r = if qbadB (Lx.rune r) = true then false else qokP f (r.drop (Lx.wid r)) := by
  conv => lhs; unfold qokP
  rw [if_neg h]

theorem qok_pre : ∀ (f : Nat) (s x : List UInt8), qokP f s = true → (∀ c ∈ s, c ≠ 39) ∧ ∀ p g, s.length + x.length < g → Lx.badP g (s ++ x) p = Lx.badP (x.length + 1) x (p + s.length)
  | 0, _, _, h => by simp [qokP] at h
  | f + 1, [], x, h => ⟨by simp, fun p g hg => badP_fuel x.length _ _ _ _ (Nat.le_refl _) (by simpa using hg) (by omega)⟩
  | f + 1, c :: t, x, h => by
    rw [qokP_cons _ _ (by simp)] at h
    split at h
    · cases h
    · rename_i hq
      have hq : qbadB (Lx.rune (c :: t)) = false := by simpa using hq
      obtain ⟨u, hu⟩ : ∃ u, Lx.rune (c :: t) = u := ⟨_, rfl⟩
      rw [hu] at hq
      have hwp := Lx.wid_pos (c :: t) (by simp)
      have hwl := Lx.wid_le (c :: t) (by simp)
      obtain ⟨ih1, ih2⟩ := qok_pre f ((c :: t).drop (Lx.wid (c :: t))) x h
      have hq2 : u ≠ 39 ∧ ¬ (u < 32 ∧ u ≠ 10 ∧ u ≠ 9) ∧ u ≠ 127 ∧ u ≠ 65533 := by
        unfold qbadB at hq
        simp at hq
        omega
      refine ⟨?_, ?_⟩
      · intro d hd
        rw [← List.take_append_drop (Lx.wid (c :: t)) (c :: t), List.mem_append] at hd
        rcases hd with hd | hd
        · by_cases hc : c.toNat < 128
          · obtain ⟨r1, r2⟩ := Lx.dec_ascii c t hc
            rw [r2] at hd
            simp at hd
            subst hd
            rintro rfl
            rw [hu] at r1
            exact hq2.1 r1
          · have := Lx.wid_high c t (by omega) d hd
            rintro rfl
            exact absurd this (by decide)
        · exact ih1 d hd
      · intro p g hg
        obtain ⟨a1, a2⟩ := dec_append (c :: t) x (by simp) (.inl (by rw [hu]; exact hq2.2.2.2))
        obtain ⟨g1, rfl⟩ : ∃ g1, g = g1 + 1 := ⟨g - 1, by omega⟩
        rw [badP_cons _ _ _ (by simp), a1, a2, hu, if_neg, List.drop_append_of_le_length hwl, ih2 _ g1 (by rw [List.length_drop]; omega), List.length_drop]
        · congr 1; omega
        · rw [wrong_low]
          have h1 : (u == 127) = false := by rw [beq_eq_false_iff_ne]; omega
          have h2 : (u == 65533) = false := by rw [beq_eq_false_iff_ne]; omega
          rw [h1, h2]
          simp
          omega

theorem idx_here : ∀ (s x : List UInt8), (∀ c ∈ s, c ≠ 39) → Lx.idx 39 (s ++ 39 :: x) = some s.length
  | [], x, _ => by simp [Lx.idx, List.findIdx?_cons]
  | c :: t, x, h => by
    have ih := idx_here t x (fun d hd => h d (by simp [hd]))
    unfold Lx.idx at ih ⊢
    rw [List.cons_append, List.findIdx?_cons, if_neg (by simpa using h c (by simp)), ih]
    rfl

theorem low_spec (c : UInt8) (h1 : 97 ≤ c.toNat) (h2 : c.toNat ≤ 122) : Lx.specB c = false := by
  have h : ∀ d ∈ spL, ¬ (97 ≤ d.toNat ∧ d.toNat ≤ 122) := by decide
  cases hs : Lx.specB c with
  | false => rfl
  | true =>
    rw [spec_sp] at hs
    exact absurd ⟨h1, h2⟩ (h c (by simpa using hs))

theorem sign_nil (c : UInt8) (t : List UInt8) (h : c ≠ 38 ∧ c ≠ 124 ∧ c ≠ 62 ∧ c ≠ 60 ∧ c ≠ 40 ∧ c ≠ 41) : Lx.signOf (c :: t) = [] := by
  obtain ⟨h1, h2, h3, h4, h5, h6⟩ := h
  unfold Lx.signOf
  simp [Lx.signs, h1.symm, h2.symm, h3.symm, h4.symm, h5.symm, h6.symm]

/-- the pieces of what the law writes. -/
def quoParts (a s : List UInt8) : List Lx.Part := Lx.addP (addRun [] a) 1 s

theorem quoParts_eq (a s : List UInt8) : quoParts a s = if a ++ s = [] then [] else [⟨1, a ++ s⟩] := by
  unfold quoParts addRun
  by_cases ha : a = []
  · subst ha
    rw [if_pos rfl, List.nil_append]
    unfold Lx.addP
    by_cases hs : s = [] <;> simp [hs]
  · rw [if_neg ha, if_neg (by simp [ha])]
    have e : Lx.addP [] 1 a = [] ++ [⟨1, a⟩] := by unfold Lx.addP; simp [ha]
    rw [e, addP_last, if_pos ⟨rfl, rfl⟩]
    rfl

theorem quo_tokens (a s : List UInt8) (ha : ∀ c ∈ a, 97 ≤ c.toNat ∧ c.toNat ≤ 122) (f : Nat) (hs : qokP f s = true) (hl : a.length + s.length ≤ 2000) :
    Lx.tokens (a ++ [39] ++ s ++ [39, 32, 120]) = (0, 0, [⟨1, a ++ [39] ++ s ++ [39], quoParts a s, 0⟩, ⟨1, [120], [⟨1, [120]⟩], a.length + s.length + 3⟩]) := by
  obtain ⟨h39, hbad⟩ := qok_pre f s [39, 32, 120] hs
  have hlen : (a ++ [39] ++ s ++ [39, 32, 120]).length = a.length + s.length + 4 := by simp; omega
  have hasc : ∀ c ∈ a ++ [39], 32 ≤ c.toNat ∧ c.toNat < 127 := by
    intro c hc
    rcases List.mem_append.1 hc with hc | hc
    · have := ha c hc; omega
    · simp at hc; subst hc; decide
  have hb : Lx.badP ((a ++ [39] ++ s ++ [39, 32, 120]).length + 1) (a ++ [39] ++ s ++ [39, 32, 120]) 0 = none := by
    rw [hlen, List.append_assoc]
    have e := badP_pre (a ++ [39]) (s.length + 4) (s ++ [39, 32, 120]) 0 hasc
    have el : s.length + 4 + (a ++ [39]).length = a.length + s.length + 4 + 1 := by rw [List.length_append, List.length_singleton]; omega
    rw [el] at e
    rw [e, hbad _ _ (by simp)]
    exact badP_ascii _ _ _ (by decide)
  rw [tokens_good (by rw [hlen]; omega) hb, hlen]
  -- the first byte
  have hful : a ++ [39] ++ s ++ [39, 32, 120] = a ++ (39 :: (s ++ 39 :: [32, 120])) := by simp
  obtain ⟨c, t, hct, hc⟩ : ∃ c t, a ++ [39] ++ s ++ [39, 32, 120] = c :: t ∧ (c = 39 ∨ (97 ≤ c.toNat ∧ c.toNat ≤ 122)) := by
    cases a with
    | nil => exact ⟨39, s ++ 39 :: [32, 120], by simp, .inl rfl⟩
    | cons c a => exact ⟨c, a ++ (39 :: (s ++ 39 :: [32, 120])), by simp, .inr (ha c (by simp))⟩
  have hne : ∀ d : UInt8, (d.toNat < 97 ∨ 122 < d.toNat) → d ≠ 39 → c ≠ d := by
    rintro d h1 h2 rfl
    rcases hc with hc | hc
    · exact h2 hc
    · omega
  have hsg : Lx.signOf (c :: t) = [] := sign_nil c t ⟨hne _ (by decide) (by decide), hne _ (by decide) (by decide), hne _ (by decide) (by decide), hne _ (by decide) (by decide), hne _ (by decide) (by decide), hne _ (by decide) (by decide)⟩
  -- the word
  have hw : Lx.wordP ((c :: t).length + 1) (c :: t) 0 [] = .ok (quoParts a s, a.length + s.length + 2) := by
    rw [← hct, hlen, hful]
    have hpl := wordP_plain a.length (s.length + 5) (a ++ (39 :: (s ++ 39 :: [32, 120]))) 0 [] (by simp) (fun j hj => by
      rw [List.getD_eq_getElem?_getD, List.getElem?_append_left hj, List.getElem?_eq_getElem hj, Option.getD_some]
      have := ha _ (List.getElem_mem hj)
      exact low_spec _ this.1 this.2)
    rw [show s.length + 5 + a.length = a.length + s.length + 4 + 1 from by omega] at hpl
    rw [hpl, List.drop_left, List.take_left, Nat.zero_add, show s.length + 5 = (s.length + 4) + 1 from rfl, wordP_cons, if_neg (by decide), if_pos rfl, idx_here s [32, 120] h39]
    show Lx.wordP (s.length + 4) (List.drop (s.length + 1) (s ++ 39 :: [32, 120])) (a.length + s.length + 2) (Lx.addP (addRun [] a) 1 (List.take s.length (s ++ 39 :: [32, 120]))) = _
    rw [List.take_left, ← List.drop_drop, List.drop_left]
    show Lx.wordP ((s.length + 3) + 1) (32 :: [120]) (a.length + s.length + 2) _ = _
    rw [wordP_cons, if_pos (by decide)]
    rfl
  rw [hct]
  rw [(tokP_word (a.length + s.length + 4) c t 0 [] (by rintro (h | h); exact hne 32 (by decide) (by decide) h; exact hne 9 (by decide) (by decide) h) (hne 35 (by decide) (by decide)) (by rintro (h | h); exact hne 59 (by decide) (by decide) h; exact hne 10 (by decide) (by decide) h) hsg (hne 38 (by decide) (by decide))).2 _ _ hw]
  have e1 : a ++ [39] ++ s ++ [39, 32, 120] = (a ++ [39] ++ s ++ [39]) ++ [32, 120] := by simp
  have e2 : (a ++ [39] ++ s ++ [39]).length = a.length + s.length + 2 := by simp; omega
  rw [← hct, e1, Nat.sub_zero, ← e2, List.drop_left, List.take_left, e2]
  show tokRes (Lx.tokP ((a.length + s.length + 2) + 1 + 1) (32 :: [120]) (a.length + s.length + 2) _) = _
  rw [tokP_cons, if_pos (.inl rfl)]
  have hx : Lx.wordP (([120] : List UInt8).length + 1) [120] (a.length + s.length + 2 + 1) [] = .ok ([⟨1, [120]⟩], a.length + s.length + 2 + 1 + 1) := rfl
  rw [(tokP_word (a.length + s.length + 2) 120 [] (a.length + s.length + 2 + 1) _ (by decide) (by decide) (by decide) (by decide) (by decide)).2 _ _ hx, show a.length + s.length + 2 + 1 + 1 - (a.length + s.length + 2 + 1) = 1 from by omega]
  show tokRes (Lx.tokP (a.length + s.length + 2) [] _ _) = _
  rw [tokP_nil]
  rfl

end Go.Proofs.YtocngneomllmoaaDoor
