/-
  What stands between two quotes, and a word, are read alike wherever they stand.
-/
import Derived.Test.YtocngneomllmoaaDoorBackP
namespace Go.Proofs.YtocngneomllmoaaDoor
open Go.RowKit
set_option linter.unusedVariables false

theorem var_local (ps : List Lx.Part) (k : Int) (t y : List UInt8) (ps' : List Lx.Part) (m : Nat) (h : Lx.varP ps k t = some (ps', m)) (hy : y.head? = (t.drop (m - 1)).head? ∨ y.head? = some 32) : Lx.varP ps k (t.take (m - 1) ++ y) = some (ps', m) := by
  have hd := dollarP_le t
  unfold Lx.varP at h
  by_cases h0 : (Lx.dollarP t).2 < 0
  · rw [if_pos h0] at h; cases h
  · rw [if_neg h0] at h
    have hm : (Lx.dollarP t).2.toNat = m := (Prod.mk.inj (Option.some.inj h)).2
    have hm2 : (Lx.dollarP t).2 = (m : Int) := by omega
    unfold Lx.varP
    rw [dollar_local t y m hm2 hy, if_neg h0]
    exact h

theorem drop_cons_app (b : UInt8) (A B : List UInt8) (m : Nat) (h : A.length + 1 = m) : (b :: (A ++ B)).drop m = B := by
  subst h
  rw [List.drop_succ_cons]
  exact List.drop_left

theorem quot_local (q0 q1 : Nat) : ∀ (f : Nat) (r : List UInt8) (p : Nat) (ps ps' : List Lx.Part) (p' : Nat), Lx.quotP q0 f r p ps = .ok (ps', p') →
    ∀ (q : Nat) (y : List UInt8) (f' : Nat), p' - p ≤ f' → Lx.quotP q1 f' (r.take (p' - p) ++ y) q ps = .ok (ps', q + (p' - p))
  | 0, _, _, _, _, _, h => by simp [Lx.quotP] at h
  | f + 1, [], _, _, _, _, h => by simp [Lx.quotP] at h
  | f + 1, b :: t, p, ps, ps', p', h => by
    intro q y f' hf
    have hlt := quotP_lt _ _ _ _ _ _ _ h
    obtain ⟨k, hk⟩ : ∃ k, p' - p = k + 1 := ⟨p' - p - 1, by omega⟩
    obtain ⟨f'', rfl⟩ : ∃ f'', f' = f'' + 1 := ⟨f' - 1, by omega⟩
    rw [quotP_cons] at h
    rw [hk, List.take_succ_cons, List.cons_append, quotP_cons]
    split at h
    · rename_i h34
      cases h
      rw [if_pos h34, show k = 0 from by omega]
    · rename_i h34
      rw [if_neg h34]
      split at h
      · rename_i h36
        rw [if_pos h36]
        cases hv : Lx.varP ps 3 t with
        | none => rw [hv] at h; cases h
        | some pm =>
          obtain ⟨l', m⟩ := pm
          rw [hv] at h
          have hm := varP_some hv
          have h : Lx.quotP q0 f ((b :: t).drop m) (p + m) l' = .ok (ps', p') := h
          have hlt2 := quotP_lt _ _ _ _ _ _ _ h
          have e1 : (b :: t).drop m = t.drop (m - 1) := by
            rw [show m = (m - 1) + 1 from by omega, List.drop_succ_cons, Nat.add_sub_cancel]
          rw [e1] at h
          have hne : t.drop (m - 1) ≠ [] := by
            intro e
            rw [e] at h
            cases f <;> simp [Lx.quotP] at h
          have e2 : t.take k = t.take (m - 1) ++ (t.drop (m - 1)).take (p' - (p + m)) := by
            rw [show k = (m - 1) + (p' - (p + m)) from by omega, List.take_add]
          rw [e2, List.append_assoc]
          have hvl := var_local ps 3 t ((t.drop (m - 1)).take (p' - (p + m)) ++ y) l' m hv (.inl (by
            cases hd : t.drop (m - 1) with
            | nil => exact absurd hd hne
            | cons c z =>
              rw [show p' - (p + m) = (p' - (p + m) - 1) + 1 from by omega]
              rfl))
          rw [hvl]
          show Lx.quotP q1 f'' ((b :: (t.take (m - 1) ++ ((t.drop (m - 1)).take (p' - (p + m)) ++ y))).drop m) (q + m) l' = _
          have htl : m - 1 ≤ t.length := by
            have := List.length_pos_iff.2 hne
            rw [List.length_drop] at this
            omega
          have e3 : (b :: (t.take (m - 1) ++ ((t.drop (m - 1)).take (p' - (p + m)) ++ y))).drop m = (t.drop (m - 1)).take (p' - (p + m)) ++ y := by
            exact drop_cons_app _ _ _ m (by rw [List.length_take]; omega)
          rw [e3, quot_local q0 q1 f _ _ _ _ _ h (q + m) y f'' (by omega)]
          congr 2
          omega
      · rename_i h36
        rw [if_neg h36]
        split at h
        · rename_i h92
          have h : Lx.quotP q0 f (t.drop 1) (p + 2) (Lx.addP ps 1 (t.take 1)) = .ok (ps', p') := h
          have hlt2 := quotP_lt _ _ _ _ _ _ _ h
          cases t with
          | nil => simp [Lx.escB] at h92
          | cons d t =>
            obtain ⟨j, rfl⟩ : ∃ j, k = j + 1 := ⟨k - 1, by omega⟩
            rw [List.take_succ_cons, List.cons_append, if_pos (show b = 92 ∧ Lx.escB (d :: (t.take j ++ y)) = true from h92)]
            show Lx.quotP q1 f'' (t.take j ++ y) (q + 2) (Lx.addP ps 1 [d]) = _
            have h : Lx.quotP q0 f t (p + 2) (Lx.addP ps 1 [d]) = .ok (ps', p') := h
            have := quot_local q0 q1 f _ _ _ _ _ h (q + 2) y f'' (by omega)
            rw [show p' - (p + 2) = j from by omega] at this
            rw [this]
            congr 2
            omega
        · rename_i h92
          have hlt2 := quotP_lt _ _ _ _ _ _ _ h
          have hne : t ≠ [] := by
            rintro rfl
            cases f <;> simp [Lx.quotP] at h
          rw [if_neg]
          · have := quot_local q0 q1 f _ _ _ _ _ h (q + 1) y f'' (by omega)
            rw [show p' - (p + 1) = k from by omega] at this
            rw [this]
            congr 2
            omega
          · cases t with
            | nil => exact absurd rfl hne
            | cons d t =>
              obtain ⟨j, rfl⟩ : ∃ j, k = j + 1 := ⟨k - 1, by omega⟩
              rw [List.take_succ_cons]
              exact h92

theorem idx_local : ∀ (t y : List UInt8) (k : Nat), Lx.idx 39 t = some k → Lx.idx 39 (t.take (k + 1) ++ y) = some k
  | [], _, _, h => by simp [Lx.idx] at h
  | c :: t, y, k, h => by
    unfold Lx.idx at h ⊢
    rw [List.findIdx?_cons] at h
    rw [List.take_succ_cons, List.cons_append, List.findIdx?_cons]
    split at h
    · rename_i hc
      rw [if_pos hc]
      exact h
    · rename_i hc
      rw [if_neg hc]
      cases hj : t.findIdx? (· == 39) with
      | none => rw [hj] at h; cases h
      | some j =>
        rw [hj] at h
        cases h
        have := idx_local t y j hj
        unfold Lx.idx at this
        rw [this]
        rfl

theorem wordP_stop : ∀ (f : Nat) (r : List UInt8) (p : Nat) (ps ps' : List Lx.Part) (p' : Nat), r.length < f → Lx.wordP f r p ps = .ok (ps', p') → r.drop (p' - p) = [] ∨ ∃ c z, r.drop (p' - p) = c :: z ∧ Lx.endB c = true
  | 0, _, _, _, _, _, hf, _ => by omega
  | f + 1, [], _, _, _, _, _, h => .inl (by simp)
  | f + 1, c :: t, p, ps, ps', p', hf, h => by
    rw [List.length_cons] at hf
    have back : ∀ (n : Nat) (qs : List Lx.Part), 1 ≤ n → Lx.wordP f ((c :: t).drop n) (p + n) qs = .ok (ps', p') → (c :: t).drop (p' - p) = [] ∨ ∃ d z, (c :: t).drop (p' - p) = d :: z ∧ Lx.endB d = true := by
      intro n qs hn h
      have hge := wordP_ge _ _ _ _ _ _ h
      have := wordP_stop f _ _ _ _ _ (by rw [List.length_drop, List.length_cons]; omega) h
      rwa [List.drop_drop, show n + (p' - (p + n)) = p' - p from by omega] at this
    rw [wordP_cons] at h
    split at h
    · rename_i he
      cases h
      right
      exact ⟨c, t, by simp, he⟩
    · split at h
      · split at h
        · cases h
        · rename_i k hk
          have h : Lx.wordP f ((c :: t).drop (k + 2)) (p + (k + 2)) (Lx.addP ps 1 (t.take k)) = .ok (ps', p') := by
            rw [show k + 2 = (k + 1) + 1 from rfl, List.drop_succ_cons]
            rw [show p + (k + 1 + 1) = p + k + 2 from by omega]
            exact h
          exact back _ _ (by omega) h
      · split at h
        · split at h
          · cases h
          · rename_i l' p1 hq
            have h1 := quotP_lt _ _ _ _ _ _ _ hq
            have h : Lx.wordP f ((c :: t).drop (p1 - p)) (p + (p1 - p)) l' = .ok (ps', p') := by rw [show p + (p1 - p) = p1 from by omega]; exact h
            exact back _ _ (by omega) h
        · split at h
          · split at h
            · cases h
            · rename_i hv
              exact back _ _ (varP_some hv).1 h
          · split at h
            · split at h
              · cases h
              · rename_i hne
                have h : Lx.wordP f ((c :: t).drop (1 + Lx.wid t)) (p + (1 + Lx.wid t)) (if t.head? = some 10 then ps else Lx.addP ps 1 (t.take (Lx.wid t))) = .ok (ps', p') := by
                  rw [show 1 + Lx.wid t = Lx.wid t + 1 from by omega, List.drop_succ_cons, show p + (Lx.wid t + 1) = p + 1 + Lx.wid t from by omega]
                  exact h
                exact back _ _ (by omega) h
            · have h : Lx.wordP f ((c :: t).drop 1) (p + 1) _ = .ok (ps', p') := h
              exact back _ _ (by omega) h

theorem word_local : ∀ (f : Nat) (r : List UInt8) (p : Nat) (ps ps' : List Lx.Part) (p' : Nat), r.length < f → (∃ a, VT (a ++ r)) → Lx.wordP f r p ps = .ok (ps', p') →
    ∀ (q : Nat) (y : List UInt8) (f' : Nat), p' - p ≤ f' → Lx.wordP f' (r.take (p' - p) ++ 32 :: y) q ps = .ok (ps', q + (p' - p))
  | 0, _, _, _, _, _, hf, _, _ => by omega
  | f + 1, [], p, ps, ps', p', hf, _, h => by
    cases h
    intro q y f' _
    cases f' with
    | zero => simp [Lx.wordP]
    | succ f' => simp [wordP_cons, show Lx.endB 32 = true from by decide]
  | f + 1, c :: t, p, ps, ps', p', hf, ⟨a, hv⟩, h => by
    intro q y f' hf'
    rw [List.length_cons] at hf
    have hst := wordP_stop _ _ _ _ _ _ (by rw [List.length_cons]; omega) h
    have hhi := wordP_le _ _ _ _ _ _ h
    rw [List.length_cons] at hhi
    rw [wordP_cons] at h
    by_cases he : Lx.endB c = true
    · rw [if_pos he] at h
      cases h
      rw [Nat.sub_self]
      cases f' with
      | zero => simp [Lx.wordP]
      | succ f' => simp [wordP_cons, show Lx.endB 32 = true from by decide]
    · rw [if_neg he] at h
      -- what is left behind n bytes
      have tailv : ∀ n : Nat, ∃ a', VT (a' ++ (c :: t).drop n) := fun n => ⟨a ++ (c :: t).take n, by rw [List.append_assoc, List.take_append_drop]; exact hv⟩
      have back : ∀ (n : Nat) (qs : List Lx.Part), 1 ≤ n → n ≤ p' - p → Lx.wordP f ((c :: t).drop n) (p + n) qs = .ok (ps', p') → ∀ f'', p' - p - n ≤ f'' →
          Lx.wordP f'' ((c :: t).take (p' - p) ++ 32 :: y |>.drop n) (q + n) qs = .ok (ps', q + (p' - p)) := by
        intro n qs hn hnp h f'' hf''
        have hge := wordP_ge _ _ _ _ _ _ h
        have := word_local f _ _ _ _ _ (by rw [List.length_drop, List.length_cons]; omega) (tailv n) h (q + n) y f'' (by omega)
        rw [show p' - (p + n) = p' - p - n from by omega] at this
        have e : ((c :: t).take (p' - p) ++ 32 :: y).drop n = ((c :: t).drop n).take (p' - p - n) ++ 32 :: y := by
          rw [List.drop_append_of_le_length (by rw [List.length_take, List.length_cons]; omega), List.drop_take]
        rw [e, this]
        congr 2
        omega
      have hgt : p < p' := wordP_gt f c t p ps ps' p' (by simpa using he) (by rw [wordP_cons, if_neg he]; exact h)
      obtain ⟨k, hk⟩ : ∃ k, p' - p = k + 1 := ⟨p' - p - 1, by omega⟩
      obtain ⟨f'', rfl⟩ : ∃ f'', f' = f'' + 1 := ⟨f' - 1, by omega⟩
      have hcons : (c :: t).take (p' - p) ++ 32 :: y = c :: (t.take k ++ 32 :: y) := by rw [hk, List.take_succ_cons, List.cons_append]
      have htk : t.take k = t.take k := rfl
      rw [hcons] at back
      rw [hcons, wordP_cons, if_neg he]
      split at h
      · rename_i h39
        rw [if_pos h39]
        split at h
        · cases h
        · rename_i j hj
          have hjl := idx_lt _ _ _ hj
          have h2 : Lx.wordP f ((c :: t).drop (j + 2)) (p + (j + 2)) (Lx.addP ps 1 (t.take j)) = .ok (ps', p') := by
            rw [show j + 2 = (j + 1) + 1 from rfl, List.drop_succ_cons, show p + (j + 1 + 1) = p + j + 2 from by omega]
            exact h
          have hge := wordP_ge _ _ _ _ _ _ h2
          have e1 : t.take k = t.take (j + 1) ++ (t.drop (j + 1)).take (k - (j + 1)) := by
            rw [show k = (j + 1) + (k - (j + 1)) from by omega, List.take_add]
            simp
          have hi : Lx.idx 39 (t.take k ++ 32 :: y) = some j := by
            rw [e1, List.append_assoc]
            exact idx_local t _ j hj
          rw [hi]
          have e2 : (t.take k ++ 32 :: y).take j = t.take j := by
            rw [List.take_append_of_le_length (by rw [List.length_take]; omega), List.take_take, Nat.min_eq_left (by omega)]
          have := back (j + 2) _ (by omega) (by omega) h2 f'' (by omega)
          rw [show j + 2 = (j + 1) + 1 from rfl, List.drop_succ_cons] at this
          show Lx.wordP f'' ((t.take k ++ 32 :: y).drop (j + 1)) (q + j + 2) (Lx.addP ps 1 ((t.take k ++ 32 :: y).take j)) = _
          rw [e2, show q + j + 2 = q + (j + 1 + 1) from by omega]
          exact this
      · rename_i h39
        rw [if_neg h39]
        split at h
        · rename_i h34
          rw [if_pos h34]
          split at h
          · cases h
          · rename_i l' p1 hq
            have h1 := quotP_lt _ _ _ _ _ _ _ hq
            have h3 := quotP_hi _ _ _ _ _ _ _ hq
            have h2 : Lx.wordP f ((c :: t).drop (p1 - p)) (p + (p1 - p)) l' = .ok (ps', p') := by rw [show p + (p1 - p) = p1 from by omega]; exact h
            have hge := wordP_ge _ _ _ _ _ _ h2
            have e1 : t.take k = t.take (p1 - (p + 1)) ++ (t.drop (p1 - (p + 1))).take (k - (p1 - (p + 1))) := by
              rw [show k = (p1 - (p + 1)) + (k - (p1 - (p + 1))) from by omega, List.take_add]
              simp
            have hi : Lx.quotP q ((t.take k ++ 32 :: y).length + 1) (t.take k ++ 32 :: y) (q + 1) ps = .ok (l', q + 1 + (p1 - (p + 1))) := by
              rw [e1, List.append_assoc]
              exact quot_local p q _ _ _ _ _ _ hq (q + 1) _ _ (by simp only [List.length_append, List.length_take, List.length_drop]; omega)
            rw [hi]
            have := back (p1 - p) _ (by omega) (by omega) h2 f'' (by omega)
            show Lx.wordP f'' ((c :: (t.take k ++ 32 :: y)).drop (q + 1 + (p1 - (p + 1)) - q)) (q + 1 + (p1 - (p + 1))) l' = _
            rw [show q + 1 + (p1 - (p + 1)) - q = p1 - p from by omega, show q + 1 + (p1 - (p + 1)) = q + (p1 - p) from by omega]
            exact this
        · rename_i h34
          rw [if_neg h34]
          split at h
          · rename_i h36
            rw [if_pos h36]
            split at h
            · cases h
            · rename_i l' m hvp
              have hm := varP_some hvp
              have hge := wordP_ge _ _ _ _ _ _ h
              have e1 : t.take k = t.take (m - 1) ++ (t.drop (m - 1)).take (k - (m - 1)) := by
                rw [show k = (m - 1) + (k - (m - 1)) from by omega, List.take_add]
                simp
              have hi : Lx.varP ps 2 (t.take k ++ 32 :: y) = some (l', m) := by
                rw [e1, List.append_assoc]
                refine var_local ps 2 t _ l' m hvp ?_
                by_cases hz : k - (m - 1) = 0
                · rw [hz, List.take_zero]; exact .inr rfl
                · left
                  cases hd : t.drop (m - 1) with
                  | nil =>
                    exfalso
                    have := congrArg List.length hd
                    rw [List.length_drop, List.length_nil] at this
                    omega
                  | cons d z =>
                    rw [show k - (m - 1) = (k - (m - 1) - 1) + 1 from by omega]
                    rfl
              rw [hi]
              exact back m _ hm.1 (by omega) h f'' (by omega)
          · rename_i h36
            rw [if_neg h36]
            split at h
            · rename_i h92
              subst h92
              rw [if_pos rfl]
              split at h
              · cases h
              · rename_i hne
                have hvt : VT t := VT_tail 92 t (by decide) (VT_cut _ a 92 t (Nat.le_refl _) (by decide) hv).2
                have hwp := Lx.wid_pos t hne
                have hwl := Lx.wid_le t hne
                obtain ⟨m, hm⟩ : ∃ m, Lx.wid t = m := ⟨_, rfl⟩
                rw [hm] at h hwp hwl
                have h2 : Lx.wordP f ((92 :: t).drop (m + 1)) (p + (m + 1)) (if t.head? = some 10 then ps else Lx.addP ps 1 (t.take m)) = .ok (ps', p') := by
                  rw [List.drop_succ_cons, show p + (m + 1) = p + 1 + m from by omega]
                  exact h
                have hge := wordP_ge _ _ _ _ _ _ h2
                have e1 : t.take k = t.take m ++ (t.drop m).take (k - m) := by
                  rw [show k = m + (k - m) from by omega, List.take_add]
                  simp
                have hw : Lx.wid (t.take k ++ 32 :: y) = m := by
                  rw [e1, List.append_assoc, ← hm]
                  exact wid_local t _ hne hvt
                have hh : (t.take k ++ 32 :: y).head? = t.head? := by
                  cases t with
                  | nil => exact absurd rfl hne
                  | cons d t =>
                    rw [show k = (k - 1) + 1 from by omega]
                    rfl
                have e2 : (t.take k ++ 32 :: y).take m = t.take m := by
                  rw [List.take_append_of_le_length (by rw [List.length_take]; omega), List.take_take, Nat.min_eq_left (by omega)]
                rw [if_neg (by simp), hw, hh, e2]
                have := back (m + 1) _ (by omega) (by omega) h2 f'' (by omega)
                rw [List.drop_succ_cons] at this
                rw [show q + 1 + m = q + (m + 1) from by omega]
                exact this
            · rename_i h92
              rw [if_neg h92]
              have h2 : Lx.wordP f ((c :: t).drop 1) (p + 1) (Lx.addP ps 1 [c]) = .ok (ps', p') := h
              exact back 1 _ (by omega) (by omega) h2 f'' (by omega)

end Go.Proofs.YtocngneomllmoaaDoor
