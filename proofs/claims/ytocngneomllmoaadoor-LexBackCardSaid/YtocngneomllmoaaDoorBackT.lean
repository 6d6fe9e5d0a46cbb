/-
  Tokens put together again by their texts, with blanks between, are the same tokens.
-/
import Derived.Test.YtocngneomllmoaaDoorBackW
namespace Go.Proofs.YtocngneomllmoaaDoor
open Go.RowKit
set_option linter.unusedVariables false

/-- a token that is read again where it stands ahead of a blank. -/
structure Again (t : Lx.Tok) : Prop where
  ne : t.text ≠ []
  vt : VT t.text
  read : ∀ (g : Nat) (r : List UInt8) (q : Nat) (acc : List Lx.Tok), Lx.tokP (g + 2) (t.text ++ 32 :: r) q acc = Lx.tokP g r (q + t.text.length + 1) (acc ++ [⟨t.kind, t.text, t.parts, q⟩])

/-- where it stands in the text. -/
def Stands (r : List UInt8) (p : Nat) (t : Lx.Tok) : Prop := t.text.length ≤ r.length + 1 ∧ (t.kind = 3 ∨ (p ≤ t.pos ∧ t.pos - p + t.text.length ≤ r.length ∧ (r.drop (t.pos - p)).take t.text.length = t.text))

theorem Stands.back {r : List UInt8} {p n : Nat} {t : Lx.Tok} (h : Stands (r.drop n) (p + n) t) (hn : n ≤ r.length) : Stands r p t := by
  obtain ⟨h0, h⟩ := h
  rw [List.length_drop] at h0
  refine ⟨by omega, h.imp id ?_⟩
  rintro ⟨h1, h2, h3⟩
  rw [List.length_drop] at h2
  refine ⟨by omega, by omega, ?_⟩
  rw [List.drop_drop, show n + (t.pos - (p + n)) = t.pos - p from by omega] at h3
  exact h3

theorem VT_strip : ∀ (a b : List UInt8), (∀ c ∈ a, c.toNat < 128) → VT (a ++ b) → VT b
  | [], _, _, h => h
  | c :: a, b, ha, h => VT_strip a b (fun d hd => ha d (by simp [hd])) (VT_tail c (a ++ b) (ha c (by simp)) h)

theorem endB_ascii (c : UInt8) (h : Lx.endB c = true) : c.toNat < 128 := by
  have : ∀ d ∈ endL, d.toNat < 128 := by decide
  rw [endB_L, List.contains_iff_mem] at h
  exact this c h

theorem VT_one : VT [59] := by
  refine (VT_step [59] (by simp)).2 ⟨?_, ?_⟩
  · decide +kernel
  · have : Lx.wid [59] = 1 := by decide +kernel
    rw [this]
    exact VT_nil

theorem signOf_mem (r : List UInt8) (h : Lx.signOf r ≠ []) : Lx.signOf r ∈ Lx.signs := by
  unfold Lx.signOf at h ⊢
  cases hf : Lx.signs.find? (fun x => x.isPrefixOf r) with
  | none => rw [hf] at h; exact absurd rfl h
  | some x => exact List.mem_of_find?_eq_some hf

theorem again_end (p : Nat) : Again ⟨3, [59], [], p⟩ where
  ne := by simp
  vt := VT_one
  read := fun g r q acc => rfl

theorem VT_ascii : ∀ (a : List UInt8), (∀ c ∈ a, 32 ≤ c.toNat ∧ c.toNat < 127) → VT a := fun a h p => badP_ascii _ _ _ h

theorem again_sign (sg : List UInt8) (h : sg ∈ Lx.signs) (p : Nat) : Again ⟨2, sg, [], p⟩ := by
  have hasc : ∀ x ∈ Lx.signs, ∀ c ∈ x, 32 ≤ c.toNat ∧ c.toNat < 127 := by decide
  have hv : VT sg := VT_ascii sg (hasc sg h)
  simp only [Lx.signs, List.mem_cons, List.not_mem_nil, or_false] at h
  rcases h with rfl | rfl | rfl | rfl | rfl | rfl | rfl | rfl
  all_goals exact ⟨by simp, hv, fun g r q acc => rfl⟩

theorem again_word (c : UInt8) (t : List UInt8) (p p' : Nat) (ps : List Lx.Part) (h : Lx.wordP ((c :: t).length + 1) (c :: t) p [] = .ok (ps, p')) (hv : VT (c :: t)) (he : Lx.endB c = false) (h35 : c ≠ 35) :
    Again ⟨1, (c :: t).take (p' - p), ps, p⟩ ∧ VT ((c :: t).drop (p' - p)) ∧ p < p' ∧ p' - p ≤ (c :: t).length := by
  have hgt := wordP_gt _ _ _ _ _ _ _ he h
  have hle := wordP_le _ _ _ _ _ _ h
  have hst := wordP_stop _ _ _ _ _ _ (by omega) h
  have hsplit : (c :: t).take (p' - p) ++ (c :: t).drop (p' - p) = c :: t := List.take_append_drop _ _
  have hvv : VT ((c :: t).take (p' - p)) ∧ VT ((c :: t).drop (p' - p)) := by
    rcases hst with hs | ⟨d, z, hs, hd⟩
    · rw [hs] at hsplit ⊢
      rw [List.append_nil] at hsplit
      rw [hsplit]
      exact ⟨hv, VT_nil⟩
    · rw [hs] at hsplit ⊢
      rw [← hsplit] at hv
      exact VT_cut _ _ d z (Nat.le_refl _) (endB_ascii d hd) hv
  refine ⟨⟨?_, hvv.1, ?_⟩, hvv.2, hgt, by omega⟩
  · intro e
    have := congrArg List.length e
    simp only [List.length_take, List.length_nil, List.length_cons] at this
    omega
  · intro g r q acc
    simp only
    have hlen : ((c :: t).take (p' - p)).length = p' - p := by rw [List.length_take]; omega
    have hwl := word_local _ _ _ _ _ _ (by omega) ⟨[], hv⟩ h q r (((c :: t).take (p' - p) ++ 32 :: r).length + 1) (by rw [List.length_append, hlen]; omega)
    obtain ⟨k, hk⟩ : ∃ k, p' - p = k + 1 := ⟨p' - p - 1, by omega⟩
    rw [hk] at hwl hlen ⊢
    rw [List.take_succ_cons, List.cons_append] at hwl ⊢
    rw [List.take_succ_cons] at hlen
    have ne : ∀ d : UInt8, Lx.endB d = true → c ≠ d := by
      rintro d hd rfl
      rw [he] at hd; cases hd
    have hs : Lx.signOf (c :: (t.take k ++ 32 :: r)) = [] := sign_nil c _ ⟨ne _ (by decide), ne _ (by decide), ne _ (by decide), ne _ (by decide), ne _ (by decide), ne _ (by decide)⟩
    rw [(tokP_word (g + 1) c (t.take k ++ 32 :: r) q acc (by rintro (e | e); exact ne 32 (by decide) e; exact ne 9 (by decide) e) h35 (by rintro (e | e); exact ne 59 (by decide) e; exact ne 10 (by decide) e) hs (ne 38 (by decide))).2 _ _ hwl]
    rw [show q + (k + 1) - q = k + 1 from by omega]
    have e1 : (c :: (t.take k ++ 32 :: r)).drop (k + 1) = 32 :: r := drop_cons_app c (t.take k) (32 :: r) (k + 1) (by rw [List.length_cons] at hlen; omega)
    have e2 : (c :: (t.take k ++ 32 :: r)).take (k + 1) = c :: t.take k := by
      rw [List.take_succ_cons, List.take_append_of_le_length (by rw [List.length_cons] at hlen; omega), List.take_take, Nat.min_self]
    rw [e1, e2, tokP_cons, if_pos (.inl rfl), List.length_cons, show (t.take k).length = k from by rw [List.length_cons] at hlen; omega]

theorem tok_again : ∀ (f : Nat) (r : List UInt8) (p : Nat) (acc ts : List Lx.Tok), r.length < f → VT r → Lx.tokP f r p acc = .ok ts → ∃ new, ts = acc ++ new ∧ new.length ≤ r.length ∧ ∀ t ∈ new, Again t ∧ Stands r p t
  | 0, _, _, _, _, h, _, _ => by omega
  | f + 1, [], p, acc, ts, _, _, h => by
    cases h
    exact ⟨[], by simp, by simp, by simp⟩
  | f + 1, c :: t, p, acc, ts, hf, hv, h => by
    rw [List.length_cons] at hf
    -- no token, n bytes
    have skip : ∀ n : Nat, 1 ≤ n → n ≤ (c :: t).length → VT ((c :: t).drop n) → Lx.tokP f ((c :: t).drop n) (p + n) acc = .ok ts → ∃ new, ts = acc ++ new ∧ new.length ≤ (c :: t).length ∧ ∀ x ∈ new, Again x ∧ Stands (c :: t) p x := by
      intro n hn hl hv2 h2
      rw [List.length_cons] at hl
      obtain ⟨new, e1, e2, e3⟩ := tok_again f _ _ _ _ (by rw [List.length_drop, List.length_cons]; omega) hv2 h2
      rw [List.length_drop, List.length_cons] at e2
      exact ⟨new, e1, by rw [List.length_cons]; omega, fun x hx => ⟨(e3 x hx).1, (e3 x hx).2.back (by rw [List.length_cons]; omega)⟩⟩
    -- a token of n bytes
    have one : ∀ (n : Nat) (x : Lx.Tok), 1 ≤ n → n ≤ (c :: t).length → VT ((c :: t).drop n) → Again x → Stands (c :: t) p x → Lx.tokP f ((c :: t).drop n) (p + n) (acc ++ [x]) = .ok ts → ∃ new, ts = acc ++ new ∧ new.length ≤ (c :: t).length ∧ ∀ x ∈ new, Again x ∧ Stands (c :: t) p x := by
      intro n x hn hl hv2 ha hs h2
      rw [List.length_cons] at hl
      obtain ⟨new, e1, e2, e3⟩ := tok_again f _ _ _ _ (by rw [List.length_drop, List.length_cons]; omega) hv2 h2
      rw [List.length_drop, List.length_cons] at e2
      refine ⟨x :: new, by rw [e1]; simp, by rw [List.length_cons, List.length_cons]; omega, fun y hy => ?_⟩
      rcases List.mem_cons.1 hy with rfl | hy
      · exact ⟨ha, hs⟩
      · exact ⟨(e3 y hy).1, (e3 y hy).2.back (by rw [List.length_cons]; omega)⟩
    rw [tokP_cons] at h
    split at h
    · rename_i h1
      refine skip 1 (by omega) (by simp) ?_ h
      exact VT_tail c t (by rcases h1 with rfl | rfl <;> decide) hv
    · rename_i h1
      split at h
      · rename_i h35
        have hp := noteLen_pos c t h35
        have hl := noteLen_le (c :: t)
        refine skip _ hp hl ?_ h
        have hsplit : (c :: t).take (Lx.noteLen (c :: t)) ++ (c :: t).drop (Lx.noteLen (c :: t)) = c :: t := List.take_append_drop _ _
        cases hd : (c :: t).drop (Lx.noteLen (c :: t)) with
        | nil => exact VT_nil
        | cons d z =>
          have h10 : d = 10 := by
            have key : ∀ r : List UInt8, ∀ d z, r.drop (Lx.noteLen r) = d :: z → d = 10 := by
              intro r
              unfold Lx.noteLen
              induction r with
              | nil => intro d z h; simp at h
              | cons b r ih =>
                intro d z h
                by_cases hb : b = 10
                · subst hb
                  simp at h
                  exact h.1.symm
                · have : (!(b == 10)) = true := by rw [beq_eq_false_iff_ne.2 hb]; rfl
                  rw [List.takeWhile_cons, if_pos this, List.length_cons, List.drop_succ_cons] at h
                  exact ih d z h
            exact key _ _ _ hd
          rw [hd] at hsplit
          rw [← hsplit] at hv
          subst h10
          exact (VT_cut _ _ 10 z (Nat.le_refl _) (by decide) hv).2
      · rename_i h35
        split at h
        · rename_i h2
          refine one 1 _ (by omega) (by simp) ?_ (again_end p) ⟨by simp, .inl rfl⟩ h
          exact VT_tail c t (by rcases h2 with rfl | rfl <;> decide) hv
        · rename_i h2
          split at h
          · rename_i hs
            have hmem := signOf_mem _ hs
            have hpre := signOf_prefix (c :: t)
            have hlen := signOf_len (c :: t)
            have hpos : 1 ≤ (Lx.signOf (c :: t)).length := List.length_pos_iff.2 hs
            obtain ⟨z, hz⟩ := hpre
            have hdt : ∀ (sg z r : List UInt8), sg ++ z = r → r.drop sg.length = z ∧ r.take sg.length = sg := by
              rintro sg z r rfl
              exact ⟨List.drop_left, List.take_left⟩
            obtain ⟨hdrop, htake⟩ := hdt _ _ _ hz
            have hasc : ∀ d ∈ Lx.signOf (c :: t), d.toNat < 128 := by
              have : ∀ x ∈ Lx.signs, ∀ d ∈ x, d.toNat < 128 := by decide
              exact this _ hmem
            refine one _ _ hpos hlen ?_ (again_sign _ hmem p) ⟨by simp only; omega, .inr ⟨Nat.le_refl _, by simp only [Nat.sub_self]; omega, ?_⟩⟩ h
            · rw [hdrop]
              rw [← hz] at hv
              exact VT_strip _ _ hasc hv
            · simp only [Nat.sub_self, List.drop_zero]
              exact htake
          · rename_i hs
            split at h
            · cases h
            · rename_i h38
              split at h
              · cases h
              · rename_i l' p' hw
                have hs' : Lx.signOf (c :: t) = [] := by simpa using hs
                have he := sign_end c t hs' h38 h1 h2
                obtain ⟨ha, hvr, hpp, hpl⟩ := again_word c t p p' l' hw hv he h35
                have h3 : Lx.tokP f ((c :: t).drop (p' - p)) (p + (p' - p)) (acc ++ [⟨1, (c :: t).take (p' - p), l', p⟩]) = .ok ts := by rw [show p + (p' - p) = p' from by omega]; exact h
                refine one (p' - p) _ (by omega) hpl hvr ha ⟨by simp only [List.length_take]; omega, .inr ⟨Nat.le_refl _, by simp only [Nat.sub_self, List.length_take]; omega, ?_⟩⟩ h3
                simp only [Nat.sub_self, List.drop_zero, List.length_take]
                rw [Nat.min_eq_left hpl]

/-- the texts, each with a blank behind it. -/
def textOf (ts : List Lx.Tok) : List UInt8 := ts.flatMap fun t => t.text ++ [32]
/-- the tokens at their new places. -/
def relist : Nat → List Lx.Tok → List Lx.Tok
  | _, [] => []
  | q, t :: ts => ⟨t.kind, t.text, t.parts, q⟩ :: relist (q + t.text.length + 1) ts

theorem textOf_cons (t : Lx.Tok) (ts : List Lx.Tok) : textOf (t :: ts) = t.text ++ 32 :: textOf ts := by simp [textOf]

theorem relist_len : ∀ (q : Nat) (ts : List Lx.Tok), (relist q ts).length = ts.length
  | _, [] => rfl
  | q, t :: ts => by simp [relist, relist_len]

theorem relist_get : ∀ (q : Nat) (ts : List Lx.Tok) (k : Nat) (t : Lx.Tok), ts[k]? = some t → ∃ p, (relist q ts)[k]? = some ⟨t.kind, t.text, t.parts, p⟩
  | _, [], _, _, h => by simp at h
  | q, x :: ts, 0, t, h => by
    simp at h
    subst h
    exact ⟨q, rfl⟩
  | q, x :: ts, k + 1, t, h => relist_get _ ts k t h

theorem textOf_read : ∀ (ts : List Lx.Tok), (∀ t ∈ ts, Again t) → ∀ (g q : Nat) (acc : List Lx.Tok), Lx.tokP (g + 2 * ts.length) (textOf ts) q acc = .ok (acc ++ relist q ts)
  | [], _, g, q, acc => by simp [textOf, relist, tokP_nil]
  | t :: ts, h, g, q, acc => by
    have e : g + 2 * (t :: ts).length = (g + 2 * ts.length) + 2 := by rw [List.length_cons]; omega
    rw [e, textOf_cons, (h t (by simp)).read, textOf_read ts (fun x hx => h x (by simp [hx]))]
    simp [relist]

theorem textOf_vt : ∀ (ts : List Lx.Tok), (∀ t ∈ ts, Again t) → VT (textOf ts)
  | [], _ => VT_nil
  | t :: ts, h => by
    rw [textOf_cons]
    refine VT_append _ _ _ (Nat.le_refl _) (h t (by simp)).vt ?_
    refine VT_append _ [32] _ (Nat.le_refl _) (VT_ascii _ (by decide)) (textOf_vt ts (fun x hx => h x (by simp [hx])))

theorem textOf_len : ∀ (ts : List Lx.Tok), (∀ t ∈ ts, Again t) → 2 * ts.length ≤ (textOf ts).length
  | [], _ => by simp
  | t :: ts, h => by
    have := textOf_len ts (fun x hx => h x (by simp [hx]))
    have := List.length_pos_iff.2 (h t (by simp)).ne
    rw [textOf_cons, List.length_append, List.length_cons, List.length_cons]
    omega

/-- THE LAW, in plain words. -/
theorem back_tokens (l : List UInt8) (E : Int) (A : Nat) (ts : List Lx.Tok) (h : Lx.tokens l = (E, A, ts)) :
    (E ≠ 0 ∧ ts = []) ∨ (E = 0 ∧ l.length ≤ 2048 ∧ ts.length ≤ 2048 ∧ (∀ t ∈ ts, Stands l 0 t) ∧ ((textOf ts).length ≤ 2048 → Lx.tokens (textOf ts) = (0, 0, relist 0 ts))) := by
  by_cases hl : 2048 < l.length
  · rw [tokens_long hl] at h
    cases h
    exact .inl ⟨by decide, rfl⟩
  · cases hb : Lx.badP (l.length + 1) l 0 with
    | some i =>
      rw [tokens_bad hl hb] at h
      cases h
      exact .inl ⟨by decide, rfl⟩
    | none =>
      have hv : VT l := fun p => badP_shift _ _ _ _ hb
      rw [tokens_good hl hb] at h
      cases hr : Lx.tokP (l.length + 1) l 0 [] with
      | bad e =>
        rw [hr] at h
        cases h
        exact .inl ⟨by decide, rfl⟩
      | ok ts' =>
        rw [hr] at h
        cases h
        obtain ⟨new, e1, e2, e3⟩ := tok_again _ _ _ _ _ (by omega) hv hr
        rw [List.nil_append] at e1
        subst e1
        refine .inr ⟨rfl, by omega, by omega, fun t ht => (e3 t ht).2, fun hlen => ?_⟩
        have ha : ∀ t ∈ ts, Again t := fun t ht => (e3 t ht).1
        rw [tokens_good (by omega) (textOf_vt ts ha 0)]
        have h1 := textOf_read ts ha ((textOf ts).length + 1 - 2 * ts.length) 0 []
        have h2 := textOf_len ts ha
        rw [show (textOf ts).length + 1 - 2 * ts.length + 2 * ts.length = (textOf ts).length + 1 from by omega] at h1
        rw [h1]
        rfl

end Go.Proofs.YtocngneomllmoaaDoor
