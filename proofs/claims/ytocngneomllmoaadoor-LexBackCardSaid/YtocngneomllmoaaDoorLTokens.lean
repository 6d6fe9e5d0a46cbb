/-
  LexTokens.
-/
import Derived.Test.YtocngneomllmoaaDoorRTok
import Derived.Test.YtocngneomllmoaaDoorParts2
import Derived.Deep.RegionHeld3
namespace Go.Proofs.YtocngneomllmoaaDoor
open Go.RowKit
set_option linter.unusedVariables false

theorem wordP_sm : ∀ (f : Nat) (r : List UInt8) (p : Nat) (l l' : List Lx.Part) (p' : Nat), Sm l p → Lx.wordP f r p l = .ok (l', p') → Sm l' p'
  | 0, _, _, _, _, _, hs, h => by cases h; exact hs
  | f + 1, [], _, _, _, _, hs, h => by cases h; exact hs
  | f + 1, c :: t, p, l, l', p', hs, h => by
    rw [wordP_cons] at h
    split at h
    · cases h; exact hs
    · split at h
      · split at h
        · cases h
        · rename_i k hk
          refine wordP_sm f _ _ _ _ _ ?_ h
          exact hs.add 1 _ (M := k + 2) (by rw [List.length_take]; omega) (by omega)
      · split at h
        · split at h
          · cases h
          · rename_i hq
            exact wordP_sm f _ _ _ _ _ (quotP_ok _ _ _ _ _ _ _ (hs.mono (by omega)) hq).2.2 h
        · split at h
          · split at h
            · cases h
            · rename_i hv
              exact wordP_sm f _ _ _ _ _ (hs.var hv) h
          · split at h
            · split at h
              · cases h
              · rename_i hne
                refine wordP_sm f _ _ _ _ _ ?_ h
                split
                · exact hs.mono (by omega)
                · rw [Nat.add_assoc]
                  exact hs.add 1 _ (M := 1 + Lx.wid t) (by rw [List.length_take]; omega) (by omega)
            · exact wordP_sm f _ _ _ _ _ (hs.add 1 [c] (M := 1) (by simp) (by omega)) h

theorem tokP_parts : ∀ (f : Nat) (r : List UInt8) (p : Nat) (acc ts : List Lx.Tok), (∀ t ∈ acc, t.parts.length ≤ 100000) → p + r.length ≤ 2048 → Lx.tokP f r p acc = .ok ts → ∀ t ∈ ts, t.parts.length ≤ 100000
  | 0, _, _, _, _, ha, _, h => by cases h; exact ha
  | f + 1, [], _, _, _, ha, _, h => by cases h; exact ha
  | f + 1, c :: t, p, acc, ts, ha, hl, h => by
    rw [List.length_cons] at hl
    have snoc : ∀ x : Lx.Tok, x.parts.length ≤ 100000 → ∀ y ∈ acc ++ [x], y.parts.length ≤ 100000 := by
      intro x hx y hy
      rcases List.mem_append.1 hy with hy | hy
      · exact ha y hy
      · simp at hy; subst hy; exact hx
    rw [tokP_cons] at h
    split at h
    · exact tokP_parts f _ _ _ _ ha (by omega) h
    · split at h
      · have := noteLen_le (c :: t)
        rw [List.length_cons] at this
        exact tokP_parts f _ _ _ _ ha (by rw [List.length_drop, List.length_cons]; omega) h
      · split at h
        · exact tokP_parts f _ _ _ _ (snoc _ (by simp)) (by omega) h
        · split at h
          · have := signOf_len (c :: t)
            rw [List.length_cons] at this
            exact tokP_parts f _ _ _ _ (snoc _ (by simp)) (by rw [List.length_drop, List.length_cons]; omega) h
          · split at h
            · cases h
            · split at h
              · cases h
              · rename_i l' p' hw
                have h1 := wordP_le _ _ _ _ _ _ hw
                have h2 := wordP_ge _ _ _ _ _ _ hw
                have h3 := wordP_sm _ _ _ _ _ _ (Sm.nil p) hw
                rw [List.length_cons] at h1
                refine tokP_parts f _ _ _ _ (snoc _ ?_) (by rw [List.length_drop, List.length_cons]; omega) h
                have := h3.len
                simp only
                omega

theorem tokens_parts {l : List UInt8} {E : Int} {A : Nat} {ts : List Lx.Tok} (h : Lx.tokens l = (E, A, ts)) : ∀ t ∈ ts, t.parts.length ≤ 100000 := by
  by_cases hl : 2048 < l.length
  · rw [tokens_long hl] at h
    cases h
    simp
  · cases hb : Lx.badP (l.length + 1) l 0 with
    | some i =>
      rw [tokens_bad hl hb] at h
      cases h
      simp
    | none =>
      rw [tokens_good hl hb] at h
      cases hr : Lx.tokP (l.length + 1) l 0 [] with
      | bad e =>
        rw [hr] at h
        cases h
        simp
      | ok ts' =>
        rw [hr] at h
        cases h
        exact tokP_parts _ _ _ _ _ (by simp) (by omega) hr

theorem ToksAt.cell4 {w : World} {a : Option Addr} {n c : Nat} {ts : List Lx.Tok} {vs : List Value} (h : ToksAt w (.slice a n c) ts vs) (k : Nat) (t : Lx.Tok) (hk : ts[k]? = some t) :
    ∃ g a' n', a = some ⟨g, 0, none⟩ ∧ w.cell? ⟨g, k * 4, none⟩ = some (.int .i64 t.kind) ∧ w.cell? ⟨g, k * 4 + 1, none⟩ = some (.string (Lx.strB t.text)) ∧ w.cell? ⟨g, k * 4 + 2, none⟩ = some (.slice a' n' n') ∧ w.cell? ⟨g, k * 4 + 3, none⟩ = some (.int .i64 t.pos) ∧ PartsAt w (.slice a' n' n') t.parts := by
  have hlt := (List.getElem?_eq_some_iff.1 hk).1
  obtain ⟨g, rfl, _, _, hc⟩ := h.cells (by omega)
  obtain ⟨u, hu⟩ : ∃ u, vs[k]? = some u := ⟨_, List.getElem?_eq_getElem (by rw [h.len]; exact hlt)⟩
  obtain ⟨hp, a', n', rfl⟩ := h.parts k t u hk hu
  have := hc k t _ hk hu
  exact ⟨g, a', n', rfl, by rw [Nat.mul_comm]; exact this.kind, by rw [Nat.mul_comm]; exact this.text, by rw [Nat.mul_comm]; exact this.ps, by rw [Nat.mul_comm]; exact this.pos, hp⟩

theorem ToksR.cell4 {w : World} {a : Option Addr} {n c : Nat} {ts : List Lx.Tok} {vs : List Value} (h : ToksR w (.slice a n c) ts vs) (k : Nat) (t : Lx.Tok) (hk : ts[k]? = some t) :
    ∃ g a' n' c', a = some ⟨g, 0, none⟩ ∧ w.cell? ⟨g, k * 4, none⟩ = some (.int .i64 t.kind) ∧ w.cell? ⟨g, k * 4 + 1, none⟩ = some (.string (Lx.strB t.text)) ∧ w.cell? ⟨g, k * 4 + 2, none⟩ = some (.slice a' n' c') ∧ w.cell? ⟨g, k * 4 + 3, none⟩ = some (.int .i64 t.pos) ∧ PartsR w (.slice a' n' c') t.parts := by
  have hlt := (List.getElem?_eq_some_iff.1 hk).1
  obtain ⟨g, rfl, _, _, hc⟩ := h.cells (by omega)
  obtain ⟨u, hu⟩ : ∃ u, vs[k]? = some u := ⟨_, List.getElem?_eq_getElem (by rw [h.len]; exact hlt)⟩
  obtain ⟨hp, a', n', c', rfl⟩ := h.parts k t u hk hu
  have := hc k t _ hk hu
  exact ⟨g, a', n', c', rfl, by rw [Nat.mul_comm]; exact this.kind, by rw [Nat.mul_comm]; exact this.text, by rw [Nat.mul_comm]; exact this.ps, by rw [Nat.mul_comm]; exact this.pos, hp⟩

set_option maxHeartbeats 4000000 in
set_option maxRecDepth 10000 in
theorem lexTokens_any (l : List UInt8) (w : World) (hl : l.length ≤ 9223372036854775807) (hT : Hid (U8 w)) :
    Calls Tryd.prog 6 #[.string (Lx.strB l)] w fun e w' => e = .returned (.bool true) ∧ Chg [] w w' := by
  obtain ⟨⟨E0, A0, ts⟩, hTT⟩ : ∃ T, Lx.tokens l = T := ⟨_, rfl⟩
  have hpl := tokens_parts hTT
  have HPL := Lib.hid hpl
  have h1 := tokens_any l w hl hT
  have h2 := fun (W : World) => rtokens_any l W hl
  rw [hTT] at h1 h2
  have H1 := Lib.hid h1
  have H2 := Lib.hid h2
  clear h1 h2 hpl hTT hl
  go_enter Tryd.func6, Tryd.ntmps6
  go_wp2_with fail
  refine H1.out.mono ?_
  rintro e w1 ⟨a, n, vs, rfl, hA, hC⟩
  have HA := Lib.hid hA
  have HC := Lib.hid hC
  clear hA hC H1
  go_wp2_with fail
  refine (H2.out _).mono ?_
  rintro e w2 ⟨a2, n2, c2, vs2, rfl, hB, hC2⟩
  have HA2 := Lib.hid (HA.out.kept0 (hC2.alloc (.cells #[.slice a2 n2 c2, .int .i64 (A0 : Int), .int .i64 E0] 40)))
  have HB2 := Lib.hid (hB.kept0 ((Chg.refl [] w2).alloc (.cells #[.slice a2 n2 c2, .int .i64 (A0 : Int), .int .i64 E0] 40)))
  have HC2 := Lib.hid ((HC.out.then0 hC2).alloc (.cells #[.slice a2 n2 c2, .int .i64 (A0 : Int), .int .i64 E0] 40))
  have HO := Lib.hid (obj_alloc_new w2 (.cells #[.slice a2 n2 c2, .int .i64 (A0 : Int), .int .i64 E0] 40))
  obtain ⟨_, _, hv1, hcap, hmax⟩ := HA2.out.row.shape
  obtain rfl : n = ts.length := by cases hv1; rfl
  obtain ⟨_, _, hv2, _, _⟩ := HB2.out.row.shape
  obtain rfl : n2 = ts.length := by cases hv2; rfl
  have hmx : ts.length ≤ 9223372036854775807 := by unfold maxLen at hmax; omega
  clear hB hC2 HA HC H2 hv1 hv2 hcap hmax
  go_wp2_with fail
  generalize w2.alloc (.cells #[.slice a2 ts.length c2, .int .i64 (A0 : Int), .int .i64 E0] 40) = w3 at *
  generalize w2.heap.size = gb at *
  go_loopg [7] (ts.length + 1) (fun g c7 wr => ∃ k : Nat, ts.length < k + g ∧ k ≤ ts.length ∧ c7 = .int .i64 k ∧ Chg [] w3 wr)
  case atStart => exact ⟨0, by omega, by omega, rfl, Chg.refl _ _⟩
  case round =>
    obtain ⟨k, hg, hk, rfl, hch⟩ := hrel
    have HCH := Lib.hid hch
    clear hch
    have k0 : (0 : Int) ≤ (k : Int) := by omega
    by_cases hlt : k < ts.length
    · cases gk with
      | zero => omega
      | succ g =>
        have hd : decide (k < ts.length) = true := decide_eq_true hlt
        have k1 : (k : Int) < (ts.length : Int) := by omega
        have k2 : 0 < ts.length := by omega
        have hm2 : (ts.length : Int) ≤ 9223372036854775807 := by omega
        obtain ⟨t, ht⟩ : ∃ t, ts[k]? = some t := ⟨_, List.getElem?_eq_getElem hlt⟩
        obtain ⟨g1, a3, n3, rfl, x0, x1, x2, x3, hP⟩ := (HA2.out.kept0 HCH.out).cell4 k t ht
        obtain ⟨g2, a4, n4, c4, rfl, y0, y1, y2, y3, hQ⟩ := (HB2.out.kept0 HCH.out).cell4 k t ht
        have z0 := cell_of_obj (HCH.out.obj HO.out (by simp)) (j := 0) rfl
        have HP := Lib.hid hP
        have HQ := Lib.hid hQ
        have HPL2 := Lib.hid (HPL.out t (List.mem_of_getElem? ht))
        have HG := Lib.hid hg
        clear hP hQ ht hg hmx
        go_wp2_with fail
        go_region_held3 (fun w' => w'.cell? ⟨gb, 0, none⟩ = some (.slice (some ⟨g2, 0, none⟩) ts.length c2) ∧ w'.cell? ⟨g1, k * 4, none⟩ = some (.int .i64 t.kind) ∧ w'.cell? ⟨g1, k * 4 + 1, none⟩ = some (.string (Lx.strB t.text)) ∧ w'.cell? ⟨g1, k * 4 + 2, none⟩ = some (.slice a3 n3 n3) ∧ w'.cell? ⟨g1, k * 4 + 3, none⟩ = some (.int .i64 t.pos) ∧ w'.cell? ⟨g2, k * 4, none⟩ = some (.int .i64 t.kind) ∧ w'.cell? ⟨g2, k * 4 + 1, none⟩ = some (.string (Lx.strB t.text)) ∧ w'.cell? ⟨g2, k * 4 + 2, none⟩ = some (.slice a4 n4 c4) ∧ w'.cell? ⟨g2, k * 4 + 3, none⟩ = some (.int .i64 t.pos))
          (first | exact ⟨z0, x0, x1, x2, x3, y0, y1, y2, y3⟩ | exact S2.out | exact S1.out)
          (first
            | (go_at_call 13; refine (parts_any a3 n3 n3 t.parts _ (HP.out.kept0 (Chg.refl [] _).drew) (by have := HPL2.out; omega)).mono ?_; rintro e w4 ⟨a5, n5, c5, rfl, P5, C5⟩; have HC5 := Lib.hid C5.drew0; have HP5 := Lib.hid P5; have S1 := Lib.hid (show _ ∧ _ ∧ _ ∧ _ ∧ _ ∧ _ ∧ _ ∧ _ ∧ _ from ⟨HC5.out.cell z0 (by simp), HC5.out.cell x0 (by simp), HC5.out.cell x1 (by simp), HC5.out.cell x2 (by simp), HC5.out.cell x3 (by simp), HC5.out.cell y0 (by simp), HC5.out.cell y1 (by simp), HC5.out.cell y2 (by simp), HC5.out.cell y3 (by simp)⟩); clear P5 C5)
            | (go_at_call 12; refine (same_any a5 a4 n5 c5 n4 c4 t.parts _ HP5.out (HQ.out.kept0 HC5.out) (by have := HPL2.out; omega)).mono ?_; rintro e w6 ⟨rfl, C6⟩; have HC6 := Lib.hid (HC5.out.then0 C6); have S2 := Lib.hid (show _ ∧ _ ∧ _ ∧ _ ∧ _ ∧ _ ∧ _ ∧ _ ∧ _ from ⟨HC6.out.cell z0 (by simp), HC6.out.cell x0 (by simp), HC6.out.cell x1 (by simp), HC6.out.cell x2 (by simp), HC6.out.cell x3 (by simp), HC6.out.cell y0 (by simp), HC6.out.cell y1 (by simp), HC6.out.cell y2 (by simp), HC6.out.cell y3 (by simp)⟩); clear C6))
        all_goals
          go_wp2
          go_roundg g
          case measure => omega
          case rel => exact ⟨k + 1, by have := HG.out; omega, by omega, by go_num, HCH.out.then0 HC6.out⟩
    · obtain rfl : k = ts.length := by omega
      have hd : decide (ts.length < ts.length) = false := decide_eq_false (by omega)
      clear hg
      go_wp2_with fail
      refine (awake_any _ (U8.chg hT (HC2.out.then0 HCH.out))).mono ?_
      rintro e w5 ⟨rfl, h5⟩
      have H5 := Lib.hid ((HC2.out.then0 HCH.out).then0 h5)
      clear h5
      go_wp2
      go_ret
      exact ⟨rfl, H5.out⟩

end Go.Proofs.YtocngneomllmoaaDoor
