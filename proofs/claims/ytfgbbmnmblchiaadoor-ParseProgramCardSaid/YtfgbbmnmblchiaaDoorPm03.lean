/-
  Tokens that lie in memory, cell by cell.
  The document's letter, name and Name: walked; they answer as the program's (the parse seat's text).
  The document's pieces: how they lie, and one put behind others: walked.
  The document's ends, size, sign: walked.
  The document's sign: walked.
  The document's wrong: walked.
  The document's dollar: walked.
-/
import Derived.Test.YtfgbbmnmblchiaaDoorTok
namespace Go.Proofs.YtfgbbmnmblchiaaDoor
open Go.RowKit
set_option linter.unusedVariables false

theorem tcells_get : ∀ (ts : List Lx.Tok) (vs : List Value) (i : Nat) (t : Lx.Tok) (u : Value), ts[i]? = some t → vs[i]? = some u → ∀ j, j < 4 → (tcells ts vs)[4 * i + j]? = (tokCells t.kind t.text u t.pos)[j]?
  | [], _, _, _, _, h, _, _, _ => by simp at h
  | _ :: _, [], _, _, _, _, h, _, _ => by simp at h
  | t0 :: ts, u0 :: vs, 0, t, u, ht, hu, j, hj => by
    simp at ht hu
    subst ht hu
    show (tokCells t0.kind t0.text u0 t0.pos ++ tcells ts vs)[4 * 0 + j]? = _
    rw [List.getElem?_append_left (by simp [tokCells]; omega)]
    simp
  | t0 :: ts, u0 :: vs, i + 1, t, u, ht, hu, j, hj => by
    have ih := tcells_get ts vs i t u (by simpa using ht) (by simpa using hu) j hj
    show (tokCells t0.kind t0.text u0 t0.pos ++ tcells ts vs)[4 * (i + 1) + j]? = _
    rw [List.getElem?_append_right (by simp [tokCells]; omega), ← ih]
    congr 1
    simp only [tokCells, List.length_cons, List.length_nil]
    omega

theorem pcells_get : ∀ (ps : List Lx.Part) (i : Nat) (p : Lx.Part), ps[i]? = some p → ∀ j, j < 2 → (pcells ps)[2 * i + j]? = (partCells p)[j]?
  | [], _, _, h, _, _ => by simp at h
  | p0 :: ps, 0, p, hp, j, hj => by
    simp at hp
    subst hp
    show (partCells p0 ++ pcells ps)[2 * 0 + j]? = _
    rw [List.getElem?_append_left (by simp [partCells]; omega)]
    simp
  | p0 :: ps, i + 1, p, hp, j, hj => by
    have ih := pcells_get ps i p (by simpa using hp) j hj
    show (partCells p0 ++ pcells ps)[2 * (i + 1) + j]? = _
    rw [List.getElem?_append_right (by simp [partCells]; omega), ← ih]
    congr 1
    simp only [partCells, List.length_cons, List.length_nil]
    omega

theorem Row.cells {w : World} {E : TypeId} {size n c : Nat} {a : Option Addr} {m : Nat} {xs : List Value} (h : Row w E size (.slice a n c) m xs) (hm : 0 < m) :
    ∃ g, a = some ⟨g, 0, none⟩ ∧ n = m ∧ m ≤ c ∧ ∀ j u, xs[j]? = some u → w.cell? ⟨g, j, none⟩ = some u := by
  rcases h.2 with ⟨rfl, _⟩ | ⟨g, cap, cur, hv, hg, h3, h4, h5, h6⟩
  · omega
  · cases hv
    exact ⟨g, rfl, rfl, h3, fun j u hj => cells_of_take hg h6 hj⟩

/-- the cells of token i. -/
structure TokCell (w : World) (g : Nat) (i : Nat) (t : Lx.Tok) (u : Value) : Prop where
  kind : w.cell? ⟨g, 4 * i, none⟩ = some (.int .i64 t.kind)
  text : w.cell? ⟨g, 4 * i + 1, none⟩ = some (.string (Lx.strB t.text))
  ps : w.cell? ⟨g, 4 * i + 2, none⟩ = some u
  pos : w.cell? ⟨g, 4 * i + 3, none⟩ = some (.int .i64 t.pos)

theorem ToksAt.cells {w : World} {a : Option Addr} {n c : Nat} {ts : List Lx.Tok} {vs : List Value} (h : ToksAt w (.slice a n c) ts vs) (h0 : 0 < ts.length) :
    ∃ g, a = some ⟨g, 0, none⟩ ∧ n = ts.length ∧ ts.length ≤ c ∧ ∀ i t u, ts[i]? = some t → vs[i]? = some u → TokCell w g i t u := by
  obtain ⟨g, rfl, hn, hc, hx⟩ := h.row.cells h0
  refine ⟨g, rfl, hn, hc, fun i t u ht hu => ⟨?_, ?_, ?_, ?_⟩⟩
  · exact hx (4 * i + 0) _ (tcells_get ts vs i t u ht hu 0 (by omega))
  · exact hx _ _ (tcells_get ts vs i t u ht hu 1 (by omega))
  · exact hx _ _ (tcells_get ts vs i t u ht hu 2 (by omega))
  · exact hx _ _ (tcells_get ts vs i t u ht hu 3 (by omega))

/-- the cells of piece i. -/
structure PartCell (w : World) (g : Nat) (i : Nat) (p : Lx.Part) : Prop where
  kind : w.cell? ⟨g, 2 * i, none⟩ = some (.int .i64 p.kind)
  text : w.cell? ⟨g, 2 * i + 1, none⟩ = some (.string (Lx.strB p.text))

theorem PartsAt.cells {w : World} {a : Option Addr} {n c : Nat} {ps : List Lx.Part} (h : PartsAt w (.slice a n c) ps) (h0 : 0 < ps.length) :
    ∃ g, a = some ⟨g, 0, none⟩ ∧ n = ps.length ∧ ps.length ≤ c ∧ ∀ i p, ps[i]? = some p → PartCell w g i p := by
  obtain ⟨g, rfl, hn, hc, hx⟩ := Row.cells h h0
  refine ⟨g, rfl, hn, hc, fun i p hp => ⟨?_, ?_⟩⟩
  · exact hx (2 * i + 0) _ (pcells_get ps i p hp 0 (by omega))
  · exact hx _ _ (pcells_get ps i p hp 1 (by omega))

end Go.Proofs.YtfgbbmnmblchiaaDoor

namespace Go.Proofs.YtfgbbmnmblchiaaDoor
open Go.RowKit
set_option linter.unusedVariables false

theorem letter_int (c : Int) (w : World) : Calls Tryd.prog 68 #[.int .u8 c] w fun e w' => e = .returned (.bool (firstI c)) ∧ w = w' := by
  by_cases h1 : 97 ≤ c
  all_goals by_cases h2 : c ≤ 122
  all_goals by_cases h3 : 65 ≤ c
  all_goals by_cases h4 : c ≤ 90
  all_goals
    go_enter Tryd.func68, Tryd.ntmps68
    go_wp2
    all_goals
      go_ret
      exact ⟨ret_bool (by simp only [firstI, h1, h2, h3, h4]; simp <;> omega), rfl⟩

/-- how many bytes at a text's beginning are a name's, however many. -/
def nameR (r : List UInt8) : Nat := if Lx.firstB (r.getD 0 0) = true ∧ r ≠ [] then (r.takeWhile Lx.laterB).length else 0

theorem nameR_le (r : List UInt8) : nameR r ≤ r.length := by
  unfold nameR
  split
  · exact (List.takeWhile_sublist Lx.laterB (l := r)).length_le
  · omega

theorem nameLen_R (r : List UInt8) : Lx.nameLen r = min 32 (nameR r) := by
  rw [nameLen_eq, nameR]
  split
  · rfl
  · simp

theorem getD_drop' (l : List UInt8) (i j : Nat) : (l.drop i).getD j 0 = l.getD (i + j) 0 := by
  rw [List.getD_eq_getElem?_getD, List.getElem?_drop, ← List.getD_eq_getElem?_getD]

set_option maxHeartbeats 2000000 in
theorem nameR_any (l : List UInt8) (i : Nat) (w : World) (hl : l.length ≤ 1000000) (hi : i ≤ l.length) :
    Calls Tryd.prog 61 #[.string (Lx.strB l), .int .i64 i] w fun e w' => e = .returned (.int .i64 ((i + nameR (l.drop i) : Nat) : Int)) ∧ w = w' := by
  have hsz := Lx.strB_size l
  obtain ⟨R, hR⟩ : ∃ R : Nat, i + nameR (l.drop i) = R := ⟨_, rfl⟩
  rw [hR]
  have HR := Lib.hid hR
  clear hR
  have i0 : (0 : Int) ≤ (i : Int) := by omega
  have i1 : (i : Int) ≤ 1000000 := by omega
  by_cases hlt : i < l.length
  · have hd : decide (l.length ≤ i) = false := decide_eq_false (by omega)
    have hlt1 : (i : Int) < (l.length : Int) := by omega
    obtain ⟨x, hx0⟩ : ∃ x, (l.getD i 0).toNat = x := ⟨_, rfl⟩
    have hx : ∀ h, ((Lx.strB l)[i]'h).toNat = x := fun h => by rw [Lx.strB_get]; exact hx0
    have hfb := Lib.hid (show firstI (x : Int) = Lx.firstB (l.getD i 0) from by rw [← hx0, firstI_byte])
    have hne : l.drop i ≠ [] := by intro e; have := congrArg List.length e; simp at this; omega
    have hg := getD_drop' l i 0
    rw [Nat.add_zero] at hg
    cases hf : firstI (x : Int) with
    | false =>
      have hr := Lib.hid (show R = i from by
        rw [← HR.out, nameR, hg, ← hfb.out, hf, if_neg (by rintro ⟨h, _⟩; cases h)]; omega)
      have HF := Lib.hid hf
      clear HR hfb hne hg hx0 hf
      go_enter Tryd.func61, Tryd.ntmps61
      go_wp2_with fail
      refine (letter_int _ _).mono ?_
      rw [HF.out]
      rintro e w' ⟨rfl, rfl⟩
      go_wp2
      go_ret
      exact ⟨ret_i64 (by rw [hr.out]), rfl⟩
    | true =>
      have hr := Lib.hid (show R = i + ((l.drop i).takeWhile Lx.laterB).length from by
        rw [← HR.out, nameR, hg, ← hfb.out, hf, if_pos ⟨rfl, hne⟩])
      have HF := Lib.hid hf
      clear HR hfb hne hg hx0 hf
      go_enter Tryd.func61, Tryd.ntmps61
      go_wp2_with fail
      refine (letter_int _ _).mono ?_
      rw [HF.out]
      rintro e w' ⟨rfl, rfl⟩
      clear hx hd hlt hlt1 i0 i1
      go_wp2_with fail
      go_loopg [1] (l.length + 1) (fun g c1 wr => ∃ k : Nat, l.length < k + g ∧ i ≤ k ∧ k ≤ l.length ∧ c1 = .int .i64 k ∧ wr = w ∧ Hid (∀ j, i + j < k → Lx.laterB ((l.drop i).getD j 0) = true))
      case atStart => exact ⟨i, by omega, by omega, by omega, rfl, rfl, Lib.hid (fun j hj => by omega)⟩
      case round =>
        obtain ⟨k, hg, hik, hkl, rfl, rfl, ha⟩ := hrel
        have k0 : (0 : Int) ≤ (k : Int) := by omega
        have k1 : (k : Int) ≤ 1000000 := by omega
        have stop := Lib.hid (show (k = l.length ∨ Lx.laterB (l.getD k 0) = false) → R = k from fun h => by
          rw [hr.out, takeWhile_all (k := k - i) (fun j hj => ha.out j (by omega)) (by rw [List.length_drop]; omega) (by
            rw [getD_drop', show i + (k - i) = k from by omega, List.length_drop]
            exact h.imp (fun h => by omega) id)]
          omega)
        by_cases hk : k < l.length
        · cases gk with
          | zero => omega
          | succ g =>
            have hkd : decide (k < l.length) = true := decide_eq_true hk
            have hk1 : (k : Int) < (l.length : Int) := by omega
            obtain ⟨y, hy0⟩ : ∃ y, (l.getD k 0).toNat = y := ⟨_, rfl⟩
            have hy : ∀ h, ((Lx.strB l)[k]'h).toNat = y := fun h => by rw [Lx.strB_get]; exact hy0
            have hlb := Lib.hid (show laterI (y : Int) = Lx.laterB (l.getD k 0) from by rw [← hy0, laterI_byte])
            have next := Lib.hid (show Lx.laterB (l.getD k 0) = true → ∀ j, i + j < k + 1 → Lx.laterB ((l.drop i).getD j 0) = true from fun h j hj => by
              by_cases hj' : i + j = k
              · rw [getD_drop', hj']; exact h
              · exact ha.out j (by omega))
            have hld : laterI (y : Int) = (firstI (y : Int) || (decide (48 ≤ (y : Int)) && decide ((y : Int) ≤ 57))) := rfl
            have HLD := Lib.hid hld
            have HG := Lib.hid hg
            clear hld ha hy0 hg
            cases hf : firstI (y : Int) with
            | true =>
              have HF := Lib.hid hf
              have HT := Lib.hid (show Lx.laterB (l.getD k 0) = true from by rw [← hlb.out, HLD.out, hf]; rfl)
              clear hf hlb HLD
              go_wp2_with fail
              refine (letter_int _ _).mono ?_
              rw [HF.out]
              rintro e w' ⟨rfl, rfl⟩
              go_wp2
              go_roundg g
              case measure => omega
              case rel => exact ⟨k + 1, by have := HG.out; omega, by omega, by omega, by go_num, rfl, Lib.hid (next.out HT.out)⟩
            | false =>
              have HF := Lib.hid hf
              by_cases h48 : 48 ≤ (y : Int)
              · have d48 : decide (48 ≤ (y : Int)) = true := decide_eq_true h48
                by_cases h57 : (y : Int) ≤ 57
                · have d57 : decide ((y : Int) ≤ 57) = true := decide_eq_true h57
                  have HT := Lib.hid (show Lx.laterB (l.getD k 0) = true from by rw [← hlb.out, HLD.out, hf, d48, d57]; rfl)
                  clear hf hlb HLD
                  go_wp2_with fail
                  refine (letter_int _ _).mono ?_
                  rw [HF.out]
                  rintro e w' ⟨rfl, rfl⟩
                  go_wp2
                  go_roundg g
                  case measure => omega
                  case rel => exact ⟨k + 1, by have := HG.out; omega, by omega, by omega, by go_num, rfl, Lib.hid (next.out HT.out)⟩
                · have d57 : decide ((y : Int) ≤ 57) = false := decide_eq_false h57
                  have HT := Lib.hid (stop.out (.inr (by rw [← hlb.out, HLD.out, hf, d48, d57]; rfl)))
                  clear hf hlb HLD
                  go_wp2_with fail
                  refine (letter_int _ _).mono ?_
                  rw [HF.out]
                  rintro e w' ⟨rfl, rfl⟩
                  go_wp2
                  go_ret
                  exact ⟨ret_i64 (by rw [HT.out]), rfl⟩
              · have d48 : decide (48 ≤ (y : Int)) = false := decide_eq_false h48
                have HT := Lib.hid (stop.out (.inr (by rw [← hlb.out, HLD.out, hf, d48]; rfl)))
                clear hf hlb HLD
                go_wp2_with fail
                refine (letter_int _ _).mono ?_
                rw [HF.out]
                rintro e w' ⟨rfl, rfl⟩
                go_wp2
                go_ret
                exact ⟨ret_i64 (by rw [HT.out]), rfl⟩
        · have hkd : decide (k < l.length) = false := decide_eq_false hk
          have HT := Lib.hid (stop.out (.inl (by omega)))
          clear stop ha hr
          go_wp2
          go_ret
          exact ⟨ret_i64 (by rw [HT.out]), rfl⟩
  · have hd : decide (l.length ≤ i) = true := decide_eq_true (by omega)
    have hr := Lib.hid (show R = i from by
      rw [← HR.out, List.drop_of_length_le (by omega)]; simp [nameR])
    clear HR
    go_enter Tryd.func61, Tryd.ntmps61
    go_wp2
    go_ret
    exact ⟨ret_i64 (by rw [hr.out]), rfl⟩

set_option maxHeartbeats 400000 in
theorem NameR_any (l : List UInt8) (w : World) (hl : l.length ≤ 9223372036854775807) :
    Calls Tryd.prog 62 #[.string (Lx.strB l)] w fun e w' => e = .returned (.bool (Lx.isName l)) ∧ w = w' := by
  have hsz := Lx.strB_size l
  have hnl := nameLen_R l
  have hle := nameR_le l
  by_cases h0 : 1 ≤ l.length
  · have hne : l ≠ [] := by rintro rfl; simp at h0
    have d0 : decide (1 ≤ (l.length : Int)) = true := decide_eq_true (by omega)
    by_cases h1 : l.length ≤ 32
    · have d1 : decide ((l.length : Int) ≤ 32) = true := decide_eq_true (by omega)
      have hr := Lib.hid (show Lx.isName l = decide ((nameR l : Int) = (l.length : Int)) from by
        unfold Lx.isName
        simp only [ne_eq, hne, not_false_eq_true, decide_true, Bool.true_and]
        rw [decide_eq_decide]; omega)
      have HN := Lib.hid (nameR_any l 0 w (by omega) (by omega))
      clear hnl hle hne
      go_enter Tryd.func62, Tryd.ntmps62
      go_wp2_with fail
      refine HN.out.mono ?_
      rw [Nat.zero_add, List.drop_zero]
      rintro e w' ⟨rfl, rfl⟩
      go_wp2
      go_ret
      exact ⟨ret_bool (by rw [hr.out]; rfl), rfl⟩
    · have d1 : decide ((l.length : Int) ≤ 32) = false := decide_eq_false (by omega)
      have hr := Lib.hid (show Lx.isName l = false from by
        unfold Lx.isName
        rw [Bool.and_eq_false_iff]
        right
        rw [decide_eq_false_iff_not]; omega)
      clear hnl hle hne
      go_enter Tryd.func62, Tryd.ntmps62
      go_wp2
      go_ret
      exact ⟨ret_bool hr.out.symm, rfl⟩
  · have d0 : decide (1 ≤ (l.length : Int)) = false := decide_eq_false (by omega)
    have hr := Lib.hid (show Lx.isName l = false from by
      have : l = [] := List.eq_nil_of_length_eq_zero (by omega)
      subst this; rfl)
    clear hnl hle
    go_enter Tryd.func62, Tryd.ntmps62
    go_wp2
    go_ret
    exact ⟨ret_bool hr.out.symm, rfl⟩

theorem dec_num (n m b0 b1 b2 b3 c1 c2 c3 : Nat) (h1 : 1 < n → c1 = b1) (h2 : 2 < n → c2 = b2) (h3 : 3 < n → c3 = b3) (hbad : Lib.decodeN n b0 b1 b2 b3 ≠ (65533, 1)) : Lib.decodeN (n + m) b0 c1 c2 c3 = Lib.decodeN n b0 b1 b2 b3 := by
  by_cases k0 : b0 < 128
  · unfold Lib.decodeN
    rw [if_pos k0, if_pos k0]
  · by_cases k1 : b0 / 32 = 6 ∧ (1 < n ∧ b1 / 64 = 2)
    · have l1 := k1.2.1
      obtain rfl := h1 l1
      have e1 : Lib.decodeN n b0 c1 b2 b3 = (if b0 % 32 * 64 + c1 % 64 ≥ 128 then (b0 % 32 * 64 + c1 % 64, 2) else (65533, 1)) := by unfold Lib.decodeN; rw [if_neg k0, if_pos k1]
      rw [e1]
      unfold Lib.decodeN
      rw [if_neg k0, if_pos (And.intro k1.1 (And.intro (by omega) k1.2.2))]
    · by_cases k2 : b0 / 16 = 14 ∧ (1 < n ∧ b1 / 64 = 2) ∧ (2 < n ∧ b2 / 64 = 2)
      · have l2 := k2.2.2.1
        obtain rfl := h1 (by omega)
        obtain rfl := h2 l2
        have e1 : Lib.decodeN n b0 c1 c2 b3 = (if b0 % 16 * 4096 + c1 % 64 * 64 + c2 % 64 ≥ 2048 ∧ (b0 % 16 * 4096 + c1 % 64 * 64 + c2 % 64 < 55296 ∨ (57344 ≤ b0 % 16 * 4096 + c1 % 64 * 64 + c2 % 64 ∧ b0 % 16 * 4096 + c1 % 64 * 64 + c2 % 64 ≤ 1114111)) then (b0 % 16 * 4096 + c1 % 64 * 64 + c2 % 64, 3) else (65533, 1)) := by
          unfold Lib.decodeN; rw [if_neg k0, if_neg k1, if_pos k2]
        rw [e1]
        unfold Lib.decodeN
        rw [if_neg k0, if_neg (fun e => by have := e.1; have := k2.1; omega), if_pos (And.intro k2.1 (And.intro (And.intro (by omega) k2.2.1.2) (And.intro (by omega) k2.2.2.2)))]
      · by_cases k3 : b0 / 8 = 30 ∧ (1 < n ∧ b1 / 64 = 2) ∧ (2 < n ∧ b2 / 64 = 2) ∧ (3 < n ∧ b3 / 64 = 2)
        · have l3 := k3.2.2.2.1
          obtain rfl := h1 (by omega)
          obtain rfl := h2 (by omega)
          obtain rfl := h3 l3
          have e1 : Lib.decodeN n b0 c1 c2 c3 = (if b0 % 8 * 262144 + c1 % 64 * 4096 + c2 % 64 * 64 + c3 % 64 ≥ 65536 ∧ (b0 % 8 * 262144 + c1 % 64 * 4096 + c2 % 64 * 64 + c3 % 64 < 55296 ∨ (57344 ≤ b0 % 8 * 262144 + c1 % 64 * 4096 + c2 % 64 * 64 + c3 % 64 ∧ b0 % 8 * 262144 + c1 % 64 * 4096 + c2 % 64 * 64 + c3 % 64 ≤ 1114111)) then (b0 % 8 * 262144 + c1 % 64 * 4096 + c2 % 64 * 64 + c3 % 64, 4) else (65533, 1)) := by
            unfold Lib.decodeN; rw [if_neg k0, if_neg k1, if_neg k2, if_pos k3]
          rw [e1]
          unfold Lib.decodeN
          rw [if_neg k0, if_neg (fun e => by have := e.1; have := k3.1; omega), if_neg (fun e => by have := e.1; have := k3.1; omega), if_pos (And.intro k3.1 (And.intro (And.intro (by omega) k3.2.1.2) (And.intro (And.intro (by omega) k3.2.2.1.2) (And.intro (by omega) k3.2.2.2.2))))]
        · refine absurd ?_ hbad
          unfold Lib.decodeN
          rw [if_neg k0, if_neg k1, if_neg k2, if_neg k3]

/-- a character that is whole stays as it is, whatever comes behind. -/
theorem dec_append (r x : List UInt8) (h : r ≠ []) (hr : Lx.rune r ≠ 65533 ∨ Lx.wid r ≠ 1) : Lx.rune (r ++ x) = Lx.rune r ∧ Lx.wid (r ++ x) = Lx.wid r := by
  have h1 : 1 ≤ r.length := by cases r with | nil => exact absurd rfl h | cons c t => simp
  have g : ∀ j, j < r.length → (r ++ x).getD j 0 = r.getD j 0 := fun j hj => by
    rw [List.getD_eq_getElem?_getD, List.getElem?_append_left hj, ← List.getD_eq_getElem?_getD]
  have d1 := Lx.dec_eq r
  have d2 := Lx.dec_eq (r ++ x)
  rw [List.length_append, g 0 (by omega), dec_num _ _ _ (r.getD 1 0).toNat (r.getD 2 0).toNat (r.getD 3 0).toNat _ _ _ (fun h => by rw [g 1 h]) (fun h => by rw [g 2 h]) (fun h => by rw [g 3 h]) ?_, ← d1] at d2
  · exact Prod.mk.inj d2
  · rw [← d1]
    intro e
    obtain ⟨e1, e2⟩ := Prod.mk.inj e
    rcases hr with hr | hr
    · exact hr e1
    · exact hr e2

theorem badP_nil (f p : Nat) : Lx.badP f [] p = none := by
  cases f with
  | zero => rfl
  | succ f => unfold Lx.badP; rw [if_pos rfl]

theorem badP_cons (f : Nat) (r : List UInt8) (p : Nat) (h : r ≠ []) : Lx.badP (f + 1) r p = if Lx.wrongB (Lx.rune r) (Lx.wid r) = true then some p else Lx.badP f (r.drop (Lx.wid r)) (p + Lx.wid r) := by
  conv => lhs; unfold Lx.badP
  rw [if_neg h]

theorem badP_fuel : ∀ (n f f' : Nat) (r : List UInt8) (p : Nat), r.length ≤ n → n < f → n < f' → Lx.badP f r p = Lx.badP f' r p
  | n, f, f', [], p, _, _, _ => by rw [badP_nil, badP_nil]
  | 0, _, _, _ :: _, _, h, _, _ => by simp at h
  | n + 1, 0, _, _ :: _, _, _, h, _ => by omega
  | n + 1, _ + 1, 0, _ :: _, _, _, _, h => by omega
  | n + 1, f + 1, f' + 1, c :: t, p, h, h1, h2 => by
    have hw := Lx.wid_pos (c :: t) (by simp)
    rw [List.length_cons] at h
    rw [badP_cons _ _ _ (by simp), badP_cons _ _ _ (by simp), badP_fuel n f f' _ _ (by rw [List.length_drop, List.length_cons]; omega) (by omega) (by omega)]


end Go.Proofs.YtfgbbmnmblchiaaDoor

namespace Go.Proofs.YtfgbbmnmblchiaaDoor
open Go.RowKit
set_option linter.unusedVariables false

def PartsR (w : World) (v : Value) (l : List Lx.Part) : Prop := Row w 103 2 v l.length (pcells l)

theorem PartsR.kept {w w' : World} {F : List Nat} {v : Value} {l : List Lx.Part} (h : PartsR w v l) (hc : Chg F w w') (hne : ∀ k ∈ rowBlock v, k ∉ F) : PartsR w' v l := Row.kept h hc hne
theorem PartsR.kept0 {w w' : World} {v : Value} {l : List Lx.Part} (h : PartsR w v l) (hc : Chg [] w w') : PartsR w' v l := Row.kept0 h hc
theorem PartsR.nil (w : World) (a : Option Addr) : PartsR w (.slice a 0 0) [] := Row.nil _ _ _ _

theorem PartsR.len {w : World} {a : Option Addr} {n c : Nat} {l : List Lx.Part} (h : PartsR w (.slice a n c) l) : n = l.length ∧ n ≤ c ∧ c ≤ maxLen := by
  obtain ⟨a', c', h1, h2, h3⟩ := Row.shape h
  cases h1
  exact ⟨rfl, h2, h3⟩

theorem Tryd.infoPartR : (Tryd.prog.info? 103).map (fun i => (i.zero, i.size, i.bytes)) = some (some (.agg #[.int .i64 0, .string ⟨#[]⟩]), 2, 24) := by kernel_rfl

def AddPostR (w : World) (v : Value) (r : List Lx.Part) (e : Ending) (w' : World) : Prop :=
  ∃ a n c, e = .returned (.slice a n c) ∧ PartsR w' (.slice a n c) r ∧ Chg (rowBlock v) w w' ∧ ∀ k ∈ rowBlock (.slice a n c), k ∈ rowBlock v ∨ w.heap.size ≤ k

theorem radd_fin {w : World} {a : Option Addr} {n c : Nat} {l : List Lx.Part} {k : Int} {t : List UInt8} (hn : n = l.length) (v' : Value) (w' : World) (r1 : Row w' 103 2 v' (n + 1) (pcells l ++ partCells ⟨k, t⟩))
    (q1 : Chg (rowBlock (.slice a n c)) (w.alloc (.cells #[.int .i64 k, .string (Lx.strB t)] 103)) w')
    (g1 : ∀ x ∈ rowBlock v', x ∈ rowBlock (.slice a n c) ∨ w.heap.size + 1 ≤ x) :
    AddPostR w (.slice a n c) (l ++ [⟨k, t⟩]) (.returned v') w' := by
  subst hn
  obtain ⟨a', c', rfl, _⟩ := r1.shape
  refine ⟨a', l.length + 1, c', rfl, ?_, ((Chg.refl _ w).alloc _).trans q1 (fun x hx => .inl hx), fun x hx => (g1 x hx).imp (fun h => h) (fun h => by omega)⟩
  unfold PartsR
  rw [List.length_append, pcells_append]
  exact r1

theorem raddPost_same {w : World} {a : Option Addr} {n c : Nat} {l : List Lx.Part} (h : PartsR w (.slice a n c) l) : AddPostR w (.slice a n c) l (.returned (.slice a n c)) w :=
  ⟨a, n, c, rfl, h, Chg.refl _ _, fun x hx => .inl hx⟩

theorem pcells_take (l' : List Lx.Part) (x : List Lx.Part) : ∀ (j : Nat) (u : Value), (pcells l')[j]? = some u → (pcells (l' ++ x))[j]? = some u := by
  intro j u h
  rw [pcells_append, List.getElem?_append_left (List.getElem?_eq_some_iff.1 h).1]
  exact h

set_option maxHeartbeats 4000000 in
theorem radd_any (a : Option Addr) (n c : Nat) (l : List Lx.Part) (k : Int) (t : List UInt8) (w : World) (h : PartsR w (.slice a n c) l) (hn : l.length ≤ 1000000) (htx : ∀ p ∈ l, p.text.length + t.length ≤ 1000000) :
    Calls Tryd.prog 48 #[.slice a n c, .int .i64 k, .string (Lx.strB t)] w (AddPostR w (.slice a n c) (Lx.addP l k t)) := by
  obtain ⟨i0, hi, hz0, hz1, hz2⟩ := info_parts Tryd.infoPartR
  obtain ⟨hnl, hc1, hc2⟩ := h.len
  have HR := Lib.hid (show Row w 103 2 (.slice a n c) n (pcells l) from by rw [hnl]; rw [hnl] at h; exact h)
  have HCM := Lib.hid hc2
  have hsrc := Lib.hid (srcNew w #[.int .i64 k, .string (Lx.strB t)] 103 (0, 0))
  have HF := Lib.hid (radd_fin (w := w) (a := a) (c := c) (k := k) (t := t) hnl)
  have HS := Lib.hid (raddPost_same h)
  have hn2 : n ≤ 1000000 := by omega
  have hsz := Lx.strB_size t
  clear h hc2
  by_cases hk1 : k = 1
  · subst hk1
    by_cases hn0 : n = 0
    · have hl0 : l = [] := List.eq_nil_of_length_eq_zero (by omega)
      subst hl0 hn0
      clear hnl hn htx
      by_cases ht : t = []
      · have hE : (Lx.strB t).toList.isEmpty = true := by rw [Lx.strB_toList, ht]; rfl
        rw [show Lx.addP [] 1 t = [] from by unfold Lx.addP; simp [ht]]
        clear ht
        go_enter Tryd.func48, Tryd.ntmps48
        go_wp2
        go_ret
        exact HS.out
      · have hE : (Lx.strB t).toList.isEmpty = false := by rw [Lx.strB_toList]; simpa using ht
        rw [show Lx.addP [] 1 t = [] ++ [⟨1, t⟩] from by unfold Lx.addP; simp [ht]]
        clear ht
        go_enter Tryd.func48, Tryd.ntmps48
        go_wp2_with (at_builtin; refine wpList_append_row _ rfl _ _ 78 rfl 103 i0 _ 2 24 Tryd.underlying78 hi hz0 hz1 hz2 rfl (by decide) _ 0 (pcells []) rfl (HR.out.kept0 ((Chg.refl [] _).alloc _)) _ 1 1 (partCells ⟨1, t⟩) rfl rfl hsrc.out (one_part _) (by unfold maxLen; omega) (by omega) ?_)
        intro v' w' r1 q1 g1
        have HP := Lib.hid (HF.out v' w' r1 q1 g1)
        clear r1 q1 g1
        go_wp2
        go_ret
        exact HP.out
    · obtain ⟨l', p, rfl⟩ : ∃ l' p, l = l' ++ [p] := by
        rcases List.eq_nil_or_concat l with h0 | ⟨l', p, h0⟩
        · subst h0; exact absurd hnl hn0
        · exact ⟨l', p, by simpa using h0⟩
      obtain ⟨m, rfl⟩ : ∃ m, n = m + 1 := ⟨n - 1, by omega⟩
      have hml : m = l'.length := by simp at hnl; omega
      obtain ⟨g, cur, rfl, hob, htk, _, _⟩ := HR.out.obj (by omega)
      have hpc : pcells (l' ++ [p]) = pcells l' ++ partCells p := by rw [pcells_append]; simp [pcells]
      have hlen : (pcells l').length = m * 2 := by rw [pcells_len, hml]
      have k0 := cells_of_take hob htk (j := m * 2) (u := .int .i64 p.kind) (by rw [hpc, List.getElem?_append_right (by omega), hlen, Nat.sub_self]; rfl)
      have k1 := cells_of_take hob htk (j := m * 2 + 1) (u := .string (Lx.strB p.text)) (by rw [hpc, List.getElem?_append_right (by omega), hlen, show m * 2 + 1 - m * 2 = 1 from by omega]; rfl)
      have hm0 : (0 : Int) ≤ (m : Int) := by omega
      have hpt := htx p (by simp)
      have hsz2 := Lx.strB_size p.text
      have hov := eq_false (show ¬ 9223372036854775807 < p.text.length + t.length from by omega)
      have hsr := Lib.hid (show SrcAt w (some ⟨g, 0, none⟩) (pcells l') from fun _ => ⟨g, 0, rfl, fun j u hj => by
        rw [Nat.zero_add]; exact cells_of_take hob htk (pcells_take l' [p] j u hj)⟩)
      rw [addP_last]
      by_cases hp : p.kind = 1
      · have hp1 : (p.kind == 1) = true := by rw [beq_iff_eq]; exact hp
        have hcat := Lx.strB_append p.text t
        have HK1 := Lib.hid k1
        rw [if_pos ⟨rfl, hp⟩, hp]
        have HLEN := Lib.hid (show (pcells l').length = m * 2 from hlen)
        have HML := Lib.hid hml
        have HC1 := Lib.hid hc1
        clear hp hpc hlen hml hnl htx hn htk hob hpt HF HS hsrc HR
        go_enter Tryd.func48, Tryd.ntmps48
        have HNW := Lib.hid hn2
        go_wp2_with (at_builtin; refine wpList_append_row _ rfl _ _ 78 rfl 103 i0 _ 2 24 Tryd.underlying78 hi hz0 hz1 hz2 rfl (by decide) _ 0 [] rfl (Row.nil _ _ _ _) _ m c (pcells l') rfl HLEN.out (hsr.out.kept0 ((Chg.refl [] _).alloc _)) (pcells_one l') (by unfold maxLen; omega) (by omega) ?_)
        intro v1 w1 r1 q1 g1
        have r1 : Row w1 103 2 v1 m (pcells l') := by simpa using r1
        have HQ1 := Lib.hid (show Chg [] w w1 from ((Chg.refl [] w).alloc _).then0 q1)
        have HG1 := Lib.hid (show ∀ x ∈ rowBlock v1, w.heap.size ≤ x from fun x hx => by
          rcases g1 x hx with h1 | h1
          · simp [rowBlock] at h1
          · have h1 : w.heap.size + 1 ≤ x := by simpa using h1
            omega)
        have y1 := HQ1.out.cell HK1.out (by simp)
        have HR1 := Lib.hid r1
        obtain ⟨a1, c1, rfl, _⟩ := r1.shape
        clear r1 q1 g1
        go_wp2_with (at_builtin; refine wpList_append_row _ rfl _ _ 78 rfl 103 i0 _ 2 24 Tryd.underlying78 hi hz0 hz1 hz2 rfl (by decide) _ m (pcells l') rfl (HR1.out.kept0 ((Chg.refl [] _).alloc _)) _ 1 1 (partCells ⟨1, p.text ++ t⟩) rfl rfl (srcNew w1 #[.int .i64 1, .string (Lx.strB (p.text ++ t))] 103 (0, 0)) (one_part _) (by unfold maxLen; omega) (by omega) ?_)
        intro v2 w2 r2 q2 g2
        have HP := Lib.hid (show AddPostR w (.slice (some ⟨g, 0, none⟩) (m + 1) c) (l' ++ [⟨1, p.text ++ t⟩]) (.returned v2) w2 from by
          obtain ⟨a2, c2, rfl, _⟩ := r2.shape
          refine ⟨a2, m + 1, c2, rfl, ?_, ?_, ?_⟩
          · unfold PartsR
            rw [List.length_append, List.length_singleton, ← HML.out, pcells_append]
            exact r2
          · exact ((HQ1.out.alloc _).trans q2 (fun x hx => .inr (HG1.out x hx))).mono (by simp)
          · intro x hx
            rcases g2 x hx with h1 | h1
            · exact .inr (HG1.out x h1)
            · have := HQ1.out.size
              have h1 : w1.heap.size + 1 ≤ x := by simpa using h1
              exact .inr (by omega))
        clear r2 q2 g2
        go_wp2
        go_ret
        exact HP.out
      · have hp1 : (p.kind == 1) = false := by rw [beq_eq_false_iff_ne]; exact hp
        rw [if_neg (fun e => hp e.2)]
        clear hp hpc hlen hml hnl htx hn htk hob hpt
        by_cases ht : t = []
        · have hE : (Lx.strB t).toList.isEmpty = true := by rw [Lx.strB_toList, ht]; rfl
          rw [if_pos ⟨rfl, ht⟩]
          clear ht
          go_enter Tryd.func48, Tryd.ntmps48
          go_wp2
          go_ret
          exact HS.out
        · have hE : (Lx.strB t).toList.isEmpty = false := by rw [Lx.strB_toList]; simpa using ht
          rw [if_neg (fun e => ht e.2)]
          clear ht
          go_enter Tryd.func48, Tryd.ntmps48
          go_wp2_with (at_builtin; refine wpList_append_row _ rfl _ _ 78 rfl 103 i0 _ 2 24 Tryd.underlying78 hi hz0 hz1 hz2 rfl (by decide) _ (m + 1) (pcells (l' ++ [p])) rfl (HR.out.kept0 ((Chg.refl [] _).alloc _)) _ 1 1 (partCells ⟨1, t⟩) rfl rfl hsrc.out (one_part _) (by unfold maxLen; omega) (by omega) ?_)
          intro v' w' r1 q1 g1
          have HP := Lib.hid (HF.out v' w' r1 q1 g1)
          clear r1 q1 g1
          go_wp2
          go_ret
          exact HP.out
  · have hk2 : (k == 1) = false := by rw [beq_eq_false_iff_ne]; exact hk1
    rw [show Lx.addP l k t = l ++ [⟨k, t⟩] from by unfold Lx.addP; split <;> simp [hk1]]
    clear hk1 hnl htx hn
    go_enter Tryd.func48, Tryd.ntmps48
    go_wp2_with (at_builtin; refine wpList_append_row _ rfl _ _ 78 rfl 103 i0 _ 2 24 Tryd.underlying78 hi hz0 hz1 hz2 rfl (by decide) _ n (pcells l) rfl (HR.out.kept0 ((Chg.refl [] _).alloc _)) _ 1 1 (partCells ⟨k, t⟩) rfl rfl hsrc.out (one_part _) (by unfold maxLen; omega) (by omega) ?_)
    intro v' w' r1 q1 g1
    have HP := Lib.hid (HF.out v' w' r1 q1 g1)
    clear r1 q1 g1
    go_wp2
    go_ret
    exact HP.out

end Go.Proofs.YtfgbbmnmblchiaaDoor

namespace Go.Proofs.YtfgbbmnmblchiaaDoor
open Go.RowKit
set_option linter.unusedVariables false

def endL : List UInt8 := [32, 9, 10, 59, 38, 124, 60, 62, 40, 41]
theorem endB_L (c : UInt8) : Lx.endB c = endL.contains c := rfl

set_option maxHeartbeats 1000000 in
theorem rends_any (c : UInt8) (x : Nat) (hx : c.toNat = x) (w : World) : Calls Tryd.prog 47 #[.int .u8 x] w fun e w' => e = .returned (.bool (Lx.endB c)) ∧ w = w' := by
  have HX := Lib.hid hx
  clear hx
  go_enter Tryd.func47, Tryd.ntmps47
  go_wp2
  go_loopg [4] 11 (fun g c4 wr => ∃ k : Nat, 10 < k + g ∧ k ≤ 10 ∧ c4 = .int .i64 k ∧ wr = w ∧ Hid (∀ j, j < k → endL.getD j 0 ≠ c))
  case atStart => exact ⟨0, by omega, by omega, rfl, rfl, Lib.hid (fun j hj => by omega)⟩
  case round =>
    obtain ⟨k, hg, hk, rfl, rfl, ha⟩ := hrel
    by_cases hlt : k < 10
    · cases gk with
      | zero => omega
      | succ g =>
        have k0 : (0 : Int) ≤ (k : Int) := by omega
        have k1 : (k : Int) < 10 := by omega
        obtain ⟨d, hd⟩ : ∃ d, endL.getD k 0 = d := ⟨_, rfl⟩
        obtain ⟨z, hz⟩ : ∃ z, d.toNat = z := ⟨_, rfl⟩
        have hy : ∀ h, ((⟨#[32, 9, 10, 59, 38, 124, 60, 62, 40, 41]⟩ : ByteArray)[k]'h).toNat = z := fun h => by
          have := Lx.strB_get endL k h
          rw [hd, hz] at this
          exact this
        have hcd : d = c ↔ z = x := ⟨fun e => by rw [← hz, e, HX.out], fun e => UInt8.toNat_inj.1 (by rw [hz, e, HX.out])⟩
        have HCD := Lib.hid hcd
        have HD := Lib.hid hd
        have HG := Lib.hid hg
        clear hz hcd hd hg
        by_cases he : z = x
        · have e1 : ((z : Int) == (x : Int)) = true := by rw [beq_iff_eq]; omega
          have hb := Lib.hid (show Lx.endB c = true from by
            rw [endB_L, List.contains_iff_mem, ← HCD.out.2 he, ← HD.out, List.getD_eq_getElem?_getD, List.getElem?_eq_getElem (by exact hlt)]
            exact List.getElem_mem _)
          clear he
          go_wp2
          go_ret
          exact ⟨ret_bool hb.out.symm, rfl⟩
        · have e1 : ((z : Int) == (x : Int)) = false := by rw [beq_eq_false_iff_ne]; omega
          have HNE := Lib.hid (show d ≠ c from fun e => he (HCD.out.1 e))
          clear he
          go_wp2
          go_roundg g
          case measure => omega
          case rel => exact ⟨k + 1, by have := HG.out; omega, by omega, by go_num, rfl, Lib.hid (fun j hj => by
              by_cases hjk : j = k
              · subst hjk; rw [HD.out]; exact HNE.out
              · exact ha.out j (by omega))⟩
    · have k1 : (10 : Int) ≤ (k : Int) := by omega
      obtain rfl : k = 10 := by omega
      have hb := Lib.hid (show Lx.endB c = false from by
        cases h : Lx.endB c with
        | false => rfl
        | true =>
          rw [endB_L, List.contains_iff_mem] at h
          obtain ⟨j, hj, he⟩ := List.mem_iff_getElem.1 h
          refine absurd ?_ (ha.out j hj)
          rw [List.getD_eq_getElem?_getD, List.getElem?_eq_getElem hj]
          exact he)
      go_wp2
      go_ret
      exact ⟨ret_bool hb.out.symm, rfl⟩

set_option maxHeartbeats 1000000 in
theorem rsize_any (l : List UInt8) (i : Nat) (hi : i < l.length) (hl : l.length ≤ 1000000) (w : World) :
    Calls Tryd.prog 50 #[.string (Lx.strB l), .int .i64 i] w fun e w' => e = .returned (.int .i64 (Lx.wid (l.drop i))) ∧ Chg [] w w' := by
  have hsz := Lx.strB_size l
  have i0 : (0 : Int) ≤ (i : Int) := by omega
  have i1 : (i : Int) ≤ (l.length : Int) := by omega
  have hx : (Lx.strB l).extract i l.length = Lx.strB (l.drop i) := by rw [← Lx.strB_tail, hsz]
  obtain ⟨r, hr⟩ : ∃ r, l.drop i = r := ⟨_, rfl⟩
  have hrl : r.length = l.length - i := by rw [← hr, List.length_drop]
  rw [hr] at hx ⊢
  have hrz := Lx.strB_size r
  have hit0 := World.iter_heap w (Lx.strB r) 0
  have HC0 := Lib.hid ((Chg.refl [] w).iter (Lx.strB r) 0)
  have HRL := Lib.hid hrl
  have l1 : (l.length : Int) ≤ 1000000 := by omega
  clear hr hrl
  go_enter Tryd.func50, Tryd.ntmps50
  go_wp2
  go_loopg [5] 3 (fun g c5 wr => ∃ pos : Nat, (pos = 0 ∧ g = 3 ∨ pos = Lx.wid r ∧ 1 ≤ g) ∧ wr.heap[w.heap.size]? = some (.stringIter (Lx.strB r) pos) ∧ Chg [] w wr)
  case atStart => exact ⟨0, .inl ⟨rfl, rfl⟩, hit0, HC0.out⟩
  case round =>
    obtain ⟨pos, hg, hit, hch⟩ := hrel
    have HC := Lib.hid hch
    clear hch hit0 HC0
    have HRL2 := HRL.out
    have hne : r ≠ [] := by intro e; rw [e] at HRL2; simp at HRL2; omega
    have hwp := Lx.wid_pos r hne
    have hwl := Lx.wid_le r hne
    by_cases h0 : pos = 0
    · subst h0
      have hg3 : gk = 3 := by omega
      subst hg3
      have hnx := fun ty => next_at wr w.heap.size r 0 ty hit (by omega)
      rw [List.drop_zero] at hnx
      have hit2 := Lib.iterAt_heap wr w.heap.size (Lx.strB r) 0 (0 + Lx.wid r) hit
      have HC2 := Lib.hid (HC.out.iterAt w.heap.size (Nat.le_refl _) (Lx.strB r) (0 + Lx.wid r))
      rw [Nat.zero_add] at hnx hit2 HC2
      generalize wr.iterAt w.heap.size (Lx.strB r) (Lx.wid r) = w2 at *
      generalize hwid : Lx.wid r = n at *
      have d0 : decide ((0 : Int) < 0) = false := by decide
      clear hit hne hwl HRL2 hg
      go_wp2
      go_roundg 2
      case measure => omega
      case rel => exact ⟨n, .inr ⟨rfl, by omega⟩, hit2, HC2.out⟩
    · have hpe : pos = Lx.wid r := by omega
      by_cases hp : pos < r.length
      · have hnx := fun ty => next_at wr w.heap.size r pos ty hit hp
        have HC2 := Lib.hid (HC.out.iterAt w.heap.size (Nat.le_refl _) (Lx.strB r) (pos + Lx.wid (r.drop pos)))
        generalize wr.iterAt w.heap.size (Lx.strB r) (pos + Lx.wid (r.drop pos)) = w2 at *
        have p0 : decide ((0 : Int) < (pos : Int)) = true := decide_eq_true (by omega)
        have p1 : decide (0 < pos) = true := decide_eq_true (by omega)
        have p2 : 0 < pos := by omega
        have HP := Lib.hid hpe
        clear hit hne hwl hwp HRL2 hg hpe h0
        go_wp2
        go_ret
        exact ⟨ret_i64 (by rw [HP.out]), HC2.out⟩
      · have hnx := fun ty => next_end wr w.heap.size r pos ty hit hp
        have HP := Lib.hid (show (l.length : Int) - (i : Int) = (Lx.wid r : Int) from by omega)
        clear hit hne hwl hwp HRL2 hg hpe h0 hp
        go_wp2
        go_ret
        exact ⟨ret_i64 HP.out, HC.out⟩

end Go.Proofs.YtfgbbmnmblchiaaDoor

namespace Go.Proofs.YtfgbbmnmblchiaaDoor
open Go.RowKit
set_option linter.unusedVariables false

set_option maxHeartbeats 4000000 in
theorem rsign_any (l : List UInt8) (i : Nat) (hi : i < l.length) (hl : l.length ≤ 1000000) (w : World) :
    Calls Tryd.prog 32 #[.string (Lx.strB l), .int .i64 i] w fun e w' => e = .returned (.string (Lx.strB (Lx.signOf (l.drop i)))) ∧ Chg [] w w' := by
  have hsz := Lx.strB_size l
  have i0 : (0 : Int) ≤ (i : Int) := by omega
  have i1 : (i : Int) < (l.length : Int) := by omega
  have l1 : (l.length : Int) ≤ 1000000 := by omega
  obtain ⟨r, hr⟩ : ∃ r, l.drop i = r := ⟨_, rfl⟩
  have hrl : r.length = l.length - i := by rw [← hr, List.length_drop]
  rw [hr]
  have HRR := Lib.hid hr
  have HRL := Lib.hid hrl
  clear hr hrl
  go_enter Tryd.func32, Tryd.ntmps32
  go_wp2_with fail
  have HC := Lib.hid ((Chg.refl [] w).alloc (.cells #[.string ⟨#[38, 38]⟩, .string ⟨#[124, 124]⟩, .string ⟨#[62, 62]⟩, .string ⟨#[124]⟩, .string ⟨#[60]⟩, .string ⟨#[62]⟩, .string ⟨#[40]⟩, .string ⟨#[41]⟩] 9))
  have hcell0 := Lib.hid (sign_cells (b := w.heap.size) _ _ (obj_alloc_new w (.cells #[.string ⟨#[38, 38]⟩, .string ⟨#[124, 124]⟩, .string ⟨#[62, 62]⟩, .string ⟨#[124]⟩, .string ⟨#[60]⟩, .string ⟨#[62]⟩, .string ⟨#[40]⟩, .string ⟨#[41]⟩] 9)))
  generalize w.alloc (.cells #[.string ⟨#[38, 38]⟩, .string ⟨#[124, 124]⟩, .string ⟨#[62, 62]⟩, .string ⟨#[124]⟩, .string ⟨#[60]⟩, .string ⟨#[62]⟩, .string ⟨#[40]⟩, .string ⟨#[41]⟩] 9) = w1 at *
  generalize w.heap.size = B at *
  go_loopg [6] 9 (fun g c6 wr => ∃ k : Nat, 8 < k + g ∧ k ≤ 8 ∧ c6 = .int .i64 k ∧ (Chg [] w wr ∧ Chg [] w1 wr) ∧ Hid (∀ j, j < k → (Lx.signs.getD j []).isPrefixOf r = false))
  case atStart => exact ⟨0, by omega, by omega, rfl, ⟨HC.out, Chg.refl _ _⟩, Lib.hid (fun j hj => by omega)⟩
  case round =>
    obtain ⟨k, hg, hk, rfl, ⟨hcw, hc1⟩, ha⟩ := hrel
    have HCW := Lib.hid hcw
    have HC1 := Lib.hid hc1
    clear hcw hc1
    by_cases hlt : k < 8
    · cases gk with
      | zero => omega
      | succ g =>
        have k0 : (0 : Int) ≤ (k : Int) := by omega
        have k1 : (k : Int) < 8 := by omega
        obtain ⟨x, hx⟩ : ∃ x, Lx.signs.getD k [] = x := ⟨_, rfl⟩
        have hxl : 1 ≤ x.length ∧ x.length ≤ 2 := by
          rcases (show k = 0 ∨ k = 1 ∨ k = 2 ∨ k = 3 ∨ k = 4 ∨ k = 5 ∨ k = 6 ∨ k = 7 from by omega) with rfl | rfl | rfl | rfl | rfl | rfl | rfl | rfl <;> (rw [← hx]; decide)
        have hcl := hcell0.out k hlt
        rw [hx] at hcl
        have hc := HC1.out.cell hcl (by simp)
        have hxz := Lx.strB_size x
        have HX := Lib.hid hx
        have HG := Lib.hid hg
        clear hx hg hcl
        have x0 : (0 : Int) ≤ (x.length : Int) := by omega
        have x1 : (x.length : Int) ≤ 2 := by omega
        by_cases hlen : x.length ≤ r.length
        · have HRL2 := HRL.out
          have d1 : decide ((x.length : Int) ≤ (l.length : Int) - (i : Int)) = true := decide_eq_true (by omega)
          have b1 : (i : Int) + (x.length : Int) ≤ (l.length : Int) := by omega
          have b2 : (i : Int) ≤ (i : Int) + (x.length : Int) := by omega
          have b3 : (0 : Int) ≤ (i : Int) + (x.length : Int) := by omega
          have hw1 := Lib.hid (show IntKind.i64.wrap ((i : Int) + (x.length : Int)) = (i : Int) + (x.length : Int) from by rw [IntKind.wrap_i64]; omega)
          have hw2 := Lib.hid (show IntKind.i64.wrap ((l.length : Int) - (i : Int)) = (l.length : Int) - (i : Int) from by rw [IntKind.wrap_i64]; omega)
          obtain ⟨y, hy⟩ : ∃ y, r.take x.length = y := ⟨_, rfl⟩
          have hex := Lib.hid (show (Lx.strB l).extract i ((i : Int) + (x.length : Int)).toNat = Lx.strB y from by
            rw [show ((i : Int) + (x.length : Int)).toNat = i + x.length from by omega, Lx.strB_extract, show i + x.length - i = x.length from by omega, HRR.out, hy])
          have hpr : x.isPrefixOf r = true ↔ y = x := by
            rw [List.isPrefixOf_iff_prefix, List.prefix_iff_eq_take, hy]
            exact eq_comm
          clear HRL2
          by_cases he : y = x
          · have hb := Lib.hid (show Lx.signOf r = x from by
              unfold Lx.signOf
              rw [sign_found r Lx.signs k hlt ha.out (by rw [HX.out]; exact hpr.2 he), HX.out]; rfl)
            subst he
            have HPR := Lib.hid hpr
            clear hpr hy
            have hex2 := hex.out
            have hw1' := hw1.out
            have hw2' := hw2.out
            go_wp2_with fail
            go_quiet (fail)
            all_goals
              have HC3 := Lib.hid (HCW.out.drewN nq)
              have hc3 := (HC1.out.drewN nq).cell (hcell0.out k hlt) (by simp)
              rw [HX.out] at hc3
              generalize wr.drewN nq = w3 at *
              go_wp2_with fail
              go_ret
              exact ⟨ret_str (by rw [hb.out]), HC3.out⟩
          · have hne := Lib.hid (show ∀ j, j < k + 1 → (Lx.signs.getD j []).isPrefixOf r = false from fun j hj => by
              by_cases hjk : j = k
              · subst hjk
                rw [HX.out]
                cases h : x.isPrefixOf r with
                | false => rfl
                | true => exact absurd (hpr.1 h) he
              · exact ha.out j (by omega))
            have hsn : ((Lx.strB y).toList == (Lx.strB x).toList) = false := by rw [Lx.strB_toList, Lx.strB_toList, beq_eq_false_iff_ne]; exact he
            have HEQ := Lib.hid he
            clear hpr hy he
            have hex2 := hex.out
            have hw1' := hw1.out
            have hw2' := hw2.out
            go_wp2_with fail
            go_quiet (fail)
            all_goals
              go_wp2_with fail
              go_roundg g
              case measure => omega
              case rel => exact ⟨k + 1, by have := HG.out; omega, by omega, by go_num, ⟨HCW.out.drewN _, HC1.out.drewN _⟩, hne⟩
        · have hne := Lib.hid (show ∀ j, j < k + 1 → (Lx.signs.getD j []).isPrefixOf r = false from fun j hj => by
            by_cases hjk : j = k
            · subst hjk
              rw [HX.out]
              cases h : x.isPrefixOf r with
              | false => rfl
              | true => exact absurd (List.isPrefixOf_iff_prefix.1 h).length_le hlen
            · exact ha.out j (by omega))
          have HRL2 := HRL.out
          have d1 : decide ((x.length : Int) ≤ (l.length : Int) - (i : Int)) = false := decide_eq_false (by omega)
          clear hlen HRL2
          go_wp2_with fail
          go_quiet (fail)
          all_goals
            go_wp2_with fail
            go_roundg g
            case measure => omega
            case rel => exact ⟨k + 1, by have := HG.out; omega, by omega, by go_num, ⟨HCW.out.drewN _, HC1.out.drewN _⟩, hne⟩
    · obtain rfl : k = 8 := by omega
      have hn := Lib.hid (sign_none r Lx.signs (fun j hj => ha.out j hj))
      go_wp2
      go_ret
      exact ⟨ret_str (by unfold Lx.signOf; rw [hn.out]; rfl), HCW.out⟩

end Go.Proofs.YtfgbbmnmblchiaaDoor

namespace Go.Proofs.YtfgbbmnmblchiaaDoor
open Go.RowKit
set_option linter.unusedVariables false

theorem fffd_wid (r : List UInt8) (h : r.take 3 = [239, 191, 189]) : Lx.wid r = 3 := by
  match r, h with
  | a :: b :: c :: t, h =>
    simp at h
    obtain ⟨rfl, rfl, rfl⟩ := h
    have d := dec_append [239, 191, 189] t (by simp) (.inr (by decide +kernel))
    have e : ([239, 191, 189] : List UInt8) ++ t = 239 :: 191 :: 189 :: t := rfl
    rw [e] at d
    rw [d.2]
    decide +kernel

set_option maxHeartbeats 4000000 in
theorem rwrong_any (l : List UInt8) (w : World) (hl : l.length ≤ 1000000) :
    Calls Tryd.prog 31 #[.string (Lx.strB l)] w fun e w' => e = .returned (.int .i64 (placeI (Lx.badP (l.length + 1) l 0))) ∧ Chg [] w w' := by
  have hsz := Lx.strB_size l
  have hit0 := World.iter_heap w (Lx.strB l) 0
  have HC0 := Lib.hid ((Chg.refl [] w).iter (Lx.strB l) 0)
  have l1 : (l.length : Int) ≤ 1000000 := by omega
  obtain ⟨R, hR⟩ : ∃ R, Lx.badP (l.length + 1) l 0 = R := ⟨_, rfl⟩
  have HR := Lib.hid hR
  rw [hR]
  clear hR
  go_enter Tryd.func31, Tryd.ntmps31
  go_wp2
  go_loopg [3, 4] (l.length + 1) (fun g c3 c4 wr => ∃ pos : Nat, l.length < pos + g ∧ pos ≤ l.length ∧ wr.heap[w.heap.size]? = some (.stringIter (Lx.strB l) pos) ∧ Chg [] w wr ∧ Hid (R = Lx.badP g (l.drop pos) pos))
  case atStart => exact ⟨0, by omega, by omega, hit0, HC0.out, Lib.hid HR.out.symm⟩
  case round =>
    obtain ⟨pos, hg, hle, hit, hch, hr⟩ := hrel
    have HC := Lib.hid hch
    clear hch hit0 HC0 HR
    cases gk with
    | zero => omega
    | succ g =>
      by_cases hp : pos < l.length
      · have hnx := fun ty => next_at wr w.heap.size l pos ty hit hp
        obtain ⟨t1, t2, t3, t4, t5⟩ := spec_at l pos hp
        have hne : l.drop pos ≠ [] := by intro e; have := congrArg List.length e; simp at this; omega
        have hit2 := Lib.iterAt_heap wr w.heap.size (Lx.strB l) pos (pos + Lx.wid (l.drop pos)) hit
        have HC2 := Lib.hid (HC.out.iterAt w.heap.size (Nat.le_refl _) (Lx.strB l) (pos + Lx.wid (l.drop pos)))
        have hstep := Lib.hid (show Lx.badP (g + 1) (l.drop pos) pos = if Lx.wrongB (Lx.rune (l.drop pos)) (Lx.wid (l.drop pos)) = true then some pos else Lx.badP g (l.drop (pos + Lx.wid (l.drop pos))) (pos + Lx.wid (l.drop pos)) from by
          rw [badP_cons _ _ _ hne, List.drop_drop])
        have HERR := Lib.hid (Lx.rune_error (l.drop pos))
        have HFF := Lib.hid (fffd_wid (l.drop pos))
        generalize Lx.rune (l.drop pos) = u at *
        generalize Lx.wid (l.drop pos) = n at *
        generalize wr.iterAt w.heap.size (Lx.strB l) (pos + n) = w2 at *
        have T4 := Lib.hid t4
        clear hit t1 t2 t5 hne
        have u0 : (0 : Int) ≤ (u : Int) := by omega
        have p0 : (0 : Int) ≤ (pos : Int) := by omega
        have p1 : (pos : Int) ≤ (l.length : Int) := by omega
        by_cases h1 : (u < 32 ∧ u ≠ 10 ∧ u ≠ 9) ∨ u = 127
        · have hb := Lib.hid (show R = some pos from by
            rw [hr.out, hstep.out, if_pos]
            rw [wrong_low]
            rcases h1 with ⟨a, b, c⟩ | a
            · simp [a, b, c]
            · simp [a])
          clear hstep hr HERR HFF
          rcases h1 with ⟨a, b, c⟩ | a
          · have d1 : decide ((u : Int) < 32) = true := decide_eq_true (by omega)
            have d2 : ((u : Int) == 10) = false := by rw [beq_eq_false_iff_ne]; omega
            have d3 : ((u : Int) == 9) = false := by rw [beq_eq_false_iff_ne]; omega
            have d4 : ((u : Int) != 10) = true := by rw [bne_iff_ne]; omega
            have d5 : ((u : Int) != 9) = true := by rw [bne_iff_ne]; omega
            go_wp2
            go_ret
            exact ⟨ret_i64 (by rw [hb.out]; rfl), HC2.out⟩
          · have d1 : decide ((u : Int) < 32) = false := decide_eq_false (by omega)
            have d2 : ((u : Int) == 127) = true := by rw [beq_iff_eq]; omega
            clear a
            go_wp2
            go_ret
            exact ⟨ret_i64 (by rw [hb.out]; rfl), HC2.out⟩
        · have h127 : ((u : Int) == 127) = false := by rw [beq_eq_false_iff_ne]; omega
          by_cases he : u = 65533
          · have d1 : decide ((u : Int) < 32) = false := decide_eq_false (by omega)
            have d2 : ((u : Int) == 65533) = true := by rw [beq_iff_eq]; omega
            have HE := Lib.hid he
            have hrl : (l.drop pos).length = l.length - pos := List.length_drop
            have b1 : (0 : Int) ≤ (pos : Int) + 3 := by omega
            have b2 : (pos : Int) ≤ (pos : Int) + 3 := by omega
            by_cases hn : n = 1
            · have hb := Lib.hid (show R = some pos from by
                rw [hr.out, hstep.out, if_pos]
                rw [wrong_low, HE.out]
                simp [hn])
              by_cases h3 : l.length - pos < 3
              · have d3 : decide ((l.length : Int) - (pos : Int) < 3) = true := decide_eq_true (by omega)
                clear he h1 hn hstep hr HERR HFF hrl h3
                go_wp2
                go_ret
                exact ⟨ret_i64 (by rw [hb.out]; rfl), HC2.out⟩
              · have d3 : decide ((l.length : Int) - (pos : Int) < 3) = false := decide_eq_false (by omega)
                have b3 : (pos : Int) + 3 ≤ (l.length : Int) := by omega
                obtain ⟨y, hy⟩ : ∃ y, (l.drop pos).take 3 = y := ⟨_, rfl⟩
                have hyn : y ≠ [239, 191, 189] := fun e => by have := HFF.out (hy.trans e); omega
                have hex := Lib.hid (show (Lx.strB l).extract pos (pos + 3) = Lx.strB y from by
                  rw [Lx.strB_extract, show pos + 3 - pos = 3 from by omega, hy])
                have hyb : ((Lx.strB y).toList == [239, 191, 189]) = false := by rw [Lx.strB_toList, beq_eq_false_iff_ne]; exact hyn
                have hyb2 : ((Lx.strB y).toList == (⟨#[239, 191, 189]⟩ : ByteArray).toList) = false := by
                  rw [show (⟨#[239, 191, 189]⟩ : ByteArray) = Lx.strB [239, 191, 189] from rfl, Lx.strB_toList, Lx.strB_toList, beq_eq_false_iff_ne]; exact hyn
                have hyb3 : ((Lx.strB y).toList != [239, 191, 189]) = true := by rw [Lx.strB_toList, bne_iff_ne]; exact hyn
                clear he h1 hn hstep hr HERR HFF hrl h3 hy hyn
                have hx5 := hex.out
                have hx6 : (Lx.strB l).extract pos ((pos : Int) + 3).toNat = Lx.strB y := by rw [show ((pos : Int) + 3).toNat = pos + 3 from by omega]; exact hex.out
                go_wp2
                go_ret
                exact ⟨ret_i64 (by rw [hb.out]; rfl), HC2.out⟩
            · have hb := Lib.hid (show R = Lx.badP g (l.drop (pos + n)) (pos + n) from by
                rw [hr.out, hstep.out, if_neg]
                rw [wrong_low, HE.out]
                simp [hn])
              have hT3 : n = 3 ∧ (l.drop pos).take 3 = [239, 191, 189] := by
                rcases HERR.out he with h | h
                · exact absurd h hn
                · exact h
              have h3 : ¬ l.length - pos < 3 := by
                have := congrArg List.length hT3.2
                rw [List.length_take, hrl] at this
                simp at this
                omega
              have d3 : decide ((l.length : Int) - (pos : Int) < 3) = false := decide_eq_false (by omega)
              have b3 : (pos : Int) + 3 ≤ (l.length : Int) := by omega
              have hex := Lib.hid (show (Lx.strB l).extract pos (pos + 3) = ⟨#[239, 191, 189]⟩ from by
                rw [Lx.strB_extract, show pos + 3 - pos = 3 from by omega, hT3.2]; rfl)
              clear he h1 hn hstep hr HERR HFF hrl h3 hT3
              have hx5 := hex.out
              have hx6 : (Lx.strB l).extract pos ((pos : Int) + 3).toNat = ⟨#[239, 191, 189]⟩ := by rw [show ((pos : Int) + 3).toNat = pos + 3 from by omega]; exact hex.out
              go_wp2
              go_roundg g
              case measure => omega
              case rel => exact ⟨pos + n, by omega, T4.out, hit2, HC2.out, hb⟩
          · have d2 : ((u : Int) == 65533) = false := by rw [beq_eq_false_iff_ne]; omega
            have hb := Lib.hid (show R = Lx.badP g (l.drop (pos + n)) (pos + n) from by
              rw [hr.out, hstep.out, if_neg]
              rw [wrong_low]
              have e1 : (u == 127) = false := by rw [beq_eq_false_iff_ne]; omega
              have e2 : (u == 65533) = false := by rw [beq_eq_false_iff_ne]; omega
              rw [e1, e2]
              simp
              omega)
            clear hstep hr HERR HFF
            have HG := Lib.hid hg
            clear hg
            by_cases h32 : u < 32
            · have d1 : decide ((u : Int) < 32) = true := decide_eq_true (by omega)
              by_cases h10 : u = 10
              · have d3 : ((u : Int) != 10) = false := by rw [bne_eq_false_iff_eq]; omega
                have d4 : ((u : Int) == 10) = true := by rw [beq_iff_eq]; omega
                clear h1 h32 h10 he
                go_wp2
                go_roundg g
                case measure => omega
                case rel => exact ⟨pos + n, by have := HG.out; omega, T4.out, hit2, HC2.out, hb⟩
              · have d3 : ((u : Int) != 10) = true := by rw [bne_iff_ne]; omega
                have d4 : ((u : Int) == 10) = false := by rw [beq_eq_false_iff_ne]; omega
                have d5 : ((u : Int) != 9) = false := by rw [bne_eq_false_iff_eq]; omega
                have d6 : ((u : Int) == 9) = true := by rw [beq_iff_eq]; omega
                clear h1 h32 h10 he
                go_wp2
                go_roundg g
                case measure => omega
                case rel => exact ⟨pos + n, by have := HG.out; omega, T4.out, hit2, HC2.out, hb⟩
            · have d1 : decide ((u : Int) < 32) = false := decide_eq_false (by omega)
              clear h1 h32 he
              go_wp2
              go_roundg g
              case measure => omega
              case rel => exact ⟨pos + n, by have := HG.out; omega, T4.out, hit2, HC2.out, hb⟩
      · have hnx := fun ty => next_end wr w.heap.size l pos ty hit hp
        have hb := Lib.hid (show R = none from by rw [hr.out, List.drop_of_length_le (by omega), badP_nil])
        clear hr hg hit hle
        go_wp2
        go_ret
        exact ⟨ret_i64 (by rw [hb.out]; rfl), HC.out⟩

end Go.Proofs.YtfgbbmnmblchiaaDoor

namespace Go.Proofs.YtfgbbmnmblchiaaDoor
open Go.RowKit
set_option linter.unusedVariables false

theorem take_takeWhile {p : UInt8 → Bool} : ∀ (t : List UInt8), (t.take (t.takeWhile p).length).takeWhile p = t.takeWhile p
  | [] => by simp
  | c :: t => by
    by_cases h : p c = true
    · simp [h, take_takeWhile t]
    · simp [h]

theorem nameR_take (t : List UInt8) : nameR (t.take (nameR t)) = nameR t := by
  unfold nameR
  by_cases h : Lx.firstB (t.getD 0 0) = true ∧ t ≠ []
  · rw [if_pos h]
    match t, h with
    | c :: t, h =>
      have hf : Lx.firstB c = true := h.1
      have hl := first_later c hf
      rw [if_pos ⟨by simpa [hl] using hf, by simp [hl]⟩, take_takeWhile]
  · rw [if_neg h, List.take_zero]
    simp

theorem isName_take (t : List UInt8) : Lx.isName (t.take (nameR t)) = decide (1 ≤ nameR t ∧ nameR t ≤ 32) := by
  have hle := nameR_le t
  unfold Lx.isName
  rw [nameLen_R, nameR_take, List.length_take, Nat.min_eq_left hle]
  by_cases h0 : 1 ≤ nameR t
  · have hne : t.take (nameR t) ≠ [] := by intro e; have := congrArg List.length e; rw [List.length_take, List.length_nil] at this; omega
    simp only [ne_eq, hne, not_false_eq_true, decide_true, Bool.true_and]
    rw [decide_eq_decide]
    omega
  · have hz : nameR t = 0 := by omega
    rw [hz, List.take_zero]
    simp

theorem nameR_later (t : List UInt8) (j : Nat) (h : j < nameR t) : Lx.laterB (t.getD j 0) = true := by
  unfold nameR at h
  split at h
  · have key : ∀ (t : List UInt8) (j : Nat), j < (t.takeWhile Lx.laterB).length → Lx.laterB (t.getD j 0) = true := by
      intro t
      induction t with
      | nil => intro j h; simp at h
      | cons c t ih =>
        intro j h
        by_cases hc : Lx.laterB c = true
        · rw [List.takeWhile_cons, if_pos hc, List.length_cons] at h
          cases j with
          | zero => exact hc
          | succ j => exact ih j (by omega)
        · rw [List.takeWhile_cons, if_neg hc] at h
          simp at h
    exact key t j h
  · omega

theorem dollarP_brace (t : List UInt8) : Lx.dollarP (123 :: t) = if 1 ≤ nameR t ∧ nameR t ≤ 32 ∧ t[nameR t]? = some 125 then (t.take (nameR t), (nameR t : Int) + 3) else ([], -1) := by
  have hn := nameLen_R t
  unfold Lx.dollarP
  rw [if_neg (by simp), if_pos (by simp), List.drop_succ_cons, List.drop_zero]
  by_cases h : 1 ≤ nameR t ∧ nameR t ≤ 32 ∧ t[nameR t]? = some 125
  · rw [if_pos h]
    have e : Lx.nameLen t = nameR t := by omega
    rw [e, if_neg (by rintro (h1 | h1); omega; exact h1 h.2.2)]
  · rw [if_neg h, if_pos]
    by_cases h0 : Lx.nameLen t = 0
    · exact .inl h0
    · right
      intro e
      by_cases h32 : nameR t ≤ 32
      · have e2 : Lx.nameLen t = nameR t := by omega
        rw [e2] at e
        exact h ⟨by omega, h32, e⟩
      · have e2 : Lx.nameLen t = 32 := by omega
        rw [e2] at e
        have := nameR_later t 32 (by omega)
        rw [List.getD_eq_getElem?_getD, e] at this
        exact absurd this (by decide)

theorem dollarP_plain (r : List UInt8) (h1 : r.head? ≠ some 63) (h2 : r.head? ≠ some 123) : Lx.dollarP r = (r.take (min 32 (nameR r)), (min 32 (nameR r) : Nat) + (1 : Int)) := by
  unfold Lx.dollarP
  rw [if_neg h1, if_neg h2, nameLen_R]

/-- what the document's dollar hands back. -/
def dollV (i : Nat) (d : List UInt8 × Int) : Value :=
  if d.2 < 0 then .tuple #[.string ⟨#[]⟩, .int .i64 0, .bool false, .bool true]
  else if d.1 = [] then .tuple #[.string ⟨#[]⟩, .int .i64 ((i : Int) + d.2), .bool false, .bool false]
  else .tuple #[.string (Lx.strB d.1), .int .i64 ((i : Int) + d.2), .bool true, .bool false]

theorem dollV_bad (i : Nat) : dollV i ([], -1) = .tuple #[.string ⟨#[]⟩, .int .i64 0, .bool false, .bool true] := rfl

theorem results_tmp4 {fn : Func} {t u v x : Tmp} (h : fn.results = #[.tmp t, .tmp u, .tmp v, .tmp x]) (tmps : Array Value) (P : Program) (w : World) :
    (results fn tmps).run P w = .ok (.tuple #[tmps.getD t undef, tmps.getD u undef, tmps.getD v undef, tmps.getD x undef]) w := by
  simp [results, h]

set_option maxHeartbeats 4000000 in
set_option maxRecDepth 10000 in
theorem rdollar_any (l : List UInt8) (i : Nat) (c : UInt8) (r : List UInt8) (w : World) (hd : l.drop i = c :: r) (hl : l.length ≤ 100000) :
    Calls Tryd.prog 51 #[.string (Lx.strB l), .int .i64 i] w fun e w' => e = .returned (dollV i (Lx.dollarP r)) ∧ w = w' := by
  have hlen : l.length = i + (r.length + 1) := by
    have := congrArg List.length hd
    rw [List.length_drop, List.length_cons] at this
    omega
  have hd1 : l.drop (i + 1) = r := by rw [← List.drop_drop, hd]; rfl
  have hsz := Lx.strB_size l
  have i0 : (0 : Int) ≤ (i : Int) := by omega
  have i1 : (i : Int) ≤ 100000 := by omega
  have l1 : (l.length : Int) ≤ 100000 := by omega
  have HN := Lib.hid (fun (j : Nat) (hj : j ≤ l.length) => nameR_any l j w (by omega) hj)
  have HD1 := Lib.hid hd1
  have HLEN := Lib.hid hlen
  clear hd hd1
  clear hlen
  rcases (show r = [] ∨ ∃ x t, r = x :: t from by cases r with
    | nil => exact .inl rfl
    | cons x t => exact .inr ⟨x, t, rfl⟩) with rfl | ⟨x, t, rfl⟩
  · have hlen := HLEN.out
    simp only [List.length_nil] at hlen
    have hb := Lib.hid (show dollV i (Lx.dollarP []) = .tuple #[.string ⟨#[]⟩, .int .i64 ((i : Int) + 1), .bool false, .bool false] from rfl)
    have hn := HN.out (i + 1) (by omega)
    rw [HD1.out, show i + 1 + nameR [] = i + 1 from rfl] at hn
    have HNN := Lib.hid hn
    have d1 : decide (i + 1 < l.length) = false := decide_eq_false (by omega)
    have d2 : decide ((i : Int) + 1 < (l.length : Int)) = false := decide_eq_false (by omega)
    clear hlen hn HN
    go_enter Tryd.func51, Tryd.ntmps51
    go_wp2_with fail
    refine HNN.out.mono ?_
    rintro e w' ⟨rfl, rfl⟩
    go_wp2_with fail
    (try simp only [Exit.inBlock, Exit.then])
    refine bodyPost_ret (results_tmp4 rfl _ _ _) rfl ?_
    rw [hb.out]
    exact ⟨rfl, rfl⟩
  · have hlen := HLEN.out
    rw [List.length_cons] at hlen
    obtain ⟨y, hxy⟩ : ∃ y, x.toNat = y := ⟨_, rfl⟩
    have hy : ∀ h, ((Lx.strB l)[i + 1]'h).toNat = y := fun h => by
      have h5 := drop_at l (i + 1) (by omega)
      rw [HD1.out] at h5
      rw [Lx.strB_get, ← (List.cons.inj h5).1, hxy]
    have hd2 : l.drop (i + 2) = t := by rw [show i + 2 = (i + 1) + 1 from rfl, ← List.drop_drop, HD1.out]; rfl
    have d1 : decide (i + 1 < l.length) = true := decide_eq_true (by omega)
    have d2 : decide ((i : Int) + 1 < (l.length : Int)) = true := decide_eq_true (by omega)
    have b1 : (0 : Int) ≤ (i : Int) + 1 := by omega
    have b2 : (i : Int) + 1 < (l.length : Int) := by omega
    have hx8 : ∀ z : UInt8, x = z ↔ y = z.toNat := fun z => ⟨fun e => by rw [← hxy, e], fun e => UInt8.toNat_inj.1 (hxy.trans e)⟩
    have HX8 := Lib.hid hx8
    have HD2 := Lib.hid hd2
    clear hlen hxy hx8 hd2
    by_cases h63 : y = 63
    · have hb := Lib.hid (show dollV i (Lx.dollarP (x :: t)) = .tuple #[.string ⟨#[63]⟩, .int .i64 ((i : Int) + 2), .bool true, .bool false] from by
        rw [(HX8.out 63).2 h63]; rfl)
      have e63 : ((y : Int) == 63) = true := by rw [beq_iff_eq]; omega
      clear h63 HN
      go_enter Tryd.func51, Tryd.ntmps51
      go_wp2_with fail
      (try simp only [Exit.inBlock, Exit.then])
      refine bodyPost_ret (results_tmp4 rfl _ _ _) rfl ?_
      rw [hb.out]
      exact ⟨rfl, rfl⟩
    · have e63 : ((y : Int) == 63) = false := by rw [beq_eq_false_iff_ne]; omega
      by_cases h123 : y = 123
      · have e123 : ((y : Int) == 123) = true := by rw [beq_iff_eq]; omega
        have hn := HN.out (i + 2) (by have := HLEN.out; rw [List.length_cons] at this; omega)
        rw [HD2.out] at hn
        obtain ⟨m, hm⟩ : ∃ m, nameR t = m := ⟨_, rfl⟩
        have hml := nameR_le t
        have hbr := dollarP_brace t
        have hin := isName_take t
        rw [hm] at hn hml hbr hin
        have HM := Lib.hid hm
        have HBR := Lib.hid hbr
        have hxx := (HX8.out 123).2 h123
        have ec : ((i + 2 + m : Nat) : Int) = (i : Int) + 2 + (m : Int) := by omega
        rw [ec] at hn
        have HNN := Lib.hid hn
        have m0 : (0 : Int) ≤ (m : Int) := by omega
        have m1 : (m : Int) ≤ 100000 := by have := HLEN.out; rw [List.length_cons] at this; omega
        have hlt : l.length = i + 2 + t.length := by have := HLEN.out; rw [List.length_cons] at this; omega
        have HLT := Lib.hid hlt
        clear hn hbr h63 HN ec hm
        by_cases hk : t.length ≤ m
        · have hb := Lib.hid (show dollV i (Lx.dollarP (x :: t)) = .tuple #[.string ⟨#[]⟩, .int .i64 0, .bool false, .bool true] from by
            rw [hxx, HBR.out, if_neg]
            · rfl
            · rintro ⟨_, _, h3⟩
              rw [List.getElem?_eq_none hk] at h3
              cases h3)
          have dk : decide ((l.length : Int) ≤ (i : Int) + 2 + (m : Int)) = true := decide_eq_true (by omega)
          clear hin h123 hxx hlt hk
          go_enter Tryd.func51, Tryd.ntmps51
          go_wp2_with fail
          refine HNN.out.mono ?_
          rintro e w' ⟨rfl, rfl⟩
          go_wp2_with fail
          (try simp only [Exit.inBlock, Exit.then])
          refine bodyPost_ret (results_tmp4 rfl _ _ _) rfl ?_
          rw [hb.out]
          exact ⟨rfl, rfl⟩
        · have dk : decide ((l.length : Int) ≤ (i : Int) + 2 + (m : Int)) = false := decide_eq_false (by omega)
          have b3 : (i : Int) + 2 + (m : Int) < (l.length : Int) := by omega
          have b4 : (0 : Int) ≤ (i : Int) + 2 + (m : Int) := by omega
          obtain ⟨z, hz⟩ : ∃ z, l.getD (i + 2 + m) 0 = z := ⟨_, rfl⟩
          obtain ⟨v, hv⟩ : ∃ v, z.toNat = v := ⟨_, rfl⟩
          have hzv : ∀ h, ((Lx.strB l)[i + 2 + m]'h).toNat = v := fun h => by rw [Lx.strB_get, hz, hv]
          have hzv2 : ∀ h, ((Lx.strB l)[((i : Int) + 2 + (m : Int)).toNat]'h).toNat = v := fun h => by
            have e : ((i : Int) + 2 + (m : Int)).toNat = i + 2 + m := by omega
            have := Lx.strB_get l ((i : Int) + 2 + (m : Int)).toNat h
            rw [this, e, hz, hv]
          have htz : t[m]? = some z := by
            have h5 : (l.drop (i + 2)).getD m 0 = z := by rw [getD_drop', hz]
            rw [HD2.out, List.getD_eq_getElem?_getD, List.getElem?_eq_getElem (by omega)] at h5
            rw [List.getElem?_eq_getElem (by omega)]
            exact congrArg some h5
          by_cases h125 : v = 125
          · have e125 : ((v : Int) != 125) = false := by rw [bne_eq_false_iff_eq]; omega
            have e125b : ((v : Int) == 125) = true := by rw [beq_iff_eq]; omega
            have hz5 : z = 125 := UInt8.toNat_inj.1 (by rw [hv, h125]; rfl)
            have hex := Lib.hid (show (Lx.strB l).extract (i + 2) (i + 2 + m) = Lx.strB (t.take m) from by
              rw [Lx.strB_extract, show i + 2 + m - (i + 2) = m from by omega, HD2.out])
            have hex2 := Lib.hid (show (Lx.strB l).extract (i + 2) ((i : Int) + 2 + (m : Int)).toNat = Lx.strB (t.take m) from by
              rw [show ((i : Int) + 2 + (m : Int)).toNat = i + 2 + m from by omega]; exact hex.out)
            have hNA := NameR_any (t.take m) w (by rw [List.length_take]; omega)
            rw [hin] at hNA
            have b5 : (0 : Int) ≤ (i : Int) + 2 := by omega
            have b6 : (i : Int) + 2 ≤ (i : Int) + 2 + (m : Int) := by omega
            have b7 : (i : Int) + 2 + (m : Int) ≤ (l.length : Int) := by omega
            by_cases hok : 1 ≤ m ∧ m ≤ 32
            · have hb := Lib.hid (show dollV i (Lx.dollarP (x :: t)) = .tuple #[.string (Lx.strB (t.take m)), .int .i64 ((i : Int) + 2 + (m : Int) + 1), .bool true, .bool false] from by
                rw [hxx, HBR.out, if_pos ⟨hok.1, hok.2, by rw [htz, hz5]⟩]
                unfold dollV
                rw [if_neg (by simp only; omega), if_neg (by intro e; have := congrArg List.length e; rw [List.length_take, List.length_nil] at this; omega)]
                have e5 : (i : Int) + ((m : Int) + 3) = (i : Int) + 2 + (m : Int) + 1 := by omega
                simp only [e5])
              rw [show decide (1 ≤ m ∧ m ≤ 32) = true from decide_eq_true hok] at hNA
              have HNA := Lib.hid hNA
              clear hin h123 hxx hlt hk hz hv htz hz5 h125 hNA hok
              have hx5 := hex.out
              have hx6 := hex2.out
              go_enter Tryd.func51, Tryd.ntmps51
              go_wp2_with fail
              refine HNN.out.mono ?_
              rintro e w' ⟨rfl, rfl⟩
              go_wp2_with fail
              refine HNA.out.mono ?_
              rintro e w' ⟨rfl, rfl⟩
              go_wp2_with fail
              (try simp only [Exit.inBlock, Exit.then])
              refine bodyPost_ret (results_tmp4 rfl _ _ _) rfl ?_
              rw [hb.out]
              first | exact ⟨rfl, rfl⟩ | (rw [← hex.out]; exact ⟨rfl, rfl⟩) | (rw [← hex2.out]; exact ⟨rfl, rfl⟩)
            · have hb := Lib.hid (show dollV i (Lx.dollarP (x :: t)) = .tuple #[.string ⟨#[]⟩, .int .i64 0, .bool false, .bool true] from by
                rw [hxx, HBR.out, if_neg (fun e => hok ⟨e.1, e.2.1⟩)]; rfl)
              rw [show decide (1 ≤ m ∧ m ≤ 32) = false from decide_eq_false hok] at hNA
              have HNA := Lib.hid hNA
              clear hin h123 hxx hlt hk hz hv htz hz5 h125 hNA hok
              have hx5 := hex.out
              have hx6 := hex2.out
              go_enter Tryd.func51, Tryd.ntmps51
              go_wp2_with fail
              refine HNN.out.mono ?_
              rintro e w' ⟨rfl, rfl⟩
              go_wp2_with fail
              refine HNA.out.mono ?_
              rintro e w' ⟨rfl, rfl⟩
              go_wp2_with fail
              (try simp only [Exit.inBlock, Exit.then])
              refine bodyPost_ret (results_tmp4 rfl _ _ _) rfl ?_
              rw [hb.out]
              exact ⟨rfl, rfl⟩
          · have e125 : ((v : Int) != 125) = true := by rw [bne_iff_ne]; omega
            have e125b : ((v : Int) == 125) = false := by rw [beq_eq_false_iff_ne]; omega
            have hb := Lib.hid (show dollV i (Lx.dollarP (x :: t)) = .tuple #[.string ⟨#[]⟩, .int .i64 0, .bool false, .bool true] from by
              rw [hxx, HBR.out, if_neg]
              · rfl
              · rintro ⟨_, _, h3⟩
                rw [htz] at h3
                have h3 := Option.some.inj h3
                rw [h3] at hv
                exact h125 hv.symm)
            clear hin h123 hxx hlt hk hz hv htz h125
            go_enter Tryd.func51, Tryd.ntmps51
            go_wp2_with fail
            refine HNN.out.mono ?_
            rintro e w' ⟨rfl, rfl⟩
            go_wp2_with fail
            (try simp only [Exit.inBlock, Exit.then])
            refine bodyPost_ret (results_tmp4 rfl _ _ _) rfl ?_
            rw [hb.out]
            exact ⟨rfl, rfl⟩
      · have e123 : ((y : Int) == 123) = false := by rw [beq_eq_false_iff_ne]; omega
        have hn := HN.out (i + 1) (by have := HLEN.out; rw [List.length_cons] at this; omega)
        rw [HD1.out] at hn
        have hpl := dollarP_plain (x :: t) (by simp only [List.head?_cons]; intro e; exact h63 ((HX8.out 63).1 (Option.some.inj e))) (by simp only [List.head?_cons]; intro e; exact h123 ((HX8.out 123).1 (Option.some.inj e)))
        obtain ⟨m, hm⟩ : ∃ m, nameR (x :: t) = m := ⟨_, rfl⟩
        have hml := nameR_le (x :: t)
        rw [hm] at hn hpl hml
        have ec : ((i + 1 + m : Nat) : Int) = (i : Int) + 1 + (m : Int) := by omega
        rw [ec] at hn
        have HNN := Lib.hid hn
        have HPL := Lib.hid hpl
        have hlt := HLEN.out
        have m0 : (0 : Int) ≤ (m : Int) := by omega
        have m1 : (m : Int) ≤ 100000 := by omega
        clear hn hpl h63 h123 HN ec hm
        obtain ⟨q, hq⟩ : ∃ q, min 32 m = q := ⟨_, rfl⟩
        rw [hq] at HPL
        have q0 : (0 : Int) ≤ (q : Int) := by omega
        have q1 : (q : Int) ≤ 32 := by omega
        have hmin : min ((i : Int) + 1 + (m : Int)) ((i : Int) + 33) = (i : Int) + 1 + (q : Int) := by omega
        have hmin2 : (if (i : Int) + 1 + (m : Int) ≤ (i : Int) + 33 then (i : Int) + 1 + (m : Int) else (i : Int) + 33) = (i : Int) + 1 + (q : Int) := by split <;> omega
        have b3 : (i : Int) + 1 + (q : Int) ≤ (l.length : Int) := by omega
        have b4 : (i : Int) + 1 ≤ (i : Int) + 1 + (q : Int) := by omega
        have b5 : (0 : Int) ≤ (i : Int) + 1 + (q : Int) := by omega
        by_cases h0 : q = 0
        · subst h0
          have hb := Lib.hid (show dollV i (Lx.dollarP (x :: t)) = .tuple #[.string ⟨#[]⟩, .int .i64 ((i : Int) + 1), .bool false, .bool false] from by
            rw [HPL.out]; rfl)
          have hmz : m = 0 := by omega
          subst hmz
          clear hq hml hlt HPL hmin hmin2
          go_enter Tryd.func51, Tryd.ntmps51
          go_wp2_with fail
          refine HNN.out.mono ?_
          rintro e w' ⟨rfl, rfl⟩
          go_wp2_with fail
          (try simp only [Exit.inBlock, Exit.then])
          refine bodyPost_ret (results_tmp4 rfl _ _ _) rfl ?_
          rw [hb.out]
          exact ⟨rfl, rfl⟩
        · have hb := Lib.hid (show dollV i (Lx.dollarP (x :: t)) = .tuple #[.string (Lx.strB ((x :: t).take q)), .int .i64 ((i : Int) + 1 + (q : Int)), .bool true, .bool false] from by
            rw [HPL.out]
            unfold dollV
            rw [if_neg (by simp only; omega), if_neg (by intro e; have := congrArg List.length e; rw [List.length_take, List.length_nil] at this; omega)]
            have e5 : (i : Int) + ((q : Int) + 1) = (i : Int) + 1 + (q : Int) := by omega
            simp only [e5])
          have hex := Lib.hid (show (Lx.strB l).extract (i + 1) (i + 1 + q) = Lx.strB ((x :: t).take q) from by
            rw [Lx.strB_extract, show i + 1 + q - (i + 1) = q from by omega, HD1.out])
          have hex2 := Lib.hid (show (Lx.strB l).extract (i + 1) ((i : Int) + 1 + (q : Int)).toNat = Lx.strB ((x :: t).take q) from by
            rw [show ((i : Int) + 1 + (q : Int)).toNat = i + 1 + q from by omega]; exact hex.out)
          have dq : decide ((i : Int) + 1 < (i : Int) + 1 + (q : Int)) = true := decide_eq_true (by omega)
          have dq0 : 0 < q := by omega
          clear hq hml hlt HPL h0
          have hx5 := hex.out
          have hx6 := hex2.out
          go_enter Tryd.func51, Tryd.ntmps51
          go_wp2_with fail
          refine HNN.out.mono ?_
          rintro e w' ⟨rfl, rfl⟩
          go_wp2_with fail
          (try simp only [Exit.inBlock, Exit.then])
          refine bodyPost_ret (results_tmp4 rfl _ _ _) rfl ?_
          rw [hb.out]
          first | exact ⟨rfl, rfl⟩ | (rw [← hex.out]; exact ⟨rfl, rfl⟩) | (rw [← hex2.out]; exact ⟨rfl, rfl⟩)

end Go.Proofs.YtfgbbmnmblchiaaDoor
