/-
  ParseWords: true.
-/
import Derived.Test.YtfgbbmnmblchiaaDoorPAwake
import Derived.Test.YtfgbbmnmblchiaaDoorWordsC
namespace Go.Proofs.YtfgbbmnmblchiaaDoor
open Go.RowKit
set_option linter.unusedVariables false

theorem wrap_u8 {n : Int} (h0 : 0 ≤ n) (h1 : n < 256) : IntKind.u8.wrap n = n := by
  show n % 256 = n
  omega

theorem conv_let (i : Nat) (hi : i < 8) (w : World) : (convert 24 9 (.slice (some ⟨w.heap.size, 0, none⟩) 1 1)).run Tryd.prog (w.alloc (.cells #[.int .u8 (97 + (i : Int))] 5)) = .ok (.string ⟨#[letW i]⟩) (w.alloc (.cells #[.int .u8 (97 + (i : Int))] 5)) := by
  have e : ((letW i).toNat : Int) = 97 + (i : Int) := by
    rcases (show i = 0 ∨ i = 1 ∨ i = 2 ∨ i = 3 ∨ i = 4 ∨ i = 5 ∨ i = 6 ∨ i = 7 from by omega) with rfl | rfl | rfl | rfl | rfl | rfl | rfl | rfl <;> rfl
  exact run_conv_string (P := Tryd.prog) _ 24 9 5 Tryd.underlying24 Tryd.underlying5 Tryd.underlying9 (some ⟨w.heap.size, 0, none⟩) 1 [letW i] (fun _ => ⟨_, 0, rfl, fun j u hj => by
    have hob := obj_alloc_new w (.cells #[.int .u8 (97 + (i : Int))] 5)
    cases j with
    | zero =>
      have hu : Value.int .u8 ((letW i).toNat : Int) = u := Option.some.inj hj
      rw [← hu, e]
      exact cell_of_obj hob rfl
    | succ j => simp at hj⟩)

/-- the letter's text, whatever the world. -/
theorem conv_let2 (i : Nat) (hi : i < 8) (w : World) (g : Nat) (h : w.cell? ⟨g, 0, none⟩ = some (.int .u8 (97 + (i : Int)))) : (convert 24 9 (.slice (some ⟨g, 0, none⟩) 1 1)).run Tryd.prog w = .ok (.string ⟨#[letW i]⟩) w := by
  have e : ((letW i).toNat : Int) = 97 + (i : Int) := by
    rcases (show i = 0 ∨ i = 1 ∨ i = 2 ∨ i = 3 ∨ i = 4 ∨ i = 5 ∨ i = 6 ∨ i = 7 from by omega) with rfl | rfl | rfl | rfl | rfl | rfl | rfl | rfl <;> rfl
  exact run_conv_string (P := Tryd.prog) _ 24 9 5 Tryd.underlying24 Tryd.underlying5 Tryd.underlying9 (some ⟨g, 0, none⟩) 1 [letW i] (fun _ => ⟨_, 0, rfl, fun j u hj => by
    cases j with
    | zero =>
      have hu : Value.int .u8 ((letW i).toNat : Int) = u := Option.some.inj hj
      rw [← hu, e]
      exact h
    | succ j => simp at hj⟩)

theorem midW_len (a b c n : Nat) (h : n ≤ 8) : (midW a b c n).length ≤ 7 * a + 14 * n := by
  unfold midW
  rw [List.length_append]
  have h1 : (t1W a).length = 7 * a := by
    induction a with
    | zero => rfl
    | succ n ih =>
      rw [t1W, List.length_append, ih]
      simp only [vwW, List.length_cons, List.length_nil]
      omega
  have h2 : ∀ n : Nat, (t2W b c n).length ≤ 14 * n := by
    intro n
    induction n with
    | zero => exact Nat.le_refl _
    | succ n ih =>
      rw [t2W, List.length_append, List.length_append]
      have h3 : (if n < c then frW n else []).length ≤ 6 := by
        split
        · unfold frW signW
          repeat' split
          all_goals simp
        · simp
      have h4 : (if n < b then wwW n else []).length ≤ 8 := by
        split
        · unfold wwW
          split <;> simp
        · simp
      omega
  have := h2 n
  omega
theorem t1W_len (n : Nat) : (t1W n).length = 7 * n := by
  induction n with
  | zero => rfl
  | succ n ih =>
    rw [t1W, List.length_append, ih]
    simp only [vwW, List.length_cons, List.length_nil]
    omega
theorem t1W_step (n : Nat) : Lx.strB (t1W n) ++ ⟨#[118]⟩ ++ ⟨#[letW n]⟩ ++ ⟨#[61, 120, 36, 121, 32]⟩ = Lx.strB (t1W (n + 1)) := by
  have h1 := Lx.strB_append (t1W n) [118]
  have h2 := Lx.strB_append (t1W n ++ [118]) [letW n]
  have h3 := Lx.strB_append (t1W n ++ [118] ++ [letW n]) [61, 120, 36, 121, 32]
  show Lx.strB (t1W n) ++ Lx.strB [118] ++ Lx.strB [letW n] ++ Lx.strB [61, 120, 36, 121, 32] = _
  rw [h1, h2, h3]
  simp [t1W, vwW]

theorem cat_fr (M s : List UInt8) (z : UInt8) : Lx.strB M ++ Lx.strB s ++ ⟨#[32, 102]⟩ ++ ⟨#[z]⟩ ++ ⟨#[32]⟩ = Lx.strB (M ++ (s ++ [32, 102, z, 32])) := by
  have h1 := Lx.strB_append M s
  have h2 := Lx.strB_append (M ++ s) [32, 102]
  have h3 := Lx.strB_append (M ++ s ++ [32, 102]) [z]
  have h4 := Lx.strB_append (M ++ s ++ [32, 102] ++ [z]) [32]
  show Lx.strB M ++ Lx.strB s ++ Lx.strB [32, 102] ++ Lx.strB [z] ++ Lx.strB [32] = _
  rw [h1, h2, h3, h4]
  simp
theorem cat_ww (S : List UInt8) (z : UInt8) : Lx.strB S ++ ⟨#[119]⟩ ++ ⟨#[z]⟩ ++ ⟨#[61, 49, 32]⟩ = Lx.strB (S ++ [119, z, 61, 49, 32]) := by
  have h2 := Lx.strB_append S [119]
  have h3 := Lx.strB_append (S ++ [119]) [z]
  have h4 := Lx.strB_append (S ++ [119] ++ [z]) [61, 49, 32]
  show Lx.strB S ++ Lx.strB [119] ++ Lx.strB [z] ++ Lx.strB [61, 49, 32] = _
  rw [h2, h3, h4]
  simp
theorem cat_w0 (S : List UInt8) (z : UInt8) : Lx.strB S ++ ⟨#[119]⟩ ++ ⟨#[z]⟩ ++ ⟨#[61, 49, 32]⟩ ++ ⟨#[39, 39, 32]⟩ = Lx.strB (S ++ [119, z, 61, 49, 32, 39, 39, 32]) := by
  rw [cat_ww]
  have h2 := Lx.strB_append (S ++ [119, z, 61, 49, 32]) [39, 39, 32]
  show Lx.strB (S ++ [119, z, 61, 49, 32]) ++ Lx.strB [39, 39, 32] = _
  rw [h2]
  simp
theorem midW_1 {a b c j : Nat} {S : List UInt8} (hS : S = midW a b c j ++ (if j < c then frW j else [])) (hb : j < b) (h0 : j = 0) : S ++ [119, letW j, 61, 49, 32, 39, 39, 32] = midW a b c (j + 1) := by
  unfold midW t2W wwW
  rw [if_pos hb, if_pos h0, hS]
  simp [midW]
theorem midW_2 {a b c j : Nat} {S : List UInt8} (hS : S = midW a b c j ++ (if j < c then frW j else [])) (hb : j < b) (h0 : ¬ j = 0) : S ++ [119, letW j, 61, 49, 32] = midW a b c (j + 1) := by
  unfold midW t2W wwW
  rw [if_pos hb, if_neg h0, hS]
  simp [midW]
theorem midW_3 {a b c j : Nat} {S : List UInt8} (hS : S = midW a b c j ++ (if j < c then frW j else [])) (hb : ¬ j < b) : S = midW a b c (j + 1) := by
  unfold midW t2W
  rw [if_neg hb, hS]
  simp [midW]
theorem frW_len (j : Nat) : (frW j).length ≤ 6 := by
  unfold frW signW
  repeat' split
  all_goals simp

theorem RedsAt.get {w : World} {S : Nat → Prop} : ∀ {ps : List Ps.RedP} {xs : List Value} {i : Nat} {r : Ps.RedP}, RedsAt w S ps xs → ps[i]? = some r → ∃ u, xs[i * 2]? = some (.int .i64 r.kind) ∧ xs[i * 2 + 1]? = some u ∧ WordIn w S 0 u r.word
  | [], _, i, r, _, h2 => by simp at h2
  | q :: ps, _, 0, r, ⟨u, ys, h1, h3, h4⟩, h2 => by
    simp at h2
    subst h1 h2
    exact ⟨u, rfl, rfl, h3⟩
  | q :: ps, _, i + 1, r, ⟨u, ys, h1, h3, h4⟩, h2 => by
    subst h1
    obtain ⟨v, h5, h6, h7⟩ := RedsAt.get h4 (by simpa using h2)
    refine ⟨v, ?_, ?_, h7⟩
    · rw [show (i + 1) * 2 = i * 2 + 2 from by omega]
      exact h5
    · rw [show (i + 1) * 2 + 1 = i * 2 + 1 + 2 from by omega]
      exact h6

/-- a redirection of one piece. -/
theorem NodeAt.red {w : World} {S : Nat → Prop} {n : Ps.Node} {cs : List Value} {i : Nat} {r : Ps.RedP} {p : Lx.Part} (h : NodeAt w S n cs) (hr : n.reds[i]? = some r) (hw : r.word = [p]) :
    ∃ rb rc wb wc, cs[5]? = some (.slice (some ⟨rb, 0, none⟩) n.reds.length rc) ∧ w.cell? ⟨rb, i * 2, none⟩ = some (.int .i64 r.kind) ∧ w.cell? ⟨rb, i * 2 + 1, none⟩ = some (.slice (some ⟨wb, 0, none⟩) 1 wc) ∧ w.cell? ⟨wb, 1, none⟩ = some (.string (Lx.strB p.text)) := by
  cases n with
  | mk kind kids name words sets reds =>
    unfold NodeAt at h
    obtain ⟨kv, wv, sv, rv, kx, wx, sx, rx, rfl, _, _, _, _, _, _, ⟨a, c, rfl, hle, hcm, hx⟩, h9⟩ := h
    obtain ⟨u, h1, h2, h3⟩ := RedsAt.get h9 hr
    obtain ⟨b, rfl, hS, hc⟩ := hx (fun e => by rw [e] at h1; simp at h1)
    rw [hw] at h3
    obtain ⟨a2, c2, rfl, hle2, _, hx2⟩ := h3
    obtain ⟨b2, rfl, _, hc2⟩ := hx2 (by simp [pcells, partCells])
    exact ⟨b, c, b2, c2, rfl, by have := hc _ _ h1; rwa [Nat.zero_add] at this, by have := hc _ _ h2; rwa [Nat.zero_add] at this, hc2 1 _ rfl⟩

theorem chkW_parts {a b c : Nat} (h : chkW a b c = true) : chk1W a b c = true ∧ chk2W a b c = true := by
  unfold chkW at h
  simpa using h
theorem chk1_law {a b c : Nat} (h : chk1W a b c = true) : ∃ (p : Nat) (m n : Ps.Node), Ps.program ([39, 39, 32] ++ textW a b c) = (0, p, n) ∧ n.kids = [m] ∧ m.kind = 5 ∧ m.sets.length = 0 ∧ m.words.length = 2 + a + b ∧ m.reds.length = c ∧ redW c m.reds = true := by
  unfold chk1W at h
  generalize Ps.program ([39, 39, 32] ++ textW a b c) = r at *
  obtain ⟨e, p, n⟩ := r
  simp only [Bool.and_eq_true, beq_iff_eq] at h
  obtain ⟨rfl, h⟩ := h
  split at h
  · rename_i m hm
    simp only [Bool.and_eq_true, beq_iff_eq] at h
    exact ⟨p, m, n, rfl, hm, h.1.1.1.1, h.1.1.1.2, h.1.1.2, h.1.2, h.2⟩
  · cases h
theorem chk2_law {a b c : Nat} (h : chk2W a b c = true) : ∃ (p : Nat) (m n : Ps.Node), Ps.program (textW a b c) = (0, p, n) ∧ n.kids = [m] ∧ m.sets.length = a + 1 ∧ m.words.length = b := by
  unfold chk2W at h
  generalize Ps.program (textW a b c) = r at *
  obtain ⟨e, p, n⟩ := r
  simp only [Bool.and_eq_true, beq_iff_eq] at h
  obtain ⟨rfl, h⟩ := h
  split at h
  · rename_i m hm
    simp only [Bool.and_eq_true, beq_iff_eq] at h
    exact ⟨p, m, n, rfl, hm, h.1, h.2⟩
  · cases h
theorem redW_get {c : Nat} {l : List Ps.RedP} (h : redW c l = true) {i : Nat} (hi : i < c) : ∃ (r : Ps.RedP) (p : Lx.Part), l[i]? = some r ∧ r.kind = ((i % 3 + 1 : Nat) : Int) ∧ r.word = [p] ∧ p.text = [102, letW i] := by
  have h2 := List.all_eq_true.1 h i (by simp; exact hi)
  split at h2
  · rename_i r hr
    simp only [Bool.and_eq_true, beq_iff_eq] at h2
    obtain ⟨h3, h4⟩ := h2
    split at h4
    · rename_i p hp
      exact ⟨r, p, hr, h3, hp, by simpa using h4⟩
    · cases h4
  · cases h2

set_option maxHeartbeats 4000000 in
set_option maxRecDepth 10000 in
theorem parseWords_any (z0 z1 z2 : Int) (w : World) (wf0 : (Lit.int .i64 z0).wf = true) (wf1 : (Lit.int .i64 z1).wf = true) (wf2 : (Lit.int .i64 z2).wf = true) (hT : Hid (U8 w)) (m : Int) (hm : w.cell? ⟨2, 0, none⟩ = some (.int .i64 m)) :
    Calls Tryd.prog 6 #[.int .i64 z0, .int .i64 z1, .int .i64 z2] w fun e w' => e = .returned (.bool true) ∧ Chg [] w w' := by
  have HM := Lib.hid hm
  obtain ⟨a, ha, ha2⟩ : ∃ k : Nat, z0 % 8 = (k : Int) ∧ k < 8 := ⟨(z0 % 8).toNat, by omega, by omega⟩
  obtain ⟨b, hb, hb2⟩ : ∃ k : Nat, z1 % 8 = (k : Int) ∧ k < 8 := ⟨(z1 % 8).toNat, by omega, by omega⟩
  obtain ⟨c, hc, hc2⟩ : ∃ k : Nat, z2 % 8 = (k : Int) ∧ k < 8 := ⟨(z2 % 8).toNat, by omega, by omega⟩
  have hbit0 : bits .and .i64 z0 7 = (a : Int) := by rw [i64_and7, ha]
  have hbit1 : bits .and .i64 z1 7 = (b : Int) := by rw [i64_and7, hb]
  have hbit2 : bits .and .i64 z2 7 = (c : Int) := by rw [i64_and7, hc]
  have HCHK := Lib.hid (chkW_true a b c ha2 hb2 hc2)
  have HC := Lib.hid (Chg.refl [] w)
  clear ha hb hc wf0 wf1 wf2 hm
  go_enter Tryd.func6, Tryd.ntmps6
  go_wp2_with fail
  go_loopg [7, 8] (a + 1) (fun g c7 c8 wr => ∃ i : Nat, a < i + g ∧ i ≤ a ∧ c7 = .string (Lx.strB (t1W i)) ∧ c8 = .int .i64 i ∧ Hid (Chg [] w wr))
  case atStart => exact ⟨0, by omega, by omega, rfl, rfl, HC⟩
  case round =>
    clear HC
    obtain ⟨i, hg, hi, rfl, rfl, HC⟩ := hrel
    have i0 : (0 : Int) ≤ (i : Int) := by omega
    have hsz := Lx.strB_size (t1W i)
    rw [t1W_len] at hsz
    by_cases hlt : i < a
    · cases gk with
      | zero => omega
      | succ g =>
        have hd : decide (i < a) = true := decide_eq_true hlt
        have i8 : i < 8 := by omega
        have hw1 : IntKind.u8.wrap (i : Int) = i := wrap_u8 (by omega) (by omega)
        have hw2 : IntKind.u8.wrap (97 + (i : Int)) = 97 + i := wrap_u8 (by omega) (by omega)
        have CV := conv_let i i8 wr
        have o1 := eq_false (show ¬ 9223372036854775807 < 7 * i + 1 from by omega)
        have o2 := eq_false (show ¬ 9223372036854775807 < 7 * i + 1 + 1 from by omega)
        have o3 := eq_false (show ¬ 9223372036854775807 < 7 * i + 1 + 1 + 5 from by omega)
        have HG := Lib.hid hg
        clear hg
        go_wp2
        go_roundg g
        case measure => omega
        case rel => exact ⟨i + 1, by have := HG.out; omega, by omega, congrArg Value.string (t1W_step i), by go_num, Lib.hid (HC.out.alloc _)⟩
    · obtain rfl : i = a := by omega
      have hd : decide (i < i) = false := decide_eq_false (by omega)
      clear hg hi hlt
      go_wp2_with fail
      go_loopg [7, 9] (10) (fun g c7 c9 wr2 => ∃ j : Nat, max (b + 1) c < j + g ∧ j ≤ max (b + 1) c ∧ c7 = .string (Lx.strB (midW i (b + 1) c j)) ∧ c9 = .int .i64 j ∧ Hid (Chg [] w wr2))
      case atStart => exact ⟨0, by omega, by omega, congrArg Value.string (by unfold midW t2W; rw [List.append_nil]), rfl, HC⟩
      case round =>
        clear HC hd hsz
        obtain ⟨j, hg, hj, rfl, rfl, HC⟩ := hrel
        have j0 : (0 : Int) ≤ (j : Int) := by omega
        have hj8 : j ≤ 8 := by omega
        have hsz := Lx.strB_size (midW i (b + 1) c j)
        have hml := midW_len i (b + 1) c j hj8
        obtain ⟨L, hL⟩ : ∃ L, (midW i (b + 1) c j).length = L := ⟨_, rfl⟩
        rw [hL] at hsz hml
        have HLL := Lib.hid hL
        clear hL
        by_cases hlt : j < max (b + 1) c
        · cases gk with
          | zero => omega
          | succ g =>
            have hd : decide ((j : Int) < max ((b : Int) + 1) (c : Int)) = true := decide_eq_true (by omega)
            have j8 : j < 8 := by omega
            have hw1 : IntKind.u8.wrap (j : Int) = j := wrap_u8 (by omega) (by omega)
            have hw2 : IntKind.u8.wrap (97 + (j : Int)) = 97 + j := wrap_u8 (by omega) (by omega)
            have CV := fun W g => conv_let2 j j8 W g
            have HG := Lib.hid hg
            clear hg
            by_cases hc1 : j < c
            · have hd1 : decide (j < c) = true := decide_eq_true hc1
              go_upto_region 11 with (fail)
              go_cut [7] from 39 to 79 (fun v7 wx => v7 = .string (Lx.strB (midW i (b + 1) c j ++ frW j)) ∧ Hid (Chg [] w wx))
              case first =>
                obtain ⟨r, hr⟩ : ∃ r, j % 3 = r := ⟨_, rfl⟩
                have hr2 : (j : Int).tmod 3 = (r : Int) := by rw [Int.tmod_eq_emod_of_nonneg (by omega)]; omega
                have o1 := eq_false (show ¬ 9223372036854775807 < L + 1 from by omega)
                have o2 := eq_false (show ¬ 9223372036854775807 < L + 2 from by omega)
                rcases (show r = 0 ∨ r = 1 ∨ r = 2 from by omega) with rfl | rfl | rfl
                · have SG := Lib.hid (show signW j = [60] from by unfold signW; rw [hr]; rfl)
                  clear hr
                  go_region
                  all_goals
                    go_wp2
                    go_meet
                    refine ⟨congrArg Value.string ((cat_fr (midW i (b + 1) c j) [60] (letW j)).trans (by unfold frW; rw [SG.out])), Lib.hid ?_⟩
                    first
                      | exact ((HC.out.alloc _).alloc _).drew
                      | exact (HC.out.drew.alloc _).alloc _
                · have SG := Lib.hid (show signW j = [62] from by unfold signW; rw [hr]; rfl)
                  clear hr
                  go_region
                  all_goals
                    go_wp2
                    go_meet
                    refine ⟨congrArg Value.string ((cat_fr (midW i (b + 1) c j) [62] (letW j)).trans (by unfold frW; rw [SG.out])), Lib.hid ?_⟩
                    first
                      | exact ((HC.out.alloc _).alloc _).drew
                      | exact (HC.out.drew.alloc _).alloc _
                · have SG := Lib.hid (show signW j = [62, 62] from by unfold signW; rw [hr]; rfl)
                  clear hr
                  go_region
                  all_goals
                    go_wp2
                    go_meet
                    refine ⟨congrArg Value.string ((cat_fr (midW i (b + 1) c j) [62, 62] (letW j)).trans (by unfold frW; rw [SG.out])), Lib.hid ?_⟩
                    first
                      | exact ((HC.out.alloc _).alloc _).drew
                      | exact (HC.out.drew.alloc _).alloc _
              case rest =>
                clear HC hsz
                obtain ⟨rfl, HC⟩ := hcut
                obtain ⟨S, hS⟩ : ∃ S, midW i (b + 1) c j ++ frW j = S := ⟨_, rfl⟩
                have HS := Lib.hid (show S = midW i (b + 1) c j ++ (if j < c then frW j else []) from by rw [if_pos hc1, hS])
                rw [hS]
                clear hS hd1 hc1
                have hszS := Lx.strB_size S
                have hSl : S.length ≤ L + 6 := by
                  rw [HS.out, List.length_append, HLL.out]
                  have := frW_len j
                  split <;> simp <;> omega
                obtain ⟨N, hN⟩ : ∃ N, S.length = N := ⟨_, rfl⟩
                rw [hN] at hszS hSl
                clear hN
                have o1 := eq_false (show ¬ 9223372036854775807 < N + 1 from by omega)
                have o2 := eq_false (show ¬ 9223372036854775807 < N + 1 + 1 from by omega)
                have o3 := eq_false (show ¬ 9223372036854775807 < N + 1 + 1 + 3 from by omega)
                have o4 := eq_false (show ¬ 9223372036854775807 < N + 1 + 1 + 3 + 3 from by omega)
                by_cases hb1 : j < b + 1
                · have hd2 : decide ((j : Int) < (b : Int) + 1) = true := decide_eq_true (by omega)
                  by_cases hj0 : j = 0
                  · have e0 : ((j : Int) == 0) = true := by rw [hj0]; rfl
                    have ST := Lib.hid (midW_1 HS.out hb1 hj0)
                    clear hj0 hb1
                    go_wp2
                    go_roundg g
                    case measure => omega
                    case rel => exact ⟨j + 1, by have := HG.out; omega, by omega, congrArg Value.string ((cat_w0 S (letW j)).trans (congrArg Lx.strB ST.out)), by go_num, Lib.hid (HC.out.alloc _)⟩
                  · have e0 : ((j : Int) == 0) = false := by rw [beq_eq_false_iff_ne]; omega
                    have ST := Lib.hid (midW_2 HS.out hb1 hj0)
                    clear hj0 hb1
                    go_wp2
                    go_roundg g
                    case measure => omega
                    case rel => exact ⟨j + 1, by have := HG.out; omega, by omega, congrArg Value.string ((cat_ww S (letW j)).trans (congrArg Lx.strB ST.out)), by go_num, Lib.hid (HC.out.alloc _)⟩
                · have hd2 : decide ((j : Int) < (b : Int) + 1) = false := decide_eq_false (by omega)
                  have ST := Lib.hid (midW_3 HS.out hb1)
                  clear hb1
                  go_wp2
                  go_roundg g
                  case measure => omega
                  case rel => exact ⟨j + 1, by have := HG.out; omega, by omega, congrArg Value.string (congrArg Lx.strB ST.out), by go_num, HC⟩
            · have hd1 : decide (j < c) = false := decide_eq_false hc1
              obtain ⟨S, hS⟩ : ∃ S, midW i (b + 1) c j = S := ⟨_, rfl⟩
              have HS := Lib.hid (show S = midW i (b + 1) c j ++ (if j < c then frW j else []) from by rw [if_neg hc1, hS, List.append_nil])
              rw [hS]
              clear hS hc1 hsz
              have hszS := Lx.strB_size S
              have hSl : S.length ≤ L + 6 := by
                rw [HS.out, List.length_append, HLL.out]
                have := frW_len j
                split <;> simp <;> omega
              obtain ⟨N, hN⟩ : ∃ N, S.length = N := ⟨_, rfl⟩
              rw [hN] at hszS hSl
              clear hN
              have o1 := eq_false (show ¬ 9223372036854775807 < N + 1 from by omega)
              have o2 := eq_false (show ¬ 9223372036854775807 < N + 1 + 1 from by omega)
              have o3 := eq_false (show ¬ 9223372036854775807 < N + 1 + 1 + 3 from by omega)
              have o4 := eq_false (show ¬ 9223372036854775807 < N + 1 + 1 + 3 + 3 from by omega)
              by_cases hb1 : j < b + 1
              · have hd2 : decide ((j : Int) < (b : Int) + 1) = true := decide_eq_true (by omega)
                by_cases hj0 : j = 0
                · have e0 : ((j : Int) == 0) = true := by rw [hj0]; rfl
                  have ST := Lib.hid (midW_1 HS.out hb1 hj0)
                  clear hj0 hb1
                  go_wp2
                  go_roundg g
                  case measure => omega
                  case rel => exact ⟨j + 1, by have := HG.out; omega, by omega, congrArg Value.string ((cat_w0 S (letW j)).trans (congrArg Lx.strB ST.out)), by go_num, Lib.hid (HC.out.alloc _)⟩
                · have e0 : ((j : Int) == 0) = false := by rw [beq_eq_false_iff_ne]; omega
                  have ST := Lib.hid (midW_2 HS.out hb1 hj0)
                  clear hj0 hb1
                  go_wp2
                  go_roundg g
                  case measure => omega
                  case rel => exact ⟨j + 1, by have := HG.out; omega, by omega, congrArg Value.string ((cat_ww S (letW j)).trans (congrArg Lx.strB ST.out)), by go_num, Lib.hid (HC.out.alloc _)⟩
              · have hd2 : decide ((j : Int) < (b : Int) + 1) = false := decide_eq_false (by omega)
                have ST := Lib.hid (midW_3 HS.out hb1)
                clear hb1
                go_wp2
                go_roundg g
                case measure => omega
                case rel => exact ⟨j + 1, by have := HG.out; omega, by omega, congrArg Value.string (congrArg Lx.strB ST.out), by go_num, HC⟩
        · have hd : decide ((j : Int) < max ((b : Int) + 1) (c : Int)) = false := decide_eq_false (by omega)
          have HTX := Lib.hid (show midW i (b + 1) c j = textW i (b + 1) c from by unfold textW; rw [show max (b + 1) c = j from by omega])
          clear hg hj hlt hml hsz HLL
          rw [HTX.out]
          obtain ⟨T, hTT⟩ : ∃ T, textW i (b + 1) c = T := ⟨_, rfl⟩
          obtain ⟨p1, p2⟩ := chkW_parts HCHK.out
          have HL1 := Lib.hid (show T.length ≤ 200 from by rw [← hTT, ← HTX.out]; have := midW_len i (b + 1) c j hj8; omega)
          obtain ⟨at1, mm, n1, q1, q2, q3, q4, q5, q6, q7⟩ := chk1_law p1
          obtain ⟨at2, m2, n2, s1, s2, s3, s4⟩ := chk2_law p2
          rw [hTT] at q1 s1 ⊢
          clear HTX p1 p2 HCHK hTT
          have PR1 := program_any ([39, 39, 32] ++ T) wr (by have := HL1.out; simp; omega) (U8.chg hT HC.out) m (HC.out.cell HM.out (by simp))
          rw [q1] at PR1
          have HP1 := Lib.hid PR1
          have HS1 := Lib.hid (show (⟨#[39, 39, 32]⟩ : ByteArray) ++ Lx.strB T = Lx.strB ([39, 39, 32] ++ T) from Lx.strB_append [39, 39, 32] T)
          have o1 := eq_false (show ¬ 9223372036854775807 < 3 + T.length from by have := HL1.out; omega)
          have hszT := Lx.strB_size T
          have HQ7 := Lib.hid q7
          have HQ1 := Lib.hid q1
          have HS2 := Lib.hid s1
          clear PR1 q1 q7 s1
          go_upto_region 16 with (fail)
          go_wp2_with fail
          rw [HS1.out]
          refine HP1.out.mono ?_
          rintro e w1 ⟨hC1, cs, rfl, hN⟩
          obtain ⟨b0, c0, ds, hk0, hNm, hx0⟩ := hN.kid (i := 0) (k := mm) (by rw [q2]; rfl)
          obtain ⟨s1, ka, wa, sa, ra, kn, kc, wn, wc, sn, sc, rn, rc, rfl, hkn, j1⟩ := hN.cells6 (z := n1.kind) rfl
          obtain ⟨s0, ka0, wa0, sa0, ra0, kn0, kc0, wn0, wc0, sn0, sc0, rn0, rc0, rfl, hkn0, j2, j3, j4⟩ := hNm.cells6 (z := 5) q3
          obtain rfl : kn = 1 := by rw [hkn, q2]; rfl
          have e0 : Value.slice ka 1 kc = .slice (some ⟨b0, 0, none⟩) n1.kids.length c0 := Option.some.inj hk0
          rw [q2] at e0
          cases e0
          obtain rfl : sn0 = 0 := j3.trans q4
          have hwn := j2.trans q5
          obtain rfl : rn0 = c := j4.trans q6
          have hne1 : ((wn0 : Int) != 2 + (i : Int) + ((b : Int) + 1)) = false := by rw [hwn]; first | (simp; done) | (simp; omega)
          have y0 := hx0 0 _ rfl
          have y1 := hx0 1 _ rfl
          have y2 := hx0 2 _ rfl
          have y3 := hx0 3 _ rfl
          have y4 := hx0 4 _ rfl
          have y5 := hx0 5 _ rfl
          have HNm := Lib.hid hNm
          have HC1 := Lib.hid (HC.out.then0 hC1)
          have hob := obj_alloc_new w1 (.cells #[.int .i64 n1.kind, .slice (some ⟨b0, 0, none⟩) 1 c0, .string s1, .slice wa wn wc, .slice sa sn sc, .slice ra rn rc] 30)
          have hal : Chg [] w1 (w1.alloc (.cells #[.int .i64 n1.kind, .slice (some ⟨b0, 0, none⟩) 1 c0, .string s1, .slice wa wn wc, .slice sa sn sc, .slice ra rn rc] 30)) := (Chg.refl [] w1).alloc _
          have HNm2 := Lib.hid (NodeAt.kept hal (by simp) _ _ hNm)
          have HC2 := Lib.hid (HC1.out.then0 hal)
          have z0 := hal.cell y0 (by simp)
          have z1' := hal.cell y1 (by simp)
          have z2' := hal.cell y2 (by simp)
          have z3 := hal.cell y3 (by simp)
          have z4 := hal.cell y4 (by simp)
          have z5 := hal.cell y5 (by simp)
          clear y0 y1 y2 y3 y4 y5 hx0 hk0 hkn hkn0 j1 j2 j3 j4 hN hNm hC1 hal HNm HC1 hwn HP1 HS1 o1
          go_upto_region 17 with (fail)
          generalize w1.alloc (.cells #[.int .i64 n1.kind, .slice (some ⟨b0, 0, none⟩) 1 c0, .string s1, .slice wa wn wc, .slice sa sn sc, .slice ra rn rc] 30) = w2 at *
          generalize w1.heap.size = tb at *
          obtain ⟨t0, t1', t2', t3, t4, t5, tf⟩ := six_cells hob
          go_upto_region 20 with (fail)
          have hob2 := obj_alloc_new w2 (.cells #[.int .i64 5, .slice ka0 kn0 kc0, .string s0, .slice wa0 wn0 wc0, .slice sa0 0 sc0, .slice ra0 rn0 rc0] 30)
          have HC3 := Lib.hid (HC2.out.alloc (.cells #[.int .i64 5, .slice ka0 kn0 kc0, .string s0, .slice wa0 wn0 wc0, .slice sa0 0 sc0, .slice ra0 rn0 rc0] 30))
          have HNm3 := Lib.hid (NodeAt.kept ((Chg.refl [] w2).alloc (.cells #[.int .i64 5, .slice ka0 kn0 kc0, .string s0, .slice wa0 wn0 wc0, .slice sa0 0 sc0, .slice ra0 rn0 rc0] 30)) (by simp) _ _ HNm2.out)
          clear HNm2 z0 z1' z2' z3 z4 z5 t0 t1' t2' t3 t4 t5 tf hob
          generalize w2.alloc (.cells #[.int .i64 5, .slice ka0 kn0 kc0, .string s0, .slice wa0 wn0 wc0, .slice sa0 0 sc0, .slice ra0 rn0 rc0] 30) = w3 at *
          generalize w2.heap.size = tm at *
          obtain ⟨t0, t1', t2', t3, t4, t5, tf⟩ := six_cells hob2
          go_upto_region 22 with (fail)
          go_wp2_with fail
          go_loopg [14] (rn0 + 1) (fun g c14 wr3 => ∃ k : Nat, rn0 < k + g ∧ k ≤ rn0 ∧ c14 = .int .i64 k ∧ Hid (Chg [] w3 wr3))
          case atStart => exact ⟨0, by omega, by omega, rfl, Lib.hid (Chg.refl [] w3)⟩
          case round =>
            obtain ⟨k, hg, hk, rfl, HC4⟩ := hrel
            have k0 : (0 : Int) ≤ (k : Int) := by omega
            by_cases hlt : k < rn0
            · cases gk with
              | zero => omega
              | succ g =>
                have hd : decide (k < rn0) = true := decide_eq_true hlt
                have k8 : k < 8 := by omega
                obtain ⟨r, pp, g1, g2, g3, g4⟩ := redW_get HQ7.out hlt
                obtain ⟨rb, rc, wb, wc3, f1, f2, f3, f4⟩ := HNm3.out.red g1 g3
                rw [q6] at f1
                have f1 : Value.slice ra0 rn0 rc0 = .slice (some ⟨rb, 0, none⟩) rn0 rc := Option.some.inj f1
                cases f1
                have v5 := HC4.out.cell t5 (by simp)
                have v6 := HC4.out.cell f2 (by simp)
                have v7 := HC4.out.cell f3 (by simp)
                have v8 := HC4.out.cell f4 (by simp)
                rw [g4] at v8
                obtain ⟨r3, hr3⟩ : ∃ r3, k % 3 = r3 := ⟨_, rfl⟩
                have hr2 : (k : Int).tmod 3 = (r3 : Int) := by rw [Int.tmod_eq_emod_of_nonneg (by omega)]; omega
                have hr0 : (0 : Int) ≤ (r3 : Int) := by omega
                have hr4 : (r3 : Int) < 3 := by omega
                have hrk : r.kind = (r3 : Int) + 1 := by rw [g2, hr3]; simp
                rw [hrk] at v6
                have hcat : (⟨#[102]⟩ : ByteArray) ++ ⟨#[letW k]⟩ = Lx.strB [102, letW k] := Lx.strB_append [102] [letW k]
                have hcmp : ((Lx.strB [102, letW k]).toList != ((⟨#[102]⟩ : ByteArray) ++ ⟨#[letW k]⟩).toList) = false := by rw [hcat]; simp
                have hcm2 : ((Lx.strB [102, letW k]).toList == ((⟨#[102]⟩ : ByteArray) ++ ⟨#[letW k]⟩).toList) = true := by rw [hcat]; simp
                have hw1 : IntKind.u8.wrap (k : Int) = k := wrap_u8 (by omega) (by omega)
                have hw2 : IntKind.u8.wrap (97 + (k : Int)) = 97 + k := wrap_u8 (by omega) (by omega)
                have CV := fun W g => conv_let2 k k8 W g
                have kl : (k : Int) < (rn0 : Int) := by omega
                have kp : 0 < rn0 := by omega
                have HG := Lib.hid hg
                have v5a := fun (o : Obj) => ((Chg.refl [] wr).alloc o).cell v5 (by simp)
                have v6a := fun (o : Obj) => ((Chg.refl [] wr).alloc o).cell v6 (by simp)
                have v7a := fun (o : Obj) => ((Chg.refl [] wr).alloc o).cell v7 (by simp)
                have v8a := fun (o : Obj) => ((Chg.refl [] wr).alloc o).cell v8 (by simp)
                clear hg hlt g1 g2 g3 g4 f2 f3 f4 hrk hcat hr3
                go_upto_region 25 with (fail)
                go_cut [167] from 125 to 167 (fun vv wx => vv = .bool false ∧ Hid (Chg [] w3 wx))
                case first =>
                  go_region
                  all_goals
                    go_wp2
                    go_meet
                    refine ⟨rfl, Lib.hid ?_⟩
                    first
                      | exact (HC4.out.alloc _).drew
                      | exact HC4.out.drew.alloc _
                case rest =>
                  clear v5 v6 v7 v8 v5a v6a v7a v8a CV
                  obtain ⟨rfl, HC5⟩ := hcut
                  go_wp2
                  go_roundg g
                  case measure => omega
                  case rel => exact ⟨k + 1, by have := HG.out; omega, by omega, by go_num, HC5⟩
            · obtain rfl : k = rn0 := by omega
              have hd : decide (k < k) = false := decide_eq_false (by omega)
              clear hg hk hlt
              go_upto_region 27 with (fail)
              have HC6 := Lib.hid (HC3.out.then0 HC4.out)
              have PR2 := program_any T wr (by have := HL1.out; omega) (U8.chg hT HC6.out) m (HC6.out.cell HM.out (by simp))
              rw [HS2.out] at PR2
              have HP2 := Lib.hid PR2
              clear PR2 HC4 HC3 t0 t1' t2' t3 t4 t5 tf HNm3 hob2 hd
              go_wp2_with fail
              refine HP2.out.mono ?_
              rintro e w5 ⟨hC5, cs5, rfl, hN5⟩
              obtain ⟨b5, c5, ds5, hk5, hN6, hx5⟩ := hN5.kid (i := 0) (k := m2) (by rw [s2]; rfl)
              obtain ⟨s1, ka, wa, sa, ra, kn, kc, wn, wc, sn, sc, rn, rc, rfl, hkn, j1⟩ := hN5.cells6 (z := n2.kind) rfl
              obtain ⟨s0, ka0, wa0, sa0, ra1, kn0, kc0, wn1, wc0, sn0, sc0, rn1, rc1, rfl, hkn0, j2, j3, j4⟩ := hN6.cells6 (z := m2.kind) rfl
              obtain rfl : kn = 1 := by rw [hkn, s2]; rfl
              have e0 : Value.slice ka 1 kc = .slice (some ⟨b5, 0, none⟩) n2.kids.length c5 := Option.some.inj hk5
              rw [s2] at e0
              cases e0
              have hsn := j3.trans s3
              have hwn := j2.trans s4
              have hne1 : ((sn0 : Int) == (i : Int) + 1) = true := by rw [hsn]; simp
              have hne2 : ((wn1 : Int) == (b : Int) + 1) = true := by rw [hwn]; simp
              have y3 := hx5 3 _ rfl
              have y4 := hx5 4 _ rfl
              have HC7 := Lib.hid (HC6.out.then0 hC5)
              have hob := obj_alloc_new w5 (.cells #[.int .i64 n2.kind, .slice (some ⟨b5, 0, none⟩) 1 c5, .string s1, .slice wa wn wc, .slice sa sn sc, .slice ra rn rc] 30)
              have hal : Chg [] w5 (w5.alloc (.cells #[.int .i64 n2.kind, .slice (some ⟨b5, 0, none⟩) 1 c5, .string s1, .slice wa wn wc, .slice sa sn sc, .slice ra rn rc] 30)) := (Chg.refl [] w5).alloc _
              have HC8 := Lib.hid (HC7.out.then0 hal)
              have z3 := hal.cell y3 (by simp)
              have z4 := hal.cell y4 (by simp)
              clear y3 y4 hx5 hk5 hkn hkn0 j1 j2 j3 j4 hN5 hN6 hC5 hal hsn hwn HP2
              go_upto_region 28 with (fail)
              generalize w5.alloc (.cells #[.int .i64 n2.kind, .slice (some ⟨b5, 0, none⟩) 1 c5, .string s1, .slice wa wn wc, .slice sa sn sc, .slice ra rn rc] 30) = w6 at *
              generalize w5.heap.size = tb5 at *
              obtain ⟨t0, t1', t2', t3, t4, t5, tf⟩ := six_cells hob
              go_wp2_with fail
              refine (awake_any _ (U8.chg hT HC8.out) m (HC8.out.cell HM.out (by simp))).mono ?_
              rintro e w7 ⟨rfl, h7⟩
              have HC9 := Lib.hid (HC8.out.then0 h7)
              clear h7
              go_wp2
              go_ret
              exact ⟨rfl, HC9.out⟩

end Go.Proofs.YtfgbbmnmblchiaaDoor
