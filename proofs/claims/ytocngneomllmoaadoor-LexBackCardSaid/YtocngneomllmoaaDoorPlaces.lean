/-
  Good words, then a wrong one: the place is told; LexPlaces.
-/
import Derived.Test.YtocngneomllmoaaDoorLong
namespace Go.Proofs.YtocngneomllmoaaDoor
open Go.RowKit
set_option linter.unusedVariables false

def pieceL (i : Nat) : List UInt8 := match i % 4 with
  | 0 => [119, 111, 114, 100, 32]
  | 1 => [39, 113, 39, 32]
  | 2 => [36, 120, 32]
  | _ => [59, 32]
def textL : Nat → List UInt8
  | 0 => []
  | n + 1 => textL n ++ pieceL n
def wrongL (k : Nat) : List UInt8 := match k with
  | 0 => [38]
  | 1 => [39, 97]
  | 2 => [34, 97]
  | 3 => [36, 123, 120]
  | 4 => [97, 92]
  | _ => [98, 1]
def wrongAt (k : Nat) : Nat := if k < 4 then 0 else 1

theorem piece_len (i : Nat) : 2 ≤ (pieceL i).length ∧ (pieceL i).length ≤ 5 := by
  unfold pieceL
  split <;> simp
theorem text_len : ∀ n, 2 * n ≤ (textL n).length ∧ (textL n).length ≤ 5 * n
  | 0 => by simp [textL]
  | n + 1 => by
    have := text_len n
    have := piece_len n
    rw [textL, List.length_append]
    omega

theorem piece_ascii (i : Nat) : ∀ c ∈ pieceL i, 32 ≤ c.toNat ∧ c.toNat < 127 := by
  unfold pieceL
  split <;> decide
theorem text_ascii : ∀ n, ∀ c ∈ textL n, 32 ≤ c.toNat ∧ c.toNat < 127
  | 0 => by simp [textL]
  | n + 1 => by
    intro c hc
    rw [textL, List.mem_append] at hc
    rcases hc with hc | hc
    · exact text_ascii n c hc
    · exact piece_ascii n c hc

theorem piece_tok (i g : Nat) (r : List UInt8) (p : Nat) (acc : List Lx.Tok) : ∃ t, Lx.tokP (g + 2) (pieceL i ++ r) p acc = Lx.tokP g r (p + (pieceL i).length) (acc ++ [t]) := by
  unfold pieceL
  split
  · exact ⟨⟨1, [119, 111, 114, 100], [⟨1, [119, 111, 114, 100]⟩], p⟩, by
      have hs : Lx.signOf (119 :: 111 :: 114 :: 100 :: 32 :: r) = [] := by simp [Lx.signOf, Lx.signs]
      have hw : Lx.wordP ((119 :: 111 :: 114 :: 100 :: 32 :: r).length + 1) (119 :: 111 :: 114 :: 100 :: 32 :: r) p [] = .ok ([⟨1, [119, 111, 114, 100]⟩], p + 4) := rfl
      refine ((tokP_word (g + 1) 119 (111 :: 114 :: 100 :: 32 :: r) p acc (by decide) (by decide) (by decide) hs (by decide)).2 _ _ hw).trans ?_
      rw [show p + 4 - p = 4 from by omega]
      rfl⟩
  · exact ⟨⟨1, [39, 113, 39], [⟨1, [113]⟩], p⟩, by
      have hs : Lx.signOf (39 :: 113 :: 39 :: 32 :: r) = [] := by simp [Lx.signOf, Lx.signs]
      have hw : Lx.wordP ((39 :: 113 :: 39 :: 32 :: r).length + 1) (39 :: 113 :: 39 :: 32 :: r) p [] = .ok ([⟨1, [113]⟩], p + 3) := rfl
      refine ((tokP_word (g + 1) 39 (113 :: 39 :: 32 :: r) p acc (by decide) (by decide) (by decide) hs (by decide)).2 _ _ hw).trans ?_
      rw [show p + 3 - p = 3 from by omega]
      rfl⟩
  · exact ⟨⟨1, [36, 120], [⟨2, [120]⟩], p⟩, by
      have hs : Lx.signOf (36 :: 120 :: 32 :: r) = [] := by simp [Lx.signOf, Lx.signs]
      have hw : Lx.wordP ((36 :: 120 :: 32 :: r).length + 1) (36 :: 120 :: 32 :: r) p [] = .ok ([⟨2, [120]⟩], p + 2) := rfl
      refine ((tokP_word (g + 1) 36 (120 :: 32 :: r) p acc (by decide) (by decide) (by decide) hs (by decide)).2 _ _ hw).trans ?_
      rw [show p + 2 - p = 2 from by omega]
      rfl⟩
  · exact ⟨⟨3, [59], [], p⟩, rfl⟩

theorem text_tok : ∀ (n g : Nat) (r : List UInt8) (p : Nat) (acc : List Lx.Tok), ∃ acc', Lx.tokP (g + 2 * n) (textL n ++ r) p acc = Lx.tokP g r (p + (textL n).length) acc'
  | 0, g, r, p, acc => ⟨acc, rfl⟩
  | n + 1, g, r, p, acc => by
    obtain ⟨acc1, h1⟩ := text_tok n (g + 2) (pieceL n ++ r) p acc
    obtain ⟨t, h2⟩ := piece_tok n g r (p + (textL n).length) acc1
    refine ⟨acc1 ++ [t], ?_⟩
    rw [show g + 2 * (n + 1) = (g + 2) + 2 * n from by omega, textL, List.append_assoc, h1, h2, List.length_append, Nat.add_assoc]

theorem wrong_tok (k : Nat) (hk : k < 5) (g p : Nat) (acc : List Lx.Tok) : Lx.tokP (g + 1) (wrongL k) p acc = .bad (p + wrongAt k) := by
  rcases (show k = 0 ∨ k = 1 ∨ k = 2 ∨ k = 3 ∨ k = 4 from by omega) with rfl | rfl | rfl | rfl | rfl <;> rfl

theorem badP_pre : ∀ (a : List UInt8) (f : Nat) (r : List UInt8) (p : Nat), (∀ c ∈ a, 32 ≤ c.toNat ∧ c.toNat < 127) → Lx.badP (f + a.length) (a ++ r) p = Lx.badP f r (p + a.length)
  | [], _, _, _, _ => rfl
  | c :: t, f, r, p, h => by
    have hc := h c (by simp)
    rw [List.length_cons, show f + (t.length + 1) = (f + t.length) + 1 from by omega, List.cons_append]
    conv => lhs; unfold Lx.badP
    rw [if_neg (by simp), (Lx.dec_ascii c (t ++ r) (by omega)).1, (Lx.dec_ascii c (t ++ r) (by omega)).2, if_neg, List.drop_succ_cons, List.drop_zero, badP_pre t f r _ fun d hd => h d (by simp [hd])]
    · congr 1; omega
    · rw [wrong_low]
      have h1 : decide (c.toNat < 32) = false := decide_eq_false (by omega)
      have h2 : (c.toNat == 127) = false := by rw [beq_eq_false_iff_ne]; omega
      have h3 : (c.toNat == 65533) = false := by rw [beq_eq_false_iff_ne]; omega
      rw [h1, h2, h3]
      simp

theorem wrong_ascii (k : Nat) (hk : k < 5) : ∀ c ∈ wrongL k, 32 ≤ c.toNat ∧ c.toNat < 127 := by
  rcases (show k = 0 ∨ k = 1 ∨ k = 2 ∨ k = 3 ∨ k = 4 from by omega) with rfl | rfl | rfl | rfl | rfl <;> decide

theorem places_tokens (n k : Nat) (hn : n ≤ 63) (hk : k < 6) : Lx.tokens (textL n ++ wrongL k) = (10, (textL n).length + wrongAt k, []) := by
  have hl := text_len n
  have hw : 1 ≤ (wrongL k).length ∧ (wrongL k).length ≤ 3 := by
    rcases (show k = 0 ∨ k = 1 ∨ k = 2 ∨ k = 3 ∨ k = 4 ∨ k = 5 from by omega) with rfl | rfl | rfl | rfl | rfl | rfl <;> decide
  have hlen : (textL n ++ wrongL k).length = (textL n).length + (wrongL k).length := List.length_append
  by_cases h5 : k = 5
  · subst h5
    refine tokens_bad (by rw [hlen]; omega) ?_
    rw [hlen, show (textL n).length + (wrongL 5).length + 1 = ((wrongL 5).length + 1) + (textL n).length from by omega, badP_pre _ _ _ _ (text_ascii n), Nat.zero_add]
    have : ∀ q, Lx.badP ((wrongL 5).length + 1) (wrongL 5) q = some (q + 1) := by
      intro q
      have h1 := badP_pre [98] 2 [1] q (by decide)
      refine h1.trans ?_
      have d := Lx.dec_ascii 1 [] (by decide)
      unfold Lx.badP
      rw [if_neg (by simp), d.1, d.2, if_pos (by decide)]
      rfl
    exact this _
  · have hb : Lx.badP ((textL n ++ wrongL k).length + 1) (textL n ++ wrongL k) 0 = none := badP_ascii _ _ _ (by
      intro c hc
      rcases List.mem_append.1 hc with hc | hc
      · exact text_ascii n c hc
      · exact wrong_ascii k (by omega) c hc)
    rw [tokens_good (by rw [hlen]; omega) hb, hlen]
    obtain ⟨acc, ha⟩ := text_tok n ((textL n).length + (wrongL k).length - 2 * n + 1) (wrongL k) 0 []
    rw [show (textL n).length + (wrongL k).length + 1 = (textL n).length + (wrongL k).length - 2 * n + 1 + 2 * n from by omega, ha, wrong_tok k (by omega), Nat.zero_add]
    rfl

theorem places_call (n k : Nat) (hn : n ≤ 63) (hk : k < 6) (w : World) (hT : Hid (U8 w)) (x : ByteArray) (hx : x = Lx.strB (wrongL k)) : Calls Tryd.prog 10 #[.string (Lx.strB (textL n) ++ x)] w fun e w' => ∃ a, e = .returned (.tuple #[.slice a 0 0, .int .i64 (((textL n).length + wrongAt k : Nat) : Int), .int .i64 10]) ∧ Chg [] w w' := by
  subst hx
  have hl := text_len n
  have hw : (wrongL k).length ≤ 3 := by
    rcases (show k = 0 ∨ k = 1 ∨ k = 2 ∨ k = 3 ∨ k = 4 ∨ k = 5 from by omega) with rfl | rfl | rfl | rfl | rfl | rfl <;> decide
  rw [Lx.strB_append]
  refine (tokens_any _ w (by rw [List.length_append]; omega) hT).mono ?_
  rw [places_tokens n k hn hk]
  rintro e w' ⟨a, m, vs, rfl, hA, hC⟩
  obtain rfl : m = 0 := by
    obtain ⟨a', c', hv, h1, _⟩ := hA.row.shape
    cases hv; rfl
  exact ⟨a, rfl, hC⟩

theorem text_next (n : Nat) (x : ByteArray) (hx : x = Lx.strB (pieceL n)) : Lx.strB (textL n) ++ x = Lx.strB (textL (n + 1)) := by
  subst hx; rw [Lx.strB_append]; rfl

theorem text_step (n j : Nat) (h : n % 4 = j) (x : ByteArray) (hx : x = Lx.strB (pieceL j)) : Value.string (Lx.strB (textL n) ++ x) = Value.string (Lx.strB (textL (n + 1))) := by
  rw [text_next n x]
  rw [hx]
  unfold pieceL
  rw [← h, Nat.mod_mod]

theorem places_end (n k L q : Nat) (hk : k < 6) (hn : n ≤ 63) (hL : (textL n).length = L) (hq : wrongAt k = q) (w : World) (hT : Hid (U8 w)) (x : ByteArray) (hx : x = Lx.strB (wrongL k)) :
    Calls Tryd.prog 10 #[.string (Lx.strB (textL n) ++ x)] w fun e w' => ∃ a, e = .returned (.tuple #[.slice a 0 0, .int .i64 ((L : Int) + (q : Int)), .int .i64 10]) ∧ Chg [] w w' := by
  subst hq hL
  exact places_call n k hn hk w hT x hx

set_option maxHeartbeats 4000000 in
set_option maxRecDepth 10000 in
theorem lexPlaces_any (z0 z1 : Int) (w : World) (wf0 : (Lit.int .i64 z0).wf = true) (wf1 : (Lit.int .i64 z1).wf = true) (hT : Hid (U8 w)) :
    Calls Tryd.prog 4 #[.int .i64 z0, .int .i64 z1] w fun e w' => e = .returned (.bool true) ∧ Chg [] w w' := by
  obtain ⟨n, hn, hn2⟩ : ∃ n : Nat, z0 % 64 = (n : Int) ∧ n < 64 := ⟨(z0 % 64).toNat, by omega, by omega⟩
  have hbit : bits .and .i64 z0 63 = (n : Int) := by rw [i64_and63, hn]
  clear hn wf0 wf1
  have t1 := Int.tmod_lt_of_pos z1 (show (0 : Int) < 6 by decide)
  have t2 := Int.lt_tmod_of_pos z1 (show (0 : Int) < 6 by decide)
  obtain ⟨t, ht⟩ : ∃ t, z1.tmod 6 = t := ⟨_, rfl⟩
  rw [ht] at t1 t2
  obtain ⟨k, hk, hk2⟩ : ∃ k : Nat, (t + 6) % 6 = (k : Int) ∧ k < 6 := ⟨((t + 6) % 6).toNat, by omega, by omega⟩
  have hk3 : (t + 6).tmod 6 = (k : Int) := by rw [Int.tmod_eq_emod_of_nonneg (by omega)]; exact hk
  have n0 : (0 : Int) ≤ (n : Int) := by omega
  have n1 : (n : Int) ≤ 63 := by omega
  have HK := Lib.hid (show n ≤ 63 ∧ k < 6 from by omega)
  obtain ⟨q, hq⟩ : ∃ q, wrongAt k = q := ⟨_, rfl⟩
  have HQ := Lib.hid hq
  rcases (show (k = 0 ∧ q = 0) ∨ (k = 1 ∧ q = 0) ∨ (k = 2 ∧ q = 0) ∨ (k = 3 ∧ q = 0) ∨ (k = 4 ∧ q = 1) ∨ (k = 5 ∧ q = 1) from by unfold wrongAt at hq; split at hq <;> omega) with ⟨rfl, rfl⟩ | ⟨rfl, rfl⟩ | ⟨rfl, rfl⟩ | ⟨rfl, rfl⟩ | ⟨rfl, rfl⟩ | ⟨rfl, rfl⟩
  all_goals
    clear hq
    go_enter Tryd.func4, Tryd.ntmps4
    go_wp2_with fail
    have HC := Lib.hid (((Chg.refl [] w).alloc (.cells #[.string ⟨#[38]⟩, .string ⟨#[39, 97]⟩, .string ⟨#[34, 97]⟩, .string ⟨#[36, 123, 120]⟩, .string ⟨#[97, 92]⟩, .string ⟨#[98, 1]⟩] 9)).alloc (.cells #[.int .i64 0, .int .i64 0, .int .i64 0, .int .i64 0, .int .i64 1, .int .i64 1] 3))
    clear hk hk3 ht t1 t2 hbit
    generalize (w.alloc (.cells #[.string ⟨#[38]⟩, .string ⟨#[39, 97]⟩, .string ⟨#[34, 97]⟩, .string ⟨#[36, 123, 120]⟩, .string ⟨#[97, 92]⟩, .string ⟨#[98, 1]⟩] 9)).alloc (.cells #[.int .i64 0, .int .i64 0, .int .i64 0, .int .i64 0, .int .i64 1, .int .i64 1] 3) = w1 at *
    go_loopg [7, 8] (n + 1) (fun g c7 c8 wr => ∃ i : Nat, n < i + g ∧ i ≤ n ∧ c7 = .string (Lx.strB (textL i)) ∧ c8 = .int .i64 i ∧ Chg [] w wr)
    case atStart => exact ⟨0, by omega, by omega, rfl, rfl, HC.out⟩
    case round =>
      obtain ⟨i, hg, hi, rfl, rfl, hc⟩ := hrel
      have HC2 := Lib.hid hc
      clear HC hc
      have i0 : (0 : Int) ≤ (i : Int) := by omega
      by_cases hlt : i < n
      · cases gk with
        | zero => omega
        | succ g =>
          have hd : decide (i < n) = true := decide_eq_true hlt
          have HG := Lib.hid hg
          clear hg
          obtain ⟨j, hj⟩ : ∃ j, i % 4 = j := ⟨_, rfl⟩
          have hj2 : (i : Int) % 4 = (j : Int) := by omega
          have hj4 : j < 4 := by omega
          have HJ := Lib.hid hj
          clear hj
          have hsz := Lx.strB_size (textL i)
          have L0 := (text_len i).2
          have o2 := eq_false (show ¬ 9223372036854775807 < (textL i).length + 2 from by omega)
          have o3 := eq_false (show ¬ 9223372036854775807 < (textL i).length + 3 from by omega)
          have o4 := eq_false (show ¬ 9223372036854775807 < (textL i).length + 4 from by omega)
          have o5 := eq_false (show ¬ 9223372036854775807 < (textL i).length + 5 from by omega)
          rcases (show j = 0 ∨ j = 1 ∨ j = 2 ∨ j = 3 from by omega) with rfl | rfl | rfl | rfl
          all_goals
            clear L0
            go_wp2
            go_roundg g
            case measure => omega
            case rel => exact ⟨i + 1, by have := HG.out; omega, by omega, text_step i _ HJ.out _ rfl, by go_num, HC2.out.alloc _⟩
      · obtain rfl : i = n := by omega
        have hd : decide (i < i) = false := decide_eq_false (by omega)
        have hsz := Lx.strB_size (textL i)
        have L0 := (text_len i).2
        obtain ⟨L, hL⟩ : ∃ L, (textL i).length = L := ⟨_, rfl⟩
        rw [hL] at hsz L0
        have HL := Lib.hid hL
        have l0 : (0 : Int) ≤ (L : Int) := by omega
        have l1 : (L : Int) ≤ 400 := by omega
        have o1 := eq_false (show ¬ 9223372036854775807 < L + 1 from by omega)
        have o2 := eq_false (show ¬ 9223372036854775807 < L + 2 from by omega)
        have o3 := eq_false (show ¬ 9223372036854775807 < L + 3 from by omega)
        clear hL L0
        go_wp2_with fail
        refine (places_end i _ L _ HK.out.2 HK.out.1 HL.out HQ.out _ (U8.chg hT HC2.out) _ rfl).mono ?_
        rintro e w2 ⟨a, rfl, hc2⟩
        have HC3 := Lib.hid (HC2.out.then0 hc2)
        clear hc2
        go_wp2_with fail
        refine (awake_any _ (U8.chg hT HC3.out)).mono ?_
        rintro e w3 ⟨rfl, h3⟩
        have HC4 := Lib.hid (HC3.out.then0 h3)
        clear h3
        go_wp2
        go_ret
        exact ⟨rfl, HC4.out⟩

end Go.Proofs.YtocngneomllmoaaDoor
