/-
  The place of a quote; what the arms of a word's switch need.
-/
import Derived.Test.YtfgbbmnmblchiaaDoorEnd
namespace Go.Proofs.YtfgbbmnmblchiaaDoor
open Go.RowKit
set_option linter.unusedVariables false

theorem ib_idx : ∀ (l : List UInt8) (c : UInt8), Lib.indexByte l c = placeI (Lx.idx c l)
  | [], c => rfl
  | b :: t, c => by
    have ih := ib_idx t c
    unfold Lib.indexByte Lx.idx
    rw [List.findIdx?_cons]
    by_cases h : (b == c) = true
    · rw [if_pos h, if_pos h]; rfl
    · rw [if_neg h, if_neg h, ih]
      unfold Lx.idx
      cases hk : t.findIdx? (· == c) with
      | none => rfl
      | some k =>
        have e : ((k : Int) == -1) = false := by rw [beq_eq_false_iff_ne]; omega
        simp only [placeI, e, Option.map_some]
        simp

theorem idx_lt : ∀ (l : List UInt8) (c : UInt8) (k : Nat), Lx.idx c l = some k → k < l.length
  | [], c, k, h => by simp [Lx.idx] at h
  | b :: t, c, k, h => by
    unfold Lx.idx at h
    rw [List.findIdx?_cons] at h
    split at h
    · cases h; simp
    · cases hk : t.findIdx? (· == c) with
      | none => rw [hk] at h; cases h
      | some j =>
        rw [hk] at h
        cases h
        have := idx_lt t c j hk
        simp only [List.length_cons]
        omega

theorem idx_any (l : List UInt8) (w : World) : Calls Tryd.prog 23 #[.string (Lx.strB l), .int .u8 39] w fun e w' => e = .returned (.int .i64 (placeI (Lx.idx 39 l))) ∧ w' = w := by
  refine (Tryd.strings_IndexByte (Lx.strB l) 39 w).mono fun e w' h => ⟨h.1.trans (ret_i64 ?_), h.2⟩
  rw [Lx.strB_data, ← ib_idx]
  rfl

theorem ExitTwo_of {P : Program} {r1 : Code} {J : Act → World → Prop} {Q : Exit → Act → World → Prop} (e : Exit) (a : Act) (w : World) (h : Exit.noGoto Q e a w) : ExitTwo P r1 J Q e a w := by
  cases e with
  | goto l => exact h.elim
  | _ => exact h

/-- where a word is wrong. -/
theorem word_bad {w W : World} {rb : Nat} {l : List UInt8} {a0 : Option Addr} {N c0 p q n c : Nat} {a : Option Addr} {ps : List Lx.Part} {xs : List Value} {vo : Value} (hI : QuotAt w rb l vo (.slice none 0 0) p ps a n c W) (i : Nat)
    (W' : World) (h : Chg [] W W') : WordPost w rb l (.slice a0 N c0) N xs q (.bad i) (.returned (.int .i64 i)) W' := ⟨rfl, Chg.then0 (F := [rb]) hI.chg h⟩

theorem u8_kept {w w' : World} {F : List Nat} (h : Hid (U8 w)) (hc : Chg F w w') (hn1 : 0 ∉ F) (hn2 : 1 ∉ F) : Hid (U8 w') :=
  Lib.hid ⟨fun c hc' => hc.cell (h.out.1 c hc') hn1, fun i hi => ⟨hc.cell (h.out.2 i hi).1 hn2, hc.cell (h.out.2 i hi).2 hn2⟩⟩

theorem u8_ne {w : World} {rb : Nat} {l : List UInt8} {p : Nat} {vo : Value} (h : Hid (U8 w)) (hr : ReadAt w rb l p vo) : 0 ∉ [rb] ∧ 1 ∉ [rb] := by
  have h0 := hr.c0
  refine ⟨fun e => ?_, fun e => ?_⟩
  · have e := List.mem_singleton.1 e
    subst e
    have h1 := h.out.1 0 (by omega)
    rw [h0] at h1
    cases h1
  · have e := List.mem_singleton.1 e
    subst e
    have h1 := (h.out.2 0 (by omega)).1
    rw [Nat.mul_zero, h0] at h1
    cases h1

theorem u8_quot {w W : World} {rb : Nat} {l : List UInt8} {p p0 n c : Nat} {a : Option Addr} {ps : List Lx.Part} {vo v0 : Value} (h : Hid (U8 w)) (hr : ReadAt w rb l p0 v0) (hI : QuotAt w rb l vo (.slice none 0 0) p ps a n c W) : Hid (U8 W) :=
  u8_kept (F := [rb]) h hI.chg (u8_ne h hr).1 (u8_ne h hr).2

theorem decode_none (w : World) (h : Hid (U8 w)) : Calls Tryd.prog 37 #[.string (Lx.strB [])] w fun e w' => e = .returned (.tuple #[.int .i32 65533, .int .i64 0]) ∧ Chg [] w w' :=
  (Tryd.utf8_DecodeRuneInString (Lx.strB []) w h.out).mono fun e w' hh => ⟨hh.1, Chg.ofBelow hh.2⟩

end Go.Proofs.YtfgbbmnmblchiaaDoor
