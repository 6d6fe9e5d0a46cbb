/-
  What an image's head says: sizes, walked.
-/
import Derived.Test.YtocjdbenelikpaaOpA
import Derived.OwnWalk
import Derived.Lib.Strings
namespace Go.Proofs.Ytocjdbenelikpaa
open Go.RowKit
set_option linter.unusedVariables false

/-- a slice of bytes that came in. -/
structure Bytes (w : World) (a : Option Addr) (n cp : Nat) (bs : List UInt8) : Prop where
  len : bs.length = n
  cap : n ≤ cp ∧ cp ≤ maxLen
  src : SrcAt w a (bs.map byteV)

theorem Bytes.kept {w w' : World} {F : List Nat} {a : Option Addr} {len cap : Nat} {bs : List UInt8} (h : Bytes w a len cap bs) (hc : Chg F w w') (hn : ∀ x, a = some x → x.block ∉ F) : Bytes w' a len cap bs := ⟨h.len, h.cap, h.src.kept hc hn⟩
theorem Bytes.kept0 {w w' : World} {a : Option Addr} {len cap : Nat} {bs : List UInt8} (h : Bytes w a len cap bs) (hc : Chg [] w w') : Bytes w' a len cap bs := ⟨h.len, h.cap, h.src.kept0 hc⟩
theorem Bytes.cell {w : World} {b off len cap : Nat} {bs : List UInt8} (h : Bytes w (some ⟨b, off, none⟩) len cap bs) {i : Nat} (hi : i < len) : w.cell? ⟨b, off + i, none⟩ = some (byteV (bs.getD i 0)) := by
  obtain ⟨b', o', h1, h2⟩ := h.src (by intro e; have := h.len; simp at e; subst e; simp at this; omega)
  cases h1
  have hl : i < bs.length := by rw [h.len]; exact hi
  exact h2 i _ (by simp [List.getD, List.getElem?_eq_getElem hl])
theorem Bytes.some_ {w : World} {a : Option Addr} {len cap : Nat} {bs : List UInt8} (h : Bytes w a len cap bs) (h0 : 0 < len) : ∃ b off, a = some ⟨b, off, none⟩ := by
  obtain ⟨b', o', h1, h2⟩ := h.src (by intro e; have := h.len; simp at e; subst e; simp at this; omega)
  exact ⟨b', o', h1⟩

def headN (b : List UInt8) (i : Nat) : Nat := (b.getD i 0).toNat * 256 + (b.getD (i + 1) 0).toNat
def lz (b : List UInt8) : Bool := decide (6 ≤ b.length) && (b.getD 0 0 == 76 && b.getD 1 0 == 90)
def sizesOk (b : List UInt8) : Bool := lz b && decide (1 ≤ headN b 2 ∧ headN b 2 ≤ 256 ∧ headN b 4 ≤ 512 ∧ b.length = 6 + 4 * headN b 2 + headN b 4)

theorem or_bytes (x y : Nat) (hx : x < 256) (hy : y < 256) : bits .or .i64 ((x : Int) * 256) (y : Int) = ((x * 256 + y : Nat) : Int) := by
  have key : (BitVec.ofInt 64 ((x : Int) * 256) ||| BitVec.ofInt 64 (y : Int)).toNat = x * 256 + y := by
    have e1 : (BitVec.ofInt 64 ((x : Int) * 256)).toNat = x * 256 := by rw [BitVec.toNat_ofInt]; omega
    have e2 : (BitVec.ofInt 64 (y : Int)).toNat = y := by rw [BitVec.toNat_ofInt]; omega
    rw [BitVec.toNat_or, e1, e2]
    have := Nat.shiftLeft_add_eq_or_of_lt (i := 8) (b := y) (by omega) x
    rw [Nat.shiftLeft_eq, show 2 ^ 8 = 256 from rfl] at this
    omega
  show IntKind.i64.wrap ((BitVec.ofInt 64 ((x : Int) * 256) ||| BitVec.ofInt 64 (y : Int)).toNat : Nat) = _
  rw [key, IntKind.wrap_i64]
  omega

/-- what sizes answers. -/
def SizesPost (w : World) (b : List UInt8) : Ending → World → Prop := fun e w' =>
  e = .returned (.tuple #[.int .i64 (if lz b then (headN b 2 : Int) else 0), .int .i64 (if lz b then (headN b 4 : Int) else 0), .bool (sizesOk b)]) ∧ Chg [] w w'

set_option maxHeartbeats 1000000 in
theorem sizes_any (w : World) (a : Option Addr) (len cap : Nat) (bs : List UInt8) (h : Bytes w a len cap bs) :
    Calls Try.prog 33 #[.slice a len cap] w (SizesPost w bs) := by
  have hcm : len ≤ 9223372036854775807 := by have h1 := h.cap; unfold maxLen at h1; omega
  have hlen := h.len
  by_cases h6 : len < 6
  · have e : lz bs = false := by unfold lz; rw [hlen]; simp; omega
    have e2 : sizesOk bs = false := by unfold sizesOk; rw [e]; rfl
    have HE := Lib.hid (And.intro e e2)
    clear h e e2 hlen
    go_enter Try.func33, Try.ntmps33
    go_wp2
    go_ret3
    unfold SizesPost
    rw [HE.out.1, HE.out.2]
    exact ⟨rfl, Chg.refl _ _⟩
  · have h6' : (6 : Int) ≤ (len : Int) := by omega
    obtain ⟨b, off, rfl⟩ := h.some_ (by omega)
    have k0 := h.cell (i := 0) (by omega)
    have k1 := h.cell (i := 1) (by omega)
    have kc : (convert 26 9 (.slice (some ⟨b, off, none⟩) 2 cap)).run Try.prog w = .ok (.string ⟨(bs.take 2).toArray⟩) w := by
      have h2 : (bs.take 2).length = 2 := by simp; omega
      have := run_conv_string (P := Try.prog) w 26 9 5 Try.underlying26 Try.underlying5 Try.underlying9 (some ⟨b, off, none⟩) cap (bs.take 2) (by
        intro hne
        obtain ⟨b', o', h1, h3⟩ := h.src (by intro e; simp at e; subst e; simp at hlen; omega)
        cases h1
        refine ⟨_, _, rfl, fun j u hj => h3 j u ?_⟩
        have : j < 2 := by have := (List.getElem?_eq_some_iff.1 hj).1; simp at this; omega
        rw [List.getElem?_map, List.getElem?_take, if_pos this] at hj
        rw [List.getElem?_map]
        exact hj)
      rw [h2] at this
      exact this
    have hc2 : 2 ≤ cap := by have := h.cap.1; omega
    have hc3 : cap ≤ 9223372036854775807 := by have := h.cap.2; unfold maxLen at this; omega
    have H := Lib.hid h
    clear h
    by_cases hz : lz bs = true
    · have hs2 : (⟨(bs.take 2).toArray⟩ : ByteArray) = ⟨#[76, 90]⟩ := by
        unfold lz at hz
        simp at hz
        obtain ⟨_, h1, h2⟩ := hz
        match bs, hlen with
        | [], hl => simp at hl; omega
        | [_], hl => simp at hl; omega
        | x :: y :: r, _ => simp at h1 h2; subst h1; subst h2; rfl
      rw [hs2] at kc
      clear hs2 k0 k1
      have q2 := H.out.cell (i := 2) (by omega)
      have q3 := H.out.cell (i := 3) (by omega)
      have q4 := H.out.cell (i := 4) (by omega)
      have q5 := H.out.cell (i := 5) (by omega)
      have b2 := UInt8.toNat_lt (bs.getD 2 0)
      have b3 := UInt8.toNat_lt (bs.getD 3 0)
      have b4 := UInt8.toNat_lt (bs.getD 4 0)
      have b5 := UInt8.toNat_lt (bs.getD 5 0)
      have hn : headN bs 2 = (bs.getD 2 0).toNat * 256 + (bs.getD 3 0).toNat := rfl
      have hd : headN bs 4 = (bs.getD 4 0).toNat * 256 + (bs.getD 5 0).toNat := rfl
      unfold byteV at q2 q3 q4 q5
      generalize (bs.getD 2 0).toNat = x2 at *
      generalize (bs.getD 3 0).toNat = x3 at *
      generalize (bs.getD 4 0).toNat = x4 at *
      generalize (bs.getD 5 0).toNat = x5 at *
      have o1 := or_bytes x2 x3 b2 b3
      have o2 := or_bytes x4 x5 b4 b5
      rw [← hn] at o1
      rw [← hd] at o2
      have hok : sizesOk bs = decide (1 ≤ headN bs 2 ∧ headN bs 2 ≤ 256 ∧ headN bs 4 ≤ 512 ∧ len = 6 + 4 * headN bs 2 + headN bs 4) := by
        unfold sizesOk; rw [hz, hlen]; rfl
      have hN : headN bs 2 ≤ 65535 := by omega
      have hD : headN bs 4 ≤ 65535 := by omega
      have HO := Lib.hid hok
      have HZ := Lib.hid hz
      unfold SizesPost
      rw [hz, hok]
      simp only [if_true]
      clear hok hz hlen hn hd h6
      generalize headN bs 2 = N at *
      generalize headN bs 4 = D at *
      have w2 : IntKind.i64.wrap (x2 : Int) = (x2 : Int) := by rw [IntKind.wrap_i64]; omega
      have w3 : IntKind.i64.wrap (x3 : Int) = (x3 : Int) := by rw [IntKind.wrap_i64]; omega
      have w4 : IntKind.i64.wrap (x4 : Int) = (x4 : Int) := by rw [IntKind.wrap_i64]; omega
      have w5 : IntKind.i64.wrap (x5 : Int) = (x5 : Int) := by rw [IntKind.wrap_i64]; omega
      go_enter Try.func33, Try.ntmps33
      go_wp2_with fail
      go_region
      all_goals
        by_cases h1 : 1 ≤ N
        · by_cases h2 : N ≤ 256
          · by_cases h3 : D ≤ 512
            · by_cases h4 : len = 6 + 4 * N + D
              · have hb : ((len : Int) == 6 + 4 * (N : Int) + (D : Int)) = true := by simp; omega
                have HD := Lib.hid (decide_eq_true (p := 1 ≤ N ∧ N ≤ 256 ∧ D ≤ 512 ∧ len = 6 + 4 * N + D) ⟨h1, h2, h3, h4⟩)
                clear h4
                go_wp2
                go_ret3
                refine ⟨?_, (Chg.refl [] w).drew⟩
                rw [HD.out]
                rfl
              · have hb : ((len : Int) == 6 + 4 * (N : Int) + (D : Int)) = false := by simp; omega
                have HD := Lib.hid (decide_eq_false (p := 1 ≤ N ∧ N ≤ 256 ∧ D ≤ 512 ∧ len = 6 + 4 * N + D) (fun h => h4 h.2.2.2))
                clear h4
                go_wp2
                go_ret3
                refine ⟨?_, (Chg.refl [] w).drew⟩
                rw [HD.out]
                rfl
            · have HD := Lib.hid (decide_eq_false (p := 1 ≤ N ∧ N ≤ 256 ∧ D ≤ 512 ∧ len = 6 + 4 * N + D) (fun h => h3 h.2.2.1))
              go_wp2
              go_ret3
              refine ⟨?_, (Chg.refl [] w).drew⟩
              first | rfl | (rw [HD.out]; rfl) | simp
          · have HD := Lib.hid (decide_eq_false (p := 1 ≤ N ∧ N ≤ 256 ∧ D ≤ 512 ∧ len = 6 + 4 * N + D) (fun h => h2 h.2.1))
            go_wp2
            go_ret3
            refine ⟨?_, (Chg.refl [] w).drew⟩
            first | rfl | (rw [HD.out]; rfl) | simp
        · have HD := Lib.hid (decide_eq_false (p := 1 ≤ N ∧ N ≤ 256 ∧ D ≤ 512 ∧ len = 6 + 4 * N + D) (fun h => h1 h.1))
          go_wp2
          go_ret3
          refine ⟨?_, (Chg.refl [] w).drew⟩
          first | rfl | (rw [HD.out]; rfl) | simp
    · have hz' : lz bs = false := by simpa using hz
      have hs2 : ((⟨(bs.take 2).toArray⟩ : ByteArray).toList == [76, 90]) = false := by
        rw [beq_eq_false_iff_ne]
        intro he
        unfold lz at hz'
        have hl : 6 ≤ bs.length := by omega
        simp only [hl, decide_true, Bool.true_and] at hz'
        match bs, hl with
        | x :: y :: r, _ =>
          have h0 : [x, y] = [76, 90] := by
            rw [← he, Lib.toList_data]; rfl
          simp at h0
          obtain ⟨h1, h2⟩ := h0
          subst h1; subst h2
          simp at hz'
      have hok : sizesOk bs = false := by unfold sizesOk; rw [hz']; rfl
      unfold SizesPost
      rw [hz', hok]
      generalize (⟨(bs.take 2).toArray⟩ : ByteArray) = S at *
      clear hz hz' hok hlen h6 k0 k1
      go_enter Try.func33, Try.ntmps33
      go_wp2
      go_ret3
      exact ⟨rfl, Chg.refl _ _⟩

end Go.Proofs.Ytocjdbenelikpaa
