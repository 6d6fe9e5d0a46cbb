/-
  What the first character of a text is, and how many bytes it has: plain facts.
-/
import Derived.Test.YtfgbbmnmblchiaaDoorLx
import Derived.Lib.RuneCountTail
import Derived.Lib.DecodeN
import Derived.Lib.IndexLaws
import Derived.Lib.Strings
import Derived.Lib.Bytealg
namespace Go.Proofs.YtfgbbmnmblchiaaDoor
namespace Lx

def strB (bs : List UInt8) : ByteArray := ⟨bs.toArray⟩
theorem strB_size (bs : List UInt8) : (strB bs).size = bs.length := by simp [strB, ByteArray.size]
theorem strB_data (bs : List UInt8) : (strB bs).data.toList = bs := by simp [strB]
theorem strB_self (s : ByteArray) : strB s.data.toList = s := by cases s; simp [strB]
theorem strB_toList (bs : List UInt8) : (strB bs).toList = bs := by rw [ByteArray.toList_eq]; simp [strB]
theorem strB_extract (bs : List UInt8) (i j : Nat) : (strB bs).extract i j = strB ((bs.drop i).take (j - i)) := by
  unfold strB
  apply ByteArray.ext
  simp [ByteArray.data_extract]
theorem strB_tail (bs : List UInt8) (i : Nat) : (strB bs).extract i (strB bs).size = strB (bs.drop i) := by
  rw [strB_extract, strB_size, List.take_of_length_le (by simp)]
theorem strB_append (a b : List UInt8) : strB a ++ strB b = strB (a ++ b) := by
  unfold strB
  apply ByteArray.ext
  simp
theorem strB_get (bs : List UInt8) (i : Nat) (h : i < (strB bs).size) : ((strB bs)[i]'h).toNat = (bs.getD i 0).toNat := by
  have hl : i < bs.length := by rw [← strB_size]; exact h
  have : (strB bs)[i]'h = bs[i]'hl := by
    unfold strB
    exact List.getElem_toArray ..
  rw [this]
  simp [List.getD, hl]
theorem strB_get! (bs : List UInt8) (i : Nat) : (strB bs).get! i = bs.getD i 0 := by
  unfold strB
  show bs.toArray[i]! = _
  by_cases h : i < bs.length
  · simp [h, List.getD]
  · simp [h, List.getD]
    rfl

theorem strB_inj {a b : List UInt8} (h : strB a = strB b) : a = b := by
  have := congrArg (fun s : ByteArray => s.data.toList) h
  simpa [strB] using this

theorem decode_drop (l : List UInt8) (i : Nat) : Utf8.decode (strB l) i = Utf8.decode (strB (l.drop i)) 0 := by
  rw [Lib.decode_at, Lib.decode_at, strB_size, strB_size]
  simp only [strB_get!, List.length_drop, Nat.sub_zero, Nat.zero_add, List.getD, List.getElem?_drop, Nat.add_zero]

theorem rune_wid (r : List UInt8) : Utf8.decode (strB r) 0 = (rune r, wid r) := rfl
theorem dec_at (l : List UInt8) (i : Nat) : Utf8.decode (strB l) i = (rune (l.drop i), wid (l.drop i)) := by rw [decode_drop]; rfl

theorem dec_eq (r : List UInt8) : (rune r, wid r) = Lib.decodeN r.length (r.getD 0 0).toNat (r.getD 1 0).toNat (r.getD 2 0).toNat (r.getD 3 0).toNat := by
  rw [← rune_wid, Lib.decode_at, strB_size]
  simp only [strB_get!, Nat.sub_zero, Nat.zero_add]

set_option maxRecDepth 100000 in
theorem dec_ascii (c : UInt8) (t : List UInt8) (h : c.toNat < 128) : rune (c :: t) = c.toNat ∧ wid (c :: t) = 1 := by
  have := dec_eq (c :: t)
  rw [show (c :: t).getD 0 0 = c from rfl] at this
  unfold Lib.decodeN at this
  rw [if_pos h] at this
  exact Prod.mk.inj this

set_option maxRecDepth 100000 in
theorem dec_high (c : UInt8) (t : List UInt8) (h : 128 ≤ c.toNat) : 128 ≤ rune (c :: t) ∧ 1 ≤ wid (c :: t) ∧ rune (c :: t) ≤ 1114111 := by
  have := dec_eq (c :: t)
  rw [show (c :: t).getD 0 0 = c from rfl] at this
  have h1 : (rune (c :: t)) = (rune (c :: t), wid (c :: t)).1 := rfl
  have h2 : (wid (c :: t)) = (rune (c :: t), wid (c :: t)).2 := rfl
  rw [h1, h2, this]
  unfold Lib.decodeN
  rw [if_neg (by omega)]
  repeat' split
  all_goals (simp only; omega)

theorem wid_pos (r : List UInt8) (h : r ≠ []) : 1 ≤ wid r := by
  match r, h with
  | c :: t, _ =>
    by_cases hc : c.toNat < 128
    · rw [(dec_ascii c t hc).2]; omega
    · exact (dec_high c t (by omega)).2.1

set_option maxRecDepth 100000 in
theorem wid_le (r : List UInt8) (h : r ≠ []) : wid r ≤ r.length := by
  have h1 : 1 ≤ r.length := by cases r with | nil => exact absurd rfl h | cons c t => simp
  have := dec_eq r
  have h2 : (wid r) = (rune r, wid r).2 := rfl
  rw [h2, this]
  unfold Lib.decodeN
  repeat' split
  all_goals (simp only; omega)

set_option maxRecDepth 100000 in
theorem rune_le (r : List UInt8) : rune r ≤ 1114111 := by
  have := dec_eq r
  have h1 : rune r = (rune r, wid r).1 := rfl
  have h0 : (r.getD 0 0).toNat < 256 := (r.getD 0 0).toNat_lt
  rw [h1, this]
  unfold Lib.decodeN
  repeat' split
  all_goals (simp only; omega)

set_option maxRecDepth 100000 in
/-- the bytes of a character that is no sign of seven bits have none. -/
theorem wid_high (c : UInt8) (t : List UInt8) (h : 128 ≤ c.toNat) : ∀ d ∈ (c :: t).take (wid (c :: t)), 128 ≤ d.toNat := by
  have hd := dec_eq (c :: t)
  have h2 : (wid (c :: t)) = (rune (c :: t), wid (c :: t)).2 := rfl
  have two : ∀ x : UInt8, x.toNat / 64 = 2 → 128 ≤ x.toNat := fun x hx => by omega
  have k1 : ∀ d ∈ (c :: t).take 1, 128 ≤ d.toNat := by intro d hd; simp at hd; subst hd; exact h
  have k2 : ((c :: t).getD 1 0).toNat / 64 = 2 → ∀ d ∈ (c :: t).take 2, 128 ≤ d.toNat := by
    intro e1 d hd
    match t, e1, hd with
    | [], _, hd => exact k1 d hd
    | b :: t, e1, hd =>
      rcases List.mem_cons.1 hd with rfl | hd
      · exact h
      · have : d = b := by simpa using hd
        subst this
        exact two _ e1
  have k3 : ((c :: t).getD 1 0).toNat / 64 = 2 → ((c :: t).getD 2 0).toNat / 64 = 2 → ∀ d ∈ (c :: t).take 3, 128 ≤ d.toNat := by
    intro e1 e2 d hd
    match t, e1, e2, hd with
    | [], _, _, hd => exact k1 d hd
    | [b], e1, _, hd => exact k2 e1 d hd
    | b :: b2 :: t, e1, e2, hd =>
      rcases List.mem_cons.1 hd with rfl | hd
      · exact h
      · rcases List.mem_cons.1 hd with rfl | hd
        · exact two _ e1
        · have : d = b2 := by simpa using hd
          subst this
          exact two _ e2
  have k4 : ((c :: t).getD 1 0).toNat / 64 = 2 → ((c :: t).getD 2 0).toNat / 64 = 2 → ((c :: t).getD 3 0).toNat / 64 = 2 → ∀ d ∈ (c :: t).take 4, 128 ≤ d.toNat := by
    intro e1 e2 e3 d hd
    match t, e1, e2, e3, hd with
    | [], _, _, _, hd => exact k1 d hd
    | [b], e1, _, _, hd => exact k2 e1 d hd
    | [b, b2], e1, e2, _, hd => exact k3 e1 e2 d hd
    | b :: b2 :: b3 :: t, e1, e2, e3, hd =>
      rcases List.mem_cons.1 hd with rfl | hd
      · exact h
      · rcases List.mem_cons.1 hd with rfl | hd
        · exact two _ e1
        · rcases List.mem_cons.1 hd with rfl | hd
          · exact two _ e2
          · have : d = b3 := by simpa using hd
            subst this
            exact two _ e3
  rw [h2, hd]
  generalize ((c :: t).getD 0 0).toNat = x0 at *
  generalize ((c :: t).getD 1 0).toNat = x1 at *
  generalize ((c :: t).getD 2 0).toNat = x2 at *
  generalize ((c :: t).getD 3 0).toNat = x3 at *
  generalize (c :: t).length = n at *
  clear hd h2
  unfold Lib.decodeN
  split
  · exact k1
  · split
    · rename_i h1
      split
      · exact k2 h1.2.2
      · exact k1
    · split
      · rename_i h1
        split
        · exact k3 h1.2.1.2 h1.2.2.2
        · exact k1
      · split
        · rename_i h1
          split
          · exact k4 h1.2.1.2 h1.2.2.1.2 h1.2.2.2.2
          · exact k1
        · exact k1

set_option maxRecDepth 100000 in
/-- the sign of what is no character: alone, or as itself. -/
theorem rune_error (r : List UInt8) (h : rune r = 65533) : wid r = 1 ∨ (wid r = 3 ∧ r.take 3 = [239, 191, 189]) := by
  have hd := dec_eq r
  have h1 : rune r = (rune r, wid r).1 := rfl
  have h2 : wid r = (rune r, wid r).2 := rfl
  rw [h2]
  rw [h1] at h
  rw [hd] at h ⊢
  have b0 := (r.getD 0 0).toNat_lt
  have b1 := (r.getD 1 0).toNat_lt
  have b2 := (r.getD 2 0).toNat_lt
  have fin : (r.getD 0 0).toNat = 239 → (r.getD 1 0).toNat = 191 → (r.getD 2 0).toNat = 189 → r.take 3 = [239, 191, 189] := by
    intro e0 e1 e2
    match r with
    | [] => exact absurd (show (0 : Nat) = 239 from e0) (by decide)
    | [a] => exact absurd (show (0 : Nat) = 191 from e1) (by decide)
    | [a, b] => exact absurd (show (0 : Nat) = 189 from e2) (by decide)
    | a :: b :: c :: t =>
      have e0 : a.toNat = 239 := e0
      have e1 : b.toNat = 191 := e1
      have e2 : c.toNat = 189 := e2
      have f0 : a = 239 := UInt8.toNat_inj.1 e0
      have f1 : b = 191 := UInt8.toNat_inj.1 e1
      have f2 : c = 189 := UInt8.toNat_inj.1 e2
      subst f0 f1 f2
      rfl
  generalize (r.getD 0 0).toNat = x0 at *
  generalize (r.getD 1 0).toNat = x1 at *
  generalize (r.getD 2 0).toNat = x2 at *
  generalize (r.getD 3 0).toNat = x3 at *
  generalize r.length = n at *
  clear hd h1 h2
  unfold Lib.decodeN at h ⊢
  by_cases c1 : x0 < 128
  · rw [if_pos c1]; exact .inl rfl
  · rw [if_neg c1] at h ⊢
    by_cases c2 : x0 / 32 = 6 ∧ 1 < n ∧ x1 / 64 = 2
    · rw [if_pos c2] at h ⊢
      by_cases c3 : x0 % 32 * 64 + x1 % 64 ≥ 128
      · rw [if_pos c3] at h; simp only at h; omega
      · rw [if_neg c3]; exact .inl rfl
    · rw [if_neg c2] at h ⊢
      by_cases c4 : x0 / 16 = 14 ∧ (1 < n ∧ x1 / 64 = 2) ∧ 2 < n ∧ x2 / 64 = 2
      · rw [if_pos c4] at h ⊢
        split
        · rename_i c5
          rw [if_pos c5] at h
          simp only at h
          exact .inr ⟨rfl, fin (by omega) (by omega) (by omega)⟩
        · exact .inl rfl
      · rw [if_neg c4] at h ⊢
        split
        · rename_i c6
          rw [if_pos c6] at h
          split
          · rename_i c7
            rw [if_pos c7] at h
            simp only at h
            omega
          · exact .inl rfl
        · exact .inl rfl

end Lx
end Go.Proofs.YtfgbbmnmblchiaaDoor
