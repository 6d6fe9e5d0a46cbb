/-
  Whether a character is among the signs that have a meaning within a word, walked: strings.IndexRune and ContainsRune at one constant text.
-/
import Derived.Test.YtfgbbmnmblchiaaDoorChars
import Derived.BigQuiet
namespace Go.Proofs.YtfgbbmnmblchiaaDoor
open Go.RowKit
set_option linter.unusedVariables false

/-- the signs that have a meaning within a word. -/
def spL : List UInt8 := [32, 9, 10, 59, 38, 124, 60, 62, 40, 41, 39, 34, 92, 36]

theorem spL_asc : ∀ d ∈ spL, d.toNat < 128 := by decide
theorem spec_sp (c : UInt8) : Lx.specB c = spL.contains c := rfl

theorem ib_none : ∀ (l : List UInt8) (c : UInt8), (∀ d ∈ l, d ≠ c) → Lib.indexByte l c = -1
  | [], _, _ => rfl
  | b :: l, c, h => by
    have hb : (b == c) = false := by simpa using h b (by simp)
    have := ib_none l c (fun d hd => h d (by simp [hd]))
    simp [Lib.indexByte, hb, this]

theorem ib_has : ∀ (l : List UInt8) (c : UInt8), decide (0 ≤ Lib.indexByte l c) = l.contains c
  | [], c => by simp [Lib.indexByte]
  | b :: l, c => by
    have ih := ib_has l c
    have hge := Lib.indexByte_ge l c
    unfold Lib.indexByte
    by_cases hb : b = c
    · subst hb; simp
    · have hb' : (b == c) = false := by simpa using hb
      have hcb : (c == b) = false := by simpa using fun e => hb e.symm
      rw [hb', List.contains_cons, hcb, Bool.false_or, ← ih]
      by_cases hm : Lib.indexByte l c = -1
      · simp [hm]
      · simp [hm]
        omega

theorem extract_sub (s : ByteArray) (a b : Nat) : ∀ d ∈ (s.extract a b).data.toList, d ∈ s.data.toList := by
  intro d hd
  rw [Lib.extract_data] at hd
  exact List.mem_of_mem_drop (List.mem_of_mem_take hd)

theorem byte_far (s : ByteArray) (c : Int) (w : World) (h : ∀ d ∈ s.data.toList, d.toNat < 128) (hc : 128 ≤ c ∧ c < 256) :
    Calls Tryd.prog 23 #[.string s, .int .u8 c] w fun e w' => e = .returned (.int .i64 (-1)) ∧ w' = w := by
  refine (Tryd.strings_IndexByte s c w).mono fun e w' hh => ⟨hh.1.trans (ret_i64 (ib_none _ _ fun d hd he => ?_)), hh.2⟩
  have h1 := h d hd
  rw [he] at h1
  have : c.toNat.toUInt8.toNat = c.toNat := by
    simp [UInt8.toNat_ofNat']
    omega
  omega

theorem byte_far_sp (a b z : Nat) (w : World) (h1 : 128 ≤ z) (h2 : z < 256) :
    Calls Tryd.prog 23 #[.string ((⟨#[32, 9, 10, 59, 38, 124, 60, 62, 40, 41, 39, 34, 92, 36]⟩ : ByteArray).extract a b), .int .u8 z] w fun e w' => e = .returned (.int .i64 (-1)) ∧ w' = w :=
  byte_far _ _ w (fun d hd => spL_asc d (extract_sub _ _ _ d hd)) (by omega)

/-- the bytes of a character that is no sign of seven bits: two to four, the last one beyond seven bits. -/
theorem encode_high (u : Nat) (h1 : 128 ≤ u) (h2 : u ≤ 1114111) : ∃ el : List UInt8, Utf8.encode (u : Int) = Lx.strB el ∧ ((el.length = 2 ∧ 128 ≤ (el.getD 1 0).toNat) ∨ (el.length = 3 ∧ 128 ≤ (el.getD 2 0).toNat) ∨ (el.length = 4 ∧ 128 ≤ (el.getD 3 0).toNat)) := by
  have key : ∀ n : Nat, 128 ≤ (UInt8.ofNat (128 + n % 64)).toNat := by
    intro n
    rw [UInt8.toNat_ofNat']
    omega
  unfold Utf8.encode
  by_cases hv : Utf8.valid (u : Int) = true
  · simp only [hv, if_true, Int.toNat_natCast]
    rw [if_neg (by omega)]
    split
    · exact ⟨[_, _], rfl, .inl ⟨rfl, key u⟩⟩
    · split
      · exact ⟨[_, _, _], rfl, .inr (.inl ⟨rfl, key u⟩)⟩
      · exact ⟨[_, _, _, _], rfl, .inr (.inr ⟨rfl, key u⟩)⟩
  · simp only [hv, if_false, Utf8.runeError, Bool.false_eq_true]
    exact ⟨[_, _, _], rfl, .inr (.inl ⟨rfl, key 65533⟩)⟩

set_option maxHeartbeats 4000000 in
set_option maxRecDepth 10000000 in
theorem indexRune_high (u : Nat) (h1 : 128 ≤ u) (h2 : u ≤ 1114111) (w : World) :
    Calls Tryd.prog 64 #[.string ⟨#[32, 9, 10, 59, 38, 124, 60, 62, 40, 41, 39, 34, 92, 36]⟩, .int .i32 u] w fun e w' => e = .returned (.int .i64 (-1)) ∧ Chg [] w w' := by
  have hlow : decide ((u : Int) < 128) = false := decide_eq_false (by omega)
  have hpos : (0 : Int) ≤ (u : Int) := by omega
  have H2 := Lib.hid h2
  clear h2
  by_cases he : u = 65533
  · have he1 : ((u : Int) == 65533) = true := by rw [beq_iff_eq]; omega
    clear he
    have hit0 := World.iter_heap w (Lx.strB spL) 0
    have HC0 := Lib.hid ((Chg.refl [] w).iter (Lx.strB spL) 0)
    go_enter Tryd.func64, Tryd.ntmps64
    go_wp2
    go_loopg [5, 6] 15 (fun g c5 c6 wr => ∃ pos : Nat, pos + g = 15 ∧ wr.heap[w.heap.size]? = some (.stringIter (Lx.strB spL) pos) ∧ Chg [] w wr)
    case atStart => exact ⟨0, by omega, hit0, HC0.out⟩
    case round =>
      obtain ⟨pos, hg, hit, hch⟩ := hrel
      have HC := Lib.hid hch
      clear hch hit0 HC0
      cases gk with
      | zero =>
        have hnx := fun ty => next_end wr w.heap.size spL pos ty hit (by simp [spL]; omega)
        clear hit
        go_wp2
        go_ret
        exact ⟨rfl, HC.out⟩
      | succ g =>
        by_cases hp : pos < spL.length
        · have hnx := fun ty => next_at wr w.heap.size spL pos ty hit hp
          have hasc := spL_asc (spL.getD pos 0) (by simp [List.getD, hp])
          obtain ⟨t1, t2⟩ := Lx.dec_ascii (spL.getD pos 0) (spL.drop (pos + 1)) hasc
          rw [← drop_at spL pos hp] at t1 t2
          have hne : ((Lx.rune (spL.drop pos) : Int) == 65533) = false := by rw [t1, beq_eq_false_iff_ne]; omega
          have hit2 := Lib.iterAt_heap wr w.heap.size (Lx.strB spL) pos (pos + Lx.wid (spL.drop pos)) hit
          have HC2 := Lib.hid (HC.out.iterAt w.heap.size (Nat.le_refl _) (Lx.strB spL) (pos + Lx.wid (spL.drop pos)))
          rw [t2] at hit2 hnx HC2
          generalize Lx.rune (spL.drop pos) = x at *
          generalize wr.iterAt w.heap.size (Lx.strB spL) (pos + 1) = w2 at *
          clear hit t1 t2 hasc
          go_wp2
          go_roundg g
          case measure => omega
          case rel => exact ⟨pos + 1, by omega, hit2, HC2.out⟩
        · have hnx := fun ty => next_end wr w.heap.size spL pos ty hit hp
          clear hit
          go_wp2
          go_ret
          exact ⟨rfl, HC.out⟩
  · have he1 : ((u : Int) == 65533) = false := by rw [beq_eq_false_iff_ne]; omega
    clear he
    cases hv : Lib.validRune (u : Int) with
    | false =>
      go_enter Tryd.func64, Tryd.ntmps64
      go_wp2_with fail
      refine (Tryd.utf8_ValidRune _ _).mono ?_
      rw [hv]
      rintro e w' ⟨rfl, rfl⟩
      go_wp2
      go_ret
      exact ⟨rfl, Chg.refl _ _⟩
    | true =>
      obtain ⟨el, hel, hcs⟩ := encode_high u h1 H2.out
      have hz := Lx.strB_size el
      have hg := fun i h => Lx.strB_get el i h
      obtain ⟨k, x, hn, hb, hkx⟩ : ∃ k x : Nat, el.length = k + 1 ∧ 128 ≤ (el.getD k 0).toNat ∧ ((k = 1 ∧ x = 9) ∨ (k = 2 ∧ x = 10) ∨ (k = 3 ∧ x = 59)) := by
        rcases hcs with ⟨hn, hb⟩ | ⟨hn, hb⟩ | ⟨hn, hb⟩
        · exact ⟨1, 9, hn, hb, .inl ⟨rfl, rfl⟩⟩
        · exact ⟨2, 10, hn, hb, .inr (.inl ⟨rfl, rfl⟩)⟩
        · exact ⟨3, 59, hn, hb, .inr (.inr ⟨rfl, rfl⟩)⟩
      have hb256 := (el.getD k 0).toNat_lt
      have hne : ((x : Int) == ((el.getD k 0).toNat : Int)) = false := by rw [beq_eq_false_iff_ne]; omega
      have hne2 : ((x : Int) != ((el.getD k 0).toNat : Int)) = true := by rw [bne_iff_ne]; omega
      obtain ⟨z, hzz⟩ : ∃ z : Nat, (el.getD k 0).toNat = z := ⟨_, rfl⟩
      have hgk : ∀ h, ((Lx.strB el)[k]'h).toNat = z := fun h => (hg k h).trans hzz
      rw [hzz] at hb hb256 hne hne2
      clear hg hcs hzz
      rcases hkx with ⟨rfl, rfl⟩ | ⟨rfl, rfl⟩ | ⟨rfl, rfl⟩
      · simp only [Nat.reduceAdd] at hn
        have hwk : IntKind.i64.wrap 2 = 2 := by decide
        have hsx : ∀ h, ((⟨#[32, 9, 10, 59, 38, 124, 60, 62, 40, 41, 39, 34, 92, 36]⟩ : ByteArray)[1]'h).toNat = 9 := fun _ => rfl
        have g1 : ((9 : Int) == (z : Int)) = false := hne
        have g2 : ((9 : Int) != (z : Int)) = true := hne2
        clear hne hne2
        go_enter Tryd.func64, Tryd.ntmps64
        go_wp2_with fail
        refine (Tryd.utf8_ValidRune _ _).mono ?_
        rw [hv]
        rintro e w' ⟨rfl, rfl⟩
        go_wp2_with fail
        clear he1 hlow hpos hv h1 H2
        go_step3
        go_wp2_with fail
        go_loopg [9] 1 (fun g c9 wr => c9 = .int .i64 1 ∧ wr = w')
        case atStart => exact ⟨rfl, rfl⟩
        case round =>
          obtain ⟨rfl, rfl⟩ := hrel
          go_wp2_with fail
          go_step3
          go_wp2_with fail
          go_quiet (fail)
          all_goals
            have HCQ := Lib.hid ((Chg.refl [] wr).drewN nq)
            generalize wr.drewN nq = w9 at *
            go_wp2_with fail
            go_quiet ((go_at_call 23; exact Calls.quiet_of_same (byte_far_sp _ _ z _ hb hb256)))
            all_goals
              go_wp2
              simp only [Exit.noGoto_ret, Exit.inBlock, Exit.then]
              go_ret
              exact ⟨rfl, HCQ.out.drewN _⟩
      · simp only [Nat.reduceAdd] at hn
        have hwk : IntKind.i64.wrap 3 = 3 := by decide
        have hsx : ∀ h, ((⟨#[32, 9, 10, 59, 38, 124, 60, 62, 40, 41, 39, 34, 92, 36]⟩ : ByteArray)[2]'h).toNat = 10 := fun _ => rfl
        have g1 : ((10 : Int) == (z : Int)) = false := hne
        have g2 : ((10 : Int) != (z : Int)) = true := hne2
        clear hne hne2
        go_enter Tryd.func64, Tryd.ntmps64
        go_wp2_with fail
        refine (Tryd.utf8_ValidRune _ _).mono ?_
        rw [hv]
        rintro e w' ⟨rfl, rfl⟩
        go_wp2_with fail
        clear he1 hlow hpos hv h1 H2
        go_step3
        go_wp2_with fail
        go_loopg [9] 1 (fun g c9 wr => c9 = .int .i64 2 ∧ wr = w')
        case atStart => exact ⟨rfl, rfl⟩
        case round =>
          obtain ⟨rfl, rfl⟩ := hrel
          go_wp2_with fail
          go_step3
          go_wp2_with fail
          go_quiet (fail)
          all_goals
            have HCQ := Lib.hid ((Chg.refl [] wr).drewN nq)
            generalize wr.drewN nq = w9 at *
            go_wp2_with fail
            go_quiet ((go_at_call 23; exact Calls.quiet_of_same (byte_far_sp _ _ z _ hb hb256)))
            all_goals
              go_wp2
              simp only [Exit.noGoto_ret, Exit.inBlock, Exit.then]
              go_ret
              exact ⟨rfl, HCQ.out.drewN _⟩
      · simp only [Nat.reduceAdd] at hn
        have hwk : IntKind.i64.wrap 4 = 4 := by decide
        have hsx : ∀ h, ((⟨#[32, 9, 10, 59, 38, 124, 60, 62, 40, 41, 39, 34, 92, 36]⟩ : ByteArray)[3]'h).toNat = 59 := fun _ => rfl
        have g1 : ((59 : Int) == (z : Int)) = false := hne
        have g2 : ((59 : Int) != (z : Int)) = true := hne2
        clear hne hne2
        go_enter Tryd.func64, Tryd.ntmps64
        go_wp2_with fail
        refine (Tryd.utf8_ValidRune _ _).mono ?_
        rw [hv]
        rintro e w' ⟨rfl, rfl⟩
        go_wp2_with fail
        clear he1 hlow hpos hv h1 H2
        go_step3
        go_wp2_with fail
        go_loopg [9] 1 (fun g c9 wr => c9 = .int .i64 3 ∧ wr = w')
        case atStart => exact ⟨rfl, rfl⟩
        case round =>
          obtain ⟨rfl, rfl⟩ := hrel
          go_wp2_with fail
          go_step3
          go_wp2_with fail
          go_quiet (fail)
          all_goals
            have HCQ := Lib.hid ((Chg.refl [] wr).drewN nq)
            generalize wr.drewN nq = w9 at *
            go_wp2_with fail
            go_quiet ((go_at_call 23; exact Calls.quiet_of_same (byte_far_sp _ _ z _ hb hb256)))
            all_goals
              go_wp2
              simp only [Exit.noGoto_ret, Exit.inBlock, Exit.then]
              go_ret
              exact ⟨rfl, HCQ.out.drewN _⟩

end Go.Proofs.YtfgbbmnmblchiaaDoor
