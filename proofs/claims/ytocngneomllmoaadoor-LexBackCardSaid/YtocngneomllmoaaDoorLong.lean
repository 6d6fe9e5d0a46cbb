/-
  A text of a's, as long as one likes: one word, up to the bound; LexLong.
-/
import Derived.Test.YtocngneomllmoaaDoorRName
import Derived.Laws.MakeOwn
namespace Go.Proofs.YtocngneomllmoaaDoor
open Go.RowKit
set_option linter.unusedVariables false

/-- a text of plain signs is right everywhere. -/
theorem badP_ascii : ∀ (f : Nat) (r : List UInt8) (p : Nat), (∀ c ∈ r, 32 ≤ c.toNat ∧ c.toNat < 127) → Lx.badP f r p = none
  | 0, _, _, _ => rfl
  | f + 1, [], p, _ => by unfold Lx.badP; rw [if_pos rfl]
  | f + 1, c :: t, p, h => by
    have hc := h c (by simp)
    unfold Lx.badP
    rw [if_neg (by simp), (Lx.dec_ascii c t (by omega)).1, (Lx.dec_ascii c t (by omega)).2, if_neg, List.drop_succ_cons, List.drop_zero, badP_ascii f t _ fun d hd => h d (by simp [hd])]
    rw [wrong_low]
    have h1 : decide (c.toNat < 32) = false := decide_eq_false (by omega)
    have h2 : (c.toNat == 127) = false := by rw [beq_eq_false_iff_ne]; omega
    have h3 : (c.toNat == 65533) = false := by rw [beq_eq_false_iff_ne]; omega
    rw [h1, h2, h3]
    simp

/-- a word of plain signs up to the end. -/
theorem wordP_all (r : List UInt8) (f p : Nat) (hf : r.length ≤ f) (h : ∀ c ∈ r, Lx.specB c = false) (ps : List Lx.Part) : Lx.wordP f r p ps = .ok (addRun ps r, p + r.length) := by
  obtain ⟨g, rfl⟩ : ∃ g, f = g + r.length := ⟨f - r.length, by omega⟩
  rw [wordP_plain r.length g r p ps (Nat.le_refl _) (fun j hj => h _ (by rw [List.getD_eq_getElem?_getD, List.getElem?_eq_getElem hj]; exact List.getElem_mem hj)), List.drop_length, List.take_length, wordP_nil]

theorem long_tokens (n : Nat) (h0 : 0 < n) (h1 : n ≤ 2048) : Lx.tokens (List.replicate n 97) = (0, 0, [⟨1, List.replicate n 97, [⟨1, List.replicate n 97⟩], 0⟩]) := by
  have hb : Lx.badP ((List.replicate n (97 : UInt8)).length + 1) (List.replicate n 97) 0 = none := badP_ascii _ _ _ (fun c hc => by rw [(List.mem_replicate.1 hc).2]; decide)
  rw [tokens_good (by rw [List.length_replicate]; omega) hb]
  obtain ⟨m, rfl⟩ : ∃ m, n = m + 1 := ⟨n - 1, by omega⟩
  rw [List.length_replicate, List.replicate_succ]
  have hs : Lx.signOf (97 :: List.replicate m 97) = [] := by
    unfold Lx.signOf
    simp [Lx.signs]
  have hw := wordP_all (97 :: List.replicate m 97) ((97 :: List.replicate m (97 : UInt8)).length + 1) 0 (by omega) (fun c hc => by
    rw [← List.replicate_succ] at hc
    rw [(List.mem_replicate.1 hc).2]; decide) []
  rw [(tokP_word (m + 1) 97 (List.replicate m 97) 0 [] (by decide) (by decide) (by decide) hs (by decide)).2 _ _ hw]
  have e : (97 :: List.replicate m (97 : UInt8)).length = m + 1 := by simp
  rw [e, Nat.zero_add, Nat.sub_zero, List.drop_of_length_le (by omega), List.take_of_length_le (by omega), tokP_nil]
  rfl

theorem Tryd.infoByte : (Tryd.prog.info? 5).map (fun i => (i.zero, i.size, i.bytes)) = some (some (.int .u8 0), 1, 1) := by kernel_rfl
def zeroArr (n : Nat) : Array Value := madeCells (Value.int .u8 0).cells (n * 1)
theorem make_zeros (n : Nat) (hn : n ≤ 10000) (w : World) : (Instr.makeSlice 36 (.int .i64 (n : Int)) (.int .i64 (n : Int))).run Tryd.prog w = .ok (.slice (some ⟨w.heap.size, 0, none⟩) n n) (w.alloc (.cells (zeroArr n) 5)) := by
  obtain ⟨i0, hi, hz0, hz1, hz2⟩ := info_parts Tryd.infoByte
  rw [run_make w 36 5 i0 (.int .u8 0) Tryd.underlying36 hi hz0 .i64 .i64 (n : Int) (n : Int) (by omega) (by omega) (by rw [hz2]; omega) (by omega), hz1, Int.toNat_natCast]
  rfl

theorem conv_as (w : World) (b n : Nat) (cur : Array Value) (E : TypeId) (f : Nat × Nat) (hb : w.heap[b]? = some (.cells cur E f)) (hc : ∀ j, j < n → cur[j]? = some (.int .u8 97)) :
    (convert 36 9 (.slice (some ⟨b, 0, none⟩) n n)).run Tryd.prog w = .ok (.string (Lx.strB (List.replicate n 97))) w := by
  have h := run_conv_string (P := Tryd.prog) w 36 9 5 Tryd.underlying36 Tryd.underlying5 Tryd.underlying9 (some ⟨b, 0, none⟩) n (List.replicate n 97) (fun _ => ⟨b, 0, rfl, fun j u hj => by
    rw [List.map_replicate, List.getElem?_replicate] at hj
    split at hj
    · rename_i hlt
      cases hj
      rw [Nat.zero_add]
      exact cell_of_obj hb (hc j hlt)
    · cases hj⟩)
  rw [List.length_replicate] at h
  exact h

set_option maxHeartbeats 1000000 in
theorem lexLong_any (z : Int) (w : World) (wf : (Lit.int .i64 z).wf = true) (hT : Hid (U8 w)) :
    Calls Tryd.prog 5 #[.int .i64 z] w fun e w' => e = .returned (.bool true) ∧ Chg [] w w' := by
  obtain ⟨m, hm, hm2⟩ : ∃ m : Nat, z % 16 = (m : Int) ∧ m < 16 := ⟨(z % 16).toNat, by omega, by omega⟩
  have hbit : bits .and .i64 z 15 = (m : Int) := by rw [i64_and15, hm]
  clear hm wf
  obtain ⟨n, hn⟩ : ∃ n : Nat, 2040 + m = n := ⟨_, rfl⟩
  have hw : IntKind.i64.wrap (2040 + (m : Int)) = (n : Int) := by rw [IntKind.wrap_i64]; omega
  have hmk := make_zeros n (by omega)
  have n0 : (0 : Int) ≤ (n : Int) := by omega
  have n1 : (n : Int) ≤ 2055 := by omega
  have HN := Lib.hid (show 0 < n ∧ n ≤ 2055 from by omega)
  clear hn
  go_enter Tryd.func5, Tryd.ntmps5
  go_wp2_with fail
  have HC := Lib.hid ((Chg.refl [] w).alloc (.cells (zeroArr n) 5))
  have HO := Lib.hid (obj_alloc_new w (.cells (zeroArr n) 5))
  have hzs : (zeroArr n).size = n := by unfold zeroArr; rw [size_madeCells]; omega
  have HZ := Lib.hid hzs
  clear hzs
  obtain ⟨b, hb⟩ : ∃ b, w.heap.size = b := ⟨_, rfl⟩
  rw [hb] at HO
  have HB := Lib.hid hb
  simp only [hb]
  clear hmk hbit hw
  generalize w.alloc (.cells (zeroArr n) 5) = w1 at *
  go_loopg [4, 15] (n + 1) (fun g c4 c15 wr => ∃ (k : Nat) (cur : Array Value), n < k + g ∧ k ≤ n ∧ c15 = .int .i64 k ∧ wr.heap[b]? = some (.cells cur 5 (0, 0)) ∧ Chg [] w wr ∧ Hid (cur.size = n ∧ ∀ j, j < k → cur[j]? = some (.int .u8 97)))
  case atStart => exact ⟨0, _, by omega, by omega, rfl, HO.out, HC.out, Lib.hid ⟨HZ.out, fun j hj => by omega⟩⟩
  case round =>
    obtain ⟨k, cur, hg, hk, rfl, ho, hc, hcur⟩ := hrel
    have HC2 := Lib.hid hc
    have HO2 := Lib.hid ho
    clear HC HO HZ hc ho
    by_cases hlt : k < n
    · cases gk with
      | zero => omega
      | succ g =>
        have hd : decide (k < n) = true := decide_eq_true hlt
        have k0 : (0 : Int) ≤ (k : Int) := by omega
        have k1 : (k : Int) < (n : Int) := by omega
        have hlt2 : k < cur.size := by have := hcur.out.1; omega
        obtain ⟨v, x1⟩ : ∃ v, wr.cell? ⟨b, k, none⟩ = some v := ⟨_, cell_of_obj HO2.out (Array.getElem?_eq_getElem hlt2)⟩
        have x2 := free_of_obj HO2.out k
        have HG := Lib.hid hg
        have HL := Lib.hid hlt2
        clear hg hlt2
        go_wp2
        go_roundg g
        case measure => omega
        case rel => exact ⟨k + 1, _, by have := HG.out; omega, by omega, by go_num, obj_setCell HO2.out k _, HC2.out.setCell _ _ (.inr (by have := HB.out; simp only; omega)), Lib.hid ⟨by have := hcur.out.1; simpa using this, fun j hj => by
            by_cases hjk : j = k
            · subst hjk; rw [Array.getElem?_setIfInBounds_self_of_lt HL.out]
            · rw [Array.getElem?_setIfInBounds_ne (by omega)]; exact hcur.out.2 j (by omega)⟩⟩
    · obtain rfl : k = n := by omega
      have hd : decide (k < k) = false := decide_eq_false (by omega)
      have hcv := conv_as wr b k cur _ _ HO2.out hcur.out.2
      have HTK := Lib.hid (tokens_any (List.replicate k 97) wr (by rw [List.length_replicate]; have := HN.out; omega) (U8.chg hT HC2.out))
      by_cases hbig : 2048 < k
      · have hbd : decide ((2048 : Int) < (k : Int)) = true := decide_eq_true (by omega)
        have HT2 := Lib.hid (tokens_long (l := List.replicate k 97) (by rw [List.length_replicate]; exact hbig))
        clear hbig
        go_wp2_with fail
        refine HTK.out.mono ?_
        rw [HT2.out]
        rintro e w2 ⟨a2, n2, vs2, rfl, hA2, hC2⟩
        obtain rfl : n2 = 0 := by
          obtain ⟨a', c', hv, h1, _⟩ := hA2.row.shape
          cases hv; rfl
        have HC3 := Lib.hid (HC2.out.then0 hC2)
        clear hA2 hC2
        go_wp2_with fail
        refine (awake_any _ (U8.chg hT HC3.out)).mono ?_
        rintro e w3 ⟨rfl, h3⟩
        have HC4 := Lib.hid (HC3.out.then0 h3)
        clear h3
        go_wp2
        go_ret
        exact ⟨rfl, HC4.out⟩
      · have hbd : decide ((2048 : Int) < (k : Int)) = false := decide_eq_false (by omega)
        have HT2 := Lib.hid (long_tokens k HN.out.1 (by omega))
        clear hbig
        go_wp2_with fail
        refine HTK.out.mono ?_
        rw [HT2.out]
        rintro e w2 ⟨a2, n2, vs2, rfl, hA2, hC2⟩
        obtain ⟨g, rfl, rfl, _, hce⟩ := hA2.cells (by simp)
        have hl2 := hA2.len
        obtain ⟨u0, rfl⟩ : ∃ u0, vs2 = [u0] := by
          match vs2, hl2 with
          | [u0], _ => exact ⟨u0, rfl⟩
        have y1 := (hce 0 _ _ rfl rfl).text
        have HC3 := Lib.hid (HC2.out.then0 hC2)
        have hsz := Lx.strB_size (List.replicate k 97)
        rw [List.length_replicate] at hsz
        clear hA2 hC2 hce hl2
        go_wp2_with fail
        refine (awake_any _ (U8.chg hT HC3.out)).mono ?_
        rintro e w3 ⟨rfl, h3⟩
        have HC4 := Lib.hid (HC3.out.then0 h3)
        clear h3
        go_wp2
        go_ret
        exact ⟨rfl, HC4.out⟩

end Go.Proofs.YtocngneomllmoaaDoor
