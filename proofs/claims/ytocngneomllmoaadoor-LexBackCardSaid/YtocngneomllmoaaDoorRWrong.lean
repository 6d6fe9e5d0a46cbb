/-
  The document's wrong: walked.
-/
import Derived.Test.YtocngneomllmoaaDoorRSign
namespace Go.Proofs.YtocngneomllmoaaDoor
open Go.RowKit
set_option linter.unusedVariables false

theorem fffd_wid (r : List UInt8) (h : r.take 3 = [239, 191, 189]) : Lx.wid r = 3 := by
  match r, h with
  | a :: b :: c :: t, h =>
    simp at h
    obtain ⟨rfl, rfl, rfl⟩ := h
    have d := dec_append [239, 191, 189] t (by simp) (.inr (by decide +kernel))
    have e : ([239, 191, 189] : List UInt8) ++ t = 239 :: 191 :: 189 :: t := rfl
    rw [e] at d
    rw [d.2]
    decide +kernel

set_option maxHeartbeats 4000000 in
theorem rwrong_any (l : List UInt8) (w : World) (hl : l.length ≤ 1000000) :
    Calls Tryd.prog 21 #[.string (Lx.strB l)] w fun e w' => e = .returned (.int .i64 (placeI (Lx.badP (l.length + 1) l 0))) ∧ Chg [] w w' := by
  have hsz := Lx.strB_size l
  have hit0 := World.iter_heap w (Lx.strB l) 0
  have HC0 := Lib.hid ((Chg.refl [] w).iter (Lx.strB l) 0)
  have l1 : (l.length : Int) ≤ 1000000 := by omega
  obtain ⟨R, hR⟩ : ∃ R, Lx.badP (l.length + 1) l 0 = R := ⟨_, rfl⟩
  have HR := Lib.hid hR
  rw [hR]
  clear hR
  go_enter Tryd.func21, Tryd.ntmps21
  go_wp2
  go_loopg [3, 4] (l.length + 1) (fun g c3 c4 wr => ∃ pos : Nat, l.length < pos + g ∧ pos ≤ l.length ∧ wr.heap[w.heap.size]? = some (.stringIter (Lx.strB l) pos) ∧ Chg [] w wr ∧ Hid (R = Lx.badP g (l.drop pos) pos))
  case atStart => exact ⟨0, by omega, by omega, hit0, HC0.out, Lib.hid HR.out.symm⟩
  case round =>
    obtain ⟨pos, hg, hle, hit, hch, hr⟩ := hrel
    have HC := Lib.hid hch
    clear hch hit0 HC0 HR
    cases gk with
    | zero => omega
    | succ g =>
      by_cases hp : pos < l.length
      · have hnx := fun ty => next_at wr w.heap.size l pos ty hit hp
        obtain ⟨t1, t2, t3, t4, t5⟩ := spec_at l pos hp
        have hne : l.drop pos ≠ [] := by intro e; have := congrArg List.length e; simp at this; omega
        have hit2 := Lib.iterAt_heap wr w.heap.size (Lx.strB l) pos (pos + Lx.wid (l.drop pos)) hit
        have HC2 := Lib.hid (HC.out.iterAt w.heap.size (Nat.le_refl _) (Lx.strB l) (pos + Lx.wid (l.drop pos)))
        have hstep := Lib.hid (show Lx.badP (g + 1) (l.drop pos) pos = if Lx.wrongB (Lx.rune (l.drop pos)) (Lx.wid (l.drop pos)) = true then some pos else Lx.badP g (l.drop (pos + Lx.wid (l.drop pos))) (pos + Lx.wid (l.drop pos)) from by
          rw [badP_cons _ _ _ hne, List.drop_drop])
        have HERR := Lib.hid (Lx.rune_error (l.drop pos))
        have HFF := Lib.hid (fffd_wid (l.drop pos))
        generalize Lx.rune (l.drop pos) = u at *
        generalize Lx.wid (l.drop pos) = n at *
        generalize wr.iterAt w.heap.size (Lx.strB l) (pos + n) = w2 at *
        have T4 := Lib.hid t4
        clear hit t1 t2 t5 hne
        have u0 : (0 : Int) ≤ (u : Int) := by omega
        have p0 : (0 : Int) ≤ (pos : Int) := by omega
        have p1 : (pos : Int) ≤ (l.length : Int) := by omega
        by_cases h1 : (u < 32 ∧ u ≠ 10 ∧ u ≠ 9) ∨ u = 127
        · have hb := Lib.hid (show R = some pos from by
            rw [hr.out, hstep.out, if_pos]
            rw [wrong_low]
            rcases h1 with ⟨a, b, c⟩ | a
            · simp [a, b, c]
            · simp [a])
          clear hstep hr HERR HFF
          rcases h1 with ⟨a, b, c⟩ | a
          · have d1 : decide ((u : Int) < 32) = true := decide_eq_true (by omega)
            have d2 : ((u : Int) == 10) = false := by rw [beq_eq_false_iff_ne]; omega
            have d3 : ((u : Int) == 9) = false := by rw [beq_eq_false_iff_ne]; omega
            have d4 : ((u : Int) != 10) = true := by rw [bne_iff_ne]; omega
            have d5 : ((u : Int) != 9) = true := by rw [bne_iff_ne]; omega
            go_wp2
            go_ret
            exact ⟨ret_i64 (by rw [hb.out]; rfl), HC2.out⟩
          · have d1 : decide ((u : Int) < 32) = false := decide_eq_false (by omega)
            have d2 : ((u : Int) == 127) = true := by rw [beq_iff_eq]; omega
            clear a
            go_wp2
            go_ret
            exact ⟨ret_i64 (by rw [hb.out]; rfl), HC2.out⟩
        · have h127 : ((u : Int) == 127) = false := by rw [beq_eq_false_iff_ne]; omega
          by_cases he : u = 65533
          · have d1 : decide ((u : Int) < 32) = false := decide_eq_false (by omega)
            have d2 : ((u : Int) == 65533) = true := by rw [beq_iff_eq]; omega
            have HE := Lib.hid he
            have hrl : (l.drop pos).length = l.length - pos := List.length_drop
            have b1 : (0 : Int) ≤ (pos : Int) + 3 := by omega
            have b2 : (pos : Int) ≤ (pos : Int) + 3 := by omega
            by_cases hn : n = 1
            · have hb := Lib.hid (show R = some pos from by
                rw [hr.out, hstep.out, if_pos]
                rw [wrong_low, HE.out]
                simp [hn])
              by_cases h3 : l.length - pos < 3
              · have d3 : decide ((l.length : Int) - (pos : Int) < 3) = true := decide_eq_true (by omega)
                clear he h1 hn hstep hr HERR HFF hrl h3
                go_wp2
                go_ret
                exact ⟨ret_i64 (by rw [hb.out]; rfl), HC2.out⟩
              · have d3 : decide ((l.length : Int) - (pos : Int) < 3) = false := decide_eq_false (by omega)
                have b3 : (pos : Int) + 3 ≤ (l.length : Int) := by omega
                obtain ⟨y, hy⟩ : ∃ y, (l.drop pos).take 3 = y := ⟨_, rfl⟩
                have hyn : y ≠ [239, 191, 189] := fun e => by have := HFF.out (hy.trans e); omega
                have hex := Lib.hid (show (Lx.strB l).extract pos (pos + 3) = Lx.strB y from by
                  rw [Lx.strB_extract, show pos + 3 - pos = 3 from by omega, hy])
                have hyb : ((Lx.strB y).toList == [239, 191, 189]) = false := by rw [Lx.strB_toList, beq_eq_false_iff_ne]; exact hyn
                have hyb2 : ((Lx.strB y).toList == (⟨#[239, 191, 189]⟩ : ByteArray).toList) = false := by
                  rw [show (⟨#[239, 191, 189]⟩ : ByteArray) = Lx.strB [239, 191, 189] from rfl, Lx.strB_toList, Lx.strB_toList, beq_eq_false_iff_ne]; exact hyn
                have hyb3 : ((Lx.strB y).toList != [239, 191, 189]) = true := by rw [Lx.strB_toList, bne_iff_ne]; exact hyn
                clear he h1 hn hstep hr HERR HFF hrl h3 hy hyn
                have hx5 := hex.out
                have hx6 : (Lx.strB l).extract pos ((pos : Int) + 3).toNat = Lx.strB y := by rw [show ((pos : Int) + 3).toNat = pos + 3 from by omega]; exact hex.out
                go_wp2
                go_ret
                exact ⟨ret_i64 (by rw [hb.out]; rfl), HC2.out⟩
            · have hb := Lib.hid (show R = Lx.badP g (l.drop (pos + n)) (pos + n) from by
                rw [hr.out, hstep.out, if_neg]
                rw [wrong_low, HE.out]
                simp [hn])
              have hT3 : n = 3 ∧ (l.drop pos).take 3 = [239, 191, 189] := by
                rcases HERR.out he with h | h
                · exact absurd h hn
                · exact h
              have h3 : ¬ l.length - pos < 3 := by
                have := congrArg List.length hT3.2
                rw [List.length_take, hrl] at this
                simp at this
                omega
              have d3 : decide ((l.length : Int) - (pos : Int) < 3) = false := decide_eq_false (by omega)
              have b3 : (pos : Int) + 3 ≤ (l.length : Int) := by omega
              have hex := Lib.hid (show (Lx.strB l).extract pos (pos + 3) = ⟨#[239, 191, 189]⟩ from by
                rw [Lx.strB_extract, show pos + 3 - pos = 3 from by omega, hT3.2]; rfl)
              clear he h1 hn hstep hr HERR HFF hrl h3 hT3
              have hx5 := hex.out
              have hx6 : (Lx.strB l).extract pos ((pos : Int) + 3).toNat = ⟨#[239, 191, 189]⟩ := by rw [show ((pos : Int) + 3).toNat = pos + 3 from by omega]; exact hex.out
              go_wp2
              go_roundg g
              case measure => omega
              case rel => exact ⟨pos + n, by omega, T4.out, hit2, HC2.out, hb⟩
          · have d2 : ((u : Int) == 65533) = false := by rw [beq_eq_false_iff_ne]; omega
            have hb := Lib.hid (show R = Lx.badP g (l.drop (pos + n)) (pos + n) from by
              rw [hr.out, hstep.out, if_neg]
              rw [wrong_low]
              have e1 : (u == 127) = false := by rw [beq_eq_false_iff_ne]; omega
              have e2 : (u == 65533) = false := by rw [beq_eq_false_iff_ne]; omega
              rw [e1, e2]
              simp
              omega)
            clear hstep hr HERR HFF
            have HG := Lib.hid hg
            clear hg
            by_cases h32 : u < 32
            · have d1 : decide ((u : Int) < 32) = true := decide_eq_true (by omega)
              by_cases h10 : u = 10
              · have d3 : ((u : Int) != 10) = false := by rw [bne_eq_false_iff_eq]; omega
                have d4 : ((u : Int) == 10) = true := by rw [beq_iff_eq]; omega
                clear h1 h32 h10 he
                go_wp2
                go_roundg g
                case measure => omega
                case rel => exact ⟨pos + n, by have := HG.out; omega, T4.out, hit2, HC2.out, hb⟩
              · have d3 : ((u : Int) != 10) = true := by rw [bne_iff_ne]; omega
                have d4 : ((u : Int) == 10) = false := by rw [beq_eq_false_iff_ne]; omega
                have d5 : ((u : Int) != 9) = false := by rw [bne_eq_false_iff_eq]; omega
                have d6 : ((u : Int) == 9) = true := by rw [beq_iff_eq]; omega
                clear h1 h32 h10 he
                go_wp2
                go_roundg g
                case measure => omega
                case rel => exact ⟨pos + n, by have := HG.out; omega, T4.out, hit2, HC2.out, hb⟩
            · have d1 : decide ((u : Int) < 32) = false := decide_eq_false (by omega)
              clear h1 h32 he
              go_wp2
              go_roundg g
              case measure => omega
              case rel => exact ⟨pos + n, by have := HG.out; omega, T4.out, hit2, HC2.out, hb⟩
      · have hnx := fun ty => next_end wr w.heap.size l pos ty hit hp
        have hb := Lib.hid (show R = none from by rw [hr.out, List.drop_of_length_le (by omega), badP_nil])
        clear hr hg hit hle
        go_wp2
        go_ret
        exact ⟨ret_i64 (by rw [hb.out]; rfl), HC.out⟩

end Go.Proofs.YtocngneomllmoaaDoor
