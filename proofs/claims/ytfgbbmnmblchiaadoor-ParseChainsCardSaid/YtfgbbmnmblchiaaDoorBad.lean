/-
  Where a text has what may not be, which sign stands at its beginning: walked.
-/
import Derived.Test.YtfgbbmnmblchiaaDoorScan
namespace Go.Proofs.YtfgbbmnmblchiaaDoor
open Go.RowKit
set_option linter.unusedVariables false

def placeI : Option Nat → Int
  | some i => (i : Int)
  | none => -1

theorem wrong_low (u n : Nat) : Lx.wrongB u n = ((decide (u < 32) && !(u == 10) && !(u == 9)) || u == 127 || (u == 65533 && n == 1)) := rfl

set_option maxHeartbeats 2000000 in
theorem bad_any (l : List UInt8) (w : World) (hl : l.length ≤ 9223372036854775807) (hT : Hid (U8 w)) :
    Calls Tryd.prog 21 #[.string (Lx.strB l)] w fun e w' => e = .returned (.int .i64 (placeI (Lx.badP (l.length + 1) l 0))) ∧ Chg [] w w' := by
  have hsz := Lx.strB_size l
  have hit0 := World.iter_heap w (Lx.strB l) 0
  have HC0 := Lib.hid ((Chg.refl [] w).iter (Lx.strB l) 0)
  obtain ⟨R, hR⟩ : ∃ R, Lx.badP (l.length + 1) l 0 = R := ⟨_, rfl⟩
  have HR := Lib.hid hR
  rw [hR]
  clear hR
  go_enter Tryd.func21, Tryd.ntmps21
  go_wp2
  go_loopg [3, 4, 5, 6] (l.length + 1) (fun g c3 c4 c5 c6 wr => ∃ pos : Nat, l.length < pos + g ∧ pos ≤ l.length ∧ wr.heap[w.heap.size]? = some (.stringIter (Lx.strB l) pos) ∧ Chg [] w wr ∧ Hid (R = Lx.badP g (l.drop pos) pos))
  case atStart => exact ⟨0, by omega, by omega, hit0, HC0.out, Lib.hid HR.out.symm⟩
  case round =>
    obtain ⟨pos, hg, hle, hit, hch, hr⟩ := hrel
    have HC := Lib.hid hch
    clear hch hit0 HC0 HR
    cases gk with
    | zero => omega
    | succ g =>
      by_cases hp : pos < l.length
      · have hnx := fun ty => next_at wr w.heap.size l pos ty hit hp
        obtain ⟨t1, t2, t3, t4, t5⟩ := spec_at l pos hp
        have hne : l.drop pos ≠ [] := by intro e; have := congrArg List.length e; simp at this; omega
        have hit2 := Lib.iterAt_heap wr w.heap.size (Lx.strB l) pos (pos + Lx.wid (l.drop pos)) hit
        have HC2 := Lib.hid (HC.out.iterAt w.heap.size (Nat.le_refl _) (Lx.strB l) (pos + Lx.wid (l.drop pos)))
        have hstep := Lib.hid (show Lx.badP (g + 1) (l.drop pos) pos = if Lx.wrongB (Lx.rune (l.drop pos)) (Lx.wid (l.drop pos)) = true then some pos else Lx.badP g (l.drop (pos + Lx.wid (l.drop pos))) (pos + Lx.wid (l.drop pos)) from by
          conv => lhs; unfold Lx.badP
          rw [if_neg hne, List.drop_drop])
        have HDE := fun (W : World) (h : Hid (U8 W)) => Lib.hid (decode_any (l.drop pos) hne W h)
        have HEX := Lib.hid (show (Lx.strB l).extract pos l.length = Lx.strB (l.drop pos) from by rw [← Lx.strB_tail, hsz])
        generalize Lx.rune (l.drop pos) = u at *
        generalize Lx.wid (l.drop pos) = n at *
        generalize wr.iterAt w.heap.size (Lx.strB l) (pos + n) = w2 at *
        have T4 := Lib.hid t4
        clear hit t1 t2 t5 hne
        have u0 : (0 : Int) ≤ (u : Int) := by omega
        have p0 : (0 : Int) ≤ (pos : Int) := by omega
        have p1 : (pos : Int) ≤ (l.length : Int) := by omega
        by_cases h1 : (u < 32 ∧ u ≠ 10 ∧ u ≠ 9) ∨ u = 127
        · have hb := Lib.hid (show R = some pos from by
            rw [hr.out, hstep.out, if_pos]
            rw [wrong_low]
            rcases h1 with ⟨a, b, c⟩ | a
            · simp [a, b, c]
            · simp [a])
          clear hstep hr HDE HEX
          rcases h1 with ⟨a, b, c⟩ | a
          · have d1 : decide ((u : Int) < 32) = true := decide_eq_true (by omega)
            have d2 : ((u : Int) == 10) = false := by rw [beq_eq_false_iff_ne]; omega
            have d3 : ((u : Int) == 9) = false := by rw [beq_eq_false_iff_ne]; omega
            have d4 : ((u : Int) != 10) = true := by rw [bne_iff_ne]; omega
            have d5 : ((u : Int) != 9) = true := by rw [bne_iff_ne]; omega
            go_wp2
            go_ret
            exact ⟨ret_i64 (by rw [hb.out]; rfl), HC2.out⟩
          · have d1 : decide ((u : Int) < 32) = false := decide_eq_false (by omega)
            have d2 : ((u : Int) == 127) = true := by rw [beq_iff_eq]; omega
            clear a
            go_wp2
            go_ret
            exact ⟨ret_i64 (by rw [hb.out]; rfl), HC2.out⟩
        · have h127 : ((u : Int) == 127) = false := by rw [beq_eq_false_iff_ne]; omega
          by_cases he : u = 65533
          · have d1 : decide ((u : Int) < 32) = false := decide_eq_false (by omega)
            have d2 : ((u : Int) == 65533) = true := by rw [beq_iff_eq]; omega
            have HE := Lib.hid he
            have hT2 : Hid (U8 w2) := Lib.hid ⟨fun c hc => HC2.out.cell (hT.out.1 c hc) (by simp), fun i hi => ⟨HC2.out.cell (hT.out.2 i hi).1 (by simp), HC2.out.cell (hT.out.2 i hi).2 (by simp)⟩⟩
            clear he h1
            go_wp2_with fail
            rw [HEX.out]
            refine ((HDE w2 hT2).out).mono ?_
            rintro e w3 ⟨rfl, h3⟩
            have H3 := Lib.hid h3
            have hit3 := h3.obj hit2 (by simp)
            clear h3
            by_cases hn : n = 1
            · have hb := Lib.hid (show R = some pos from by
                rw [hr.out, hstep.out, if_pos]
                rw [wrong_low, HE.out]
                simp [hn])
              have d3 : ((n : Int) == 1) = true := by rw [beq_iff_eq]; omega
              clear hn hstep hr HDE HEX
              go_wp2
              go_ret
              exact ⟨ret_i64 (by rw [hb.out]; rfl), HC2.out.then0 H3.out⟩
            · have hb := Lib.hid (show R = Lx.badP g (l.drop (pos + n)) (pos + n) from by
                rw [hr.out, hstep.out, if_neg]
                rw [wrong_low, HE.out]
                simp [hn])
              have d3 : ((n : Int) == 1) = false := by rw [beq_eq_false_iff_ne]; omega
              clear hn hstep hr HDE HEX
              go_wp2
              go_roundg g
              case measure => omega
              case rel => exact ⟨pos + n, by omega, T4.out, hit3, HC2.out.then0 H3.out, hb⟩
          · have d2 : ((u : Int) == 65533) = false := by rw [beq_eq_false_iff_ne]; omega
            have hb := Lib.hid (show R = Lx.badP g (l.drop (pos + n)) (pos + n) from by
              rw [hr.out, hstep.out, if_neg]
              rw [wrong_low]
              simp only [Bool.or_eq_true, Bool.and_eq_true, decide_eq_true_eq, Bool.not_eq_true', beq_eq_false_iff_ne, beq_iff_eq]
              omega)
            clear hstep hr HDE HEX he
            by_cases h32 : u < 32
            · have hcs : u = 10 ∨ u = 9 := by omega
              have d1 : decide ((u : Int) < 32) = true := decide_eq_true (by omega)
              clear h1
              rcases hcs with rfl | rfl
              all_goals
                go_wp2
                go_roundg g
                case measure => omega
                case rel => exact ⟨pos + n, by omega, T4.out, hit2, HC2.out, hb⟩
            · have d1 : decide ((u : Int) < 32) = false := decide_eq_false (by omega)
              clear h1
              go_wp2
              go_roundg g
              case measure => omega
              case rel => exact ⟨pos + n, by omega, T4.out, hit2, HC2.out, hb⟩
      · have hnx := fun ty => next_end wr w.heap.size l pos ty hit hp
        have hb := Lib.hid (show R = none from by
          rw [hr.out]
          unfold Lx.badP
          rw [if_pos (List.drop_of_length_le (by omega))])
        clear hit hr
        go_wp2
        go_ret
        exact ⟨ret_i64 (by rw [hb.out]; rfl), HC.out⟩

end Go.Proofs.YtfgbbmnmblchiaaDoor
