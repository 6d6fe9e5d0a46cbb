/-
  LexQuotes.
-/
import Derived.Test.YtocngneomllmoaaDoorQuoP
namespace Go.Proofs.YtocngneomllmoaaDoor
open Go.RowKit
set_option linter.unusedVariables false

theorem qbad_false {u : Nat} (h : ¬ (u = 39 ∨ (u < 32 ∧ u ≠ 10 ∧ u ≠ 9) ∨ u = 127 ∨ u = 65533)) : qbadB u = false := by
  unfold qbadB
  simp
  omega

theorem quo_call (a s : List UInt8) (ha : ∀ c ∈ a, 97 ≤ c.toNat ∧ c.toNat ≤ 122) (f : Nat) (hs : qokP f s = true) (hl : a.length + s.length ≤ 2000) (w : World) (hT : Hid (U8 w)) :
    Calls Tryd.prog 10 #[.string (Lx.strB a ++ ⟨#[39]⟩ ++ Lx.strB s ++ ⟨#[39, 32, 120]⟩)] w fun e w' => ∃ g u0, e = .returned (.tuple #[.slice (some ⟨g, 0, none⟩) 2 2, .int .i64 0, .int .i64 0]) ∧ Chg [] w w' ∧
      w'.cell? ⟨g, 0, none⟩ = some (.int .i64 1) ∧ w'.cell? ⟨g, 1, none⟩ = some (.string (Lx.strB a ++ ⟨#[39]⟩ ++ Lx.strB s ++ ⟨#[39]⟩)) ∧ w'.cell? ⟨g, 2, none⟩ = some u0 ∧ w'.cell? ⟨g, 5, none⟩ = some (.string ⟨#[120]⟩) ∧ w'.cell? ⟨g, 7, none⟩ = some (.int .i64 ((a.length : Int) + (s.length : Int) + 3)) ∧
      (a ++ s = [] → ∃ x, u0 = .slice x 0 0) ∧ (a ++ s ≠ [] → ∃ g0, u0 = .slice (some ⟨g0, 0, none⟩) 1 1 ∧ w'.cell? ⟨g0, 0, none⟩ = some (.int .i64 1) ∧ w'.cell? ⟨g0, 1, none⟩ = some (.string (Lx.strB a ++ Lx.strB s))) := by
  have e1 : Lx.strB a ++ (⟨#[39]⟩ : ByteArray) ++ Lx.strB s ++ (⟨#[39, 32, 120]⟩ : ByteArray) = Lx.strB (a ++ [39] ++ s ++ [39, 32, 120]) := by
    rw [show (⟨#[39]⟩ : ByteArray) = Lx.strB [39] from rfl, show (⟨#[39, 32, 120]⟩ : ByteArray) = Lx.strB [39, 32, 120] from rfl, Lx.strB_append, Lx.strB_append, Lx.strB_append]
  have e2 : Lx.strB a ++ (⟨#[39]⟩ : ByteArray) ++ Lx.strB s ++ (⟨#[39]⟩ : ByteArray) = Lx.strB (a ++ [39] ++ s ++ [39]) := by
    rw [show (⟨#[39]⟩ : ByteArray) = Lx.strB [39] from rfl, Lx.strB_append, Lx.strB_append, Lx.strB_append]
  rw [e1, e2]
  refine (tokens_any _ w (by simp; omega) hT).mono ?_
  rw [quo_tokens a s ha f hs hl]
  rintro e w' ⟨a2, n2, vs, rfl, hA, hC⟩
  obtain ⟨g, rfl, rfl, _, hc⟩ := hA.cells (by simp)
  have hvl := hA.len
  obtain ⟨u0, u1, rfl⟩ : ∃ u0 u1, vs = [u0, u1] := by
    match vs, hvl with
    | [u0, u1], _ => exact ⟨u0, u1, rfl⟩
  obtain ⟨p0, x0, n0, rfl⟩ := hA.parts 0 _ u0 rfl rfl
  refine ⟨g, _, rfl, hC, (hc 0 _ _ rfl rfl).kind, (hc 0 _ _ rfl rfl).text, (hc 0 _ _ rfl rfl).ps, (hc 1 _ _ rfl rfl).text, ?_, ?_, ?_⟩
  · have := (hc 1 _ _ rfl rfl).pos
    rw [this]
    simp only
    congr 2
  · intro h0
    simp only [quoParts_eq, if_pos h0] at p0
    have := p0.len
    simp only [List.length_nil] at this
    obtain ⟨rfl, _, _⟩ := this
    exact ⟨x0, rfl⟩
  · intro h0
    simp only [quoParts_eq, if_neg h0] at p0
    obtain ⟨g0, rfl, rfl, _, hp⟩ := p0.cells (by simp)
    refine ⟨g0, rfl, (hp 0 _ rfl).kind, ?_⟩
    rw [Lx.strB_append]
    exact (hp 0 _ rfl).text

set_option maxHeartbeats 4000000 in
set_option maxRecDepth 100000 in
theorem lexQuotes_any (l a : List UInt8) (w : World) (hl : l.length ≤ 9223372036854775807) (hla : a.length ≤ 9223372036854775807) (hT : Hid (U8 w)) :
    Calls Tryd.prog 3 #[.string (Lx.strB l), .string (Lx.strB a)] w fun e w' => e = .returned (.bool true) ∧ Chg [] w w' := by
  have hsz := Lx.strB_size l
  have hsa := Lx.strB_size a
  have hit0 := World.iter_heap w (Lx.strB l) 0
  have HC0 := Lib.hid ((Chg.refl [] w).iter (Lx.strB l) 0)
  obtain ⟨R, hR⟩ : ∃ R, qokP (l.length + 1) l = R := ⟨_, rfl⟩
  have HR := Lib.hid hR
  clear hR
  have HW := Lib.hid (fun (W : World) (h : Chg [] w W) => awake_any W (U8.chg hT h))
  have HN := Lib.hid (show w.heap.size ≤ w.heap.size from Nat.le_refl _)
  go_enter Tryd.func3, Tryd.ntmps3
  go_wp2
  go_loopg [5, 6] (l.length + 1) (fun g c5 c6 wr => ∃ pos : Nat, l.length < pos + g ∧ pos ≤ l.length ∧ wr.heap[w.heap.size]? = some (.stringIter (Lx.strB l) pos) ∧ Chg [] w wr ∧ Hid (R = qokP g (l.drop pos)))
  case atStart => exact ⟨0, by omega, by omega, hit0, HC0.out, Lib.hid HR.out.symm⟩
  case round =>
    obtain ⟨pos, hg, hle, hit, hch, hr⟩ := hrel
    have HC := Lib.hid hch
    clear hch hit0 HC0
    cases gk with
    | zero => omega
    | succ g =>
      by_cases hp : pos < l.length
      · have hnx := fun ty => next_at wr w.heap.size l pos ty hit hp
        obtain ⟨t1, t2, t3, t4, t5⟩ := spec_at l pos hp
        have hne : l.drop pos ≠ [] := by intro e; have := congrArg List.length e; simp at this; omega
        have hit2 := Lib.iterAt_heap wr w.heap.size (Lx.strB l) pos (pos + Lx.wid (l.drop pos)) hit
        have HC2 := Lib.hid (HC.out.iterAt w.heap.size (Nat.le_refl _) (Lx.strB l) (pos + Lx.wid (l.drop pos)))
        have hstep := Lib.hid (show qokP (g + 1) (l.drop pos) = if qbadB (Lx.rune (l.drop pos)) = true then false else qokP g (l.drop (pos + Lx.wid (l.drop pos))) from by
          rw [qokP_cons _ _ hne, List.drop_drop])
        generalize Lx.rune (l.drop pos) = u at *
        generalize Lx.wid (l.drop pos) = n at *
        generalize wr.iterAt w.heap.size (Lx.strB l) (pos + n) = w2 at *
        have T4 := Lib.hid t4
        clear hit t1 t2 t5 hne
        have u0 : (0 : Int) ≤ (u : Int) := by omega
        have p0 : (0 : Int) ≤ (pos : Int) := by omega
        have pd : decide ((0 : Int) ≤ (pos : Int)) = true := decide_eq_true p0
        have HAW := Lib.hid (HW.out w2 HC2.out)
        by_cases h1 : u = 39 ∨ (u < 32 ∧ u ≠ 10 ∧ u ≠ 9) ∨ u = 127 ∨ u = 65533
        · clear hstep hr
          rcases h1 with h1 | ⟨h1, h2, h3⟩ | h1 | h1
          · have e1 : ((u : Int) == 39) = true := by rw [beq_iff_eq]; omega
            clear h1
            go_wp2_with fail
            refine HAW.out.mono ?_
            rintro e w3 ⟨rfl, h3⟩
            have H3 := Lib.hid (HC2.out.then0 h3)
            clear h3
            go_wp2
            go_ret
            exact ⟨rfl, H3.out⟩
          · have e1 : ((u : Int) == 39) = false := by rw [beq_eq_false_iff_ne]; omega
            have e2 : decide ((u : Int) < 32) = true := decide_eq_true (by omega)
            have e3 : ((u : Int) != 10) = true := by rw [bne_iff_ne]; omega
            have e4 : ((u : Int) != 9) = true := by rw [bne_iff_ne]; omega
            have e5 : ((u : Int) == 10) = false := by rw [beq_eq_false_iff_ne]; omega
            have e6 : ((u : Int) == 9) = false := by rw [beq_eq_false_iff_ne]; omega
            clear h1 h2 h3
            go_wp2_with fail
            refine HAW.out.mono ?_
            rintro e w3 ⟨rfl, h3⟩
            have H3 := Lib.hid (HC2.out.then0 h3)
            clear h3
            go_wp2
            go_ret
            exact ⟨rfl, H3.out⟩
          · have e1 : ((u : Int) == 39) = false := by rw [beq_eq_false_iff_ne]; omega
            have e2 : decide ((u : Int) < 32) = false := decide_eq_false (by omega)
            have e3 : ((u : Int) == 127) = true := by rw [beq_iff_eq]; omega
            clear h1
            go_wp2_with fail
            refine HAW.out.mono ?_
            rintro e w3 ⟨rfl, h3⟩
            have H3 := Lib.hid (HC2.out.then0 h3)
            clear h3
            go_wp2
            go_ret
            exact ⟨rfl, H3.out⟩
          · have e1 : ((u : Int) == 39) = false := by rw [beq_eq_false_iff_ne]; omega
            have e2 : decide ((u : Int) < 32) = false := decide_eq_false (by omega)
            have e3 : ((u : Int) == 127) = false := by rw [beq_eq_false_iff_ne]; omega
            have e4 : ((u : Int) == 65533) = true := by rw [beq_iff_eq]; omega
            clear h1
            go_wp2_with fail
            refine HAW.out.mono ?_
            rintro e w3 ⟨rfl, h3⟩
            have H3 := Lib.hid (HC2.out.then0 h3)
            clear h3
            go_wp2
            go_ret
            exact ⟨rfl, H3.out⟩
        · have hb := Lib.hid (show R = qokP g (l.drop (pos + n)) from by rw [hr.out, hstep.out, qbad_false h1]; simp)
          have HG := Lib.hid hg
          clear hr hstep HAW hg
          have e1 : ((u : Int) == 39) = false := by rw [beq_eq_false_iff_ne]; omega
          have e3 : ((u : Int) == 127) = false := by rw [beq_eq_false_iff_ne]; omega
          have e4 : ((u : Int) == 65533) = false := by rw [beq_eq_false_iff_ne]; omega
          by_cases h32 : u < 32
          · have e2 : decide ((u : Int) < 32) = true := decide_eq_true (by omega)
            by_cases h10 : u = 10
            · have e5 : ((u : Int) != 10) = false := by rw [bne_eq_false_iff_eq]; omega
              have e6 : ((u : Int) == 10) = true := by rw [beq_iff_eq]; omega
              clear h1 h10 h32
              go_wp2
              go_roundg g
              case measure => omega
              case rel => exact ⟨pos + n, by have := HG.out; omega, T4.out, hit2, HC2.out, hb⟩
            · have h9 : u = 9 := by omega
              have e5 : ((u : Int) != 10) = true := by rw [bne_iff_ne]; omega
              have e6 : ((u : Int) == 10) = false := by rw [beq_eq_false_iff_ne]; omega
              have e7 : ((u : Int) != 9) = false := by rw [bne_eq_false_iff_eq]; omega
              have e8 : ((u : Int) == 9) = true := by rw [beq_iff_eq]; omega
              clear h1 h10 h32 h9
              go_wp2
              go_roundg g
              case measure => omega
              case rel => exact ⟨pos + n, by have := HG.out; omega, T4.out, hit2, HC2.out, hb⟩
          · have e2 : decide ((u : Int) < 32) = false := decide_eq_false (by omega)
            clear h1 h32
            go_wp2
            go_roundg g
            case measure => omega
            case rel => exact ⟨pos + n, by have := HG.out; omega, T4.out, hit2, HC2.out, hb⟩
      · have hnx := fun ty => next_end wr w.heap.size l pos ty hit hp
        have hok := Lib.hid (show qokP (l.length + 1) l = true from by rw [HR.out, hr.out, List.drop_of_length_le (by omega), qokP_nil])
        clear hr hg hit hle HR
        go_wp2
        go_loopg [7] (a.length + 1) (fun g c7 wx => ∃ k : Nat, a.length < k + g ∧ k ≤ a.length ∧ c7 = .int .i64 k ∧ wx = wr ∧ Hid (∀ j, j < k → 97 ≤ (a.getD j 0).toNat ∧ (a.getD j 0).toNat ≤ 122))
        case atStart => exact ⟨0, by omega, by omega, rfl, rfl, Lib.hid (fun j hj => by omega)⟩
        case round =>
          obtain ⟨k, hg, hk, rfl, rfl, hall⟩ := hrel
          have k0 : (0 : Int) ≤ (k : Int) := by omega
          by_cases hlt : k < a.length
          · cases gk with
            | zero => omega
            | succ g2 =>
              have hkd : decide (k < a.length) = true := decide_eq_true hlt
              have k1 : (k : Int) < (a.length : Int) := by omega
              have k2 : (k : Int) ≤ 9223372036854775806 := by omega
              obtain ⟨y, hy0⟩ : ∃ y, (a.getD k 0).toNat = y := ⟨_, rfl⟩
              have hy : ∀ h, ((Lx.strB a)[k]'h).toNat = y := fun h => by rw [Lx.strB_get]; exact hy0
              have HY := Lib.hid hy0
              have HG := Lib.hid hg
              have HAW := Lib.hid (HW.out wr HC.out)
              clear hy0 hg
              by_cases h97 : y < 97
              · have d1 : decide ((y : Int) < 97) = true := decide_eq_true (by omega)
                clear h97
                go_wp2_with fail
                refine HAW.out.mono ?_
                rintro e w3 ⟨rfl, h3⟩
                have H3 := Lib.hid (HC.out.then0 h3)
                clear h3
                go_wp2
                go_ret
                exact ⟨rfl, H3.out⟩
              · have d1 : decide ((y : Int) < 97) = false := decide_eq_false (by omega)
                by_cases h122 : 122 < y
                · have d2 : decide ((122 : Int) < (y : Int)) = true := decide_eq_true (by omega)
                  clear h97 h122
                  go_wp2_with fail
                  refine HAW.out.mono ?_
                  rintro e w3 ⟨rfl, h3⟩
                  have H3 := Lib.hid (HC.out.then0 h3)
                  clear h3
                  go_wp2
                  go_ret
                  exact ⟨rfl, H3.out⟩
                · have d2 : decide ((122 : Int) < (y : Int)) = false := decide_eq_false (by omega)
                  have HB := Lib.hid (show 97 ≤ y ∧ y ≤ 122 from by omega)
                  clear h97 h122
                  go_wp2
                  go_roundg g2
                  case measure => omega
                  case rel => exact ⟨k + 1, by have := HG.out; omega, by omega, by go_num, rfl, Lib.hid (fun j hj => by
                      by_cases hjk : j = k
                      · subst hjk; rw [HY.out]; exact HB.out
                      · exact hall.out j (by omega))⟩
          · obtain rfl : k = a.length := by omega
            have hkd : decide (a.length < a.length) = false := decide_eq_false (by omega)
            have HAL := Lib.hid (show ∀ c ∈ a, 97 ≤ c.toNat ∧ c.toNat ≤ 122 from fun c hc => by
              obtain ⟨j, hj⟩ := List.mem_iff_getElem?.1 hc
              have hjl := (List.getElem?_eq_some_iff.1 hj).1
              have := hall.out j hjl
              rwa [List.getD_eq_getElem?_getD, hj] at this)
            clear hall hg
            by_cases hbig : 1500 < l.length
            · have d1 : decide ((1500 : Int) < (l.length : Int)) = true := decide_eq_true (by omega)
              have HAW := Lib.hid (HW.out wr HC.out)
              clear hbig
              go_wp2_with fail
              refine HAW.out.mono ?_
              rintro e w3 ⟨rfl, h3⟩
              have H3 := Lib.hid (HC.out.then0 h3)
              clear h3
              go_wp2
              go_ret
              exact ⟨rfl, H3.out⟩
            · have d1 : decide ((1500 : Int) < (l.length : Int)) = false := decide_eq_false (by omega)
              by_cases hbig2 : 100 < a.length
              · have d2 : decide ((100 : Int) < (a.length : Int)) = true := decide_eq_true (by omega)
                have HAW := Lib.hid (HW.out wr HC.out)
                clear hbig hbig2
                go_wp2_with fail
                refine HAW.out.mono ?_
                rintro e w3 ⟨rfl, h3⟩
                have H3 := Lib.hid (HC.out.then0 h3)
                clear h3
                go_wp2
                go_ret
                exact ⟨rfl, H3.out⟩
              · have d2 : decide ((100 : Int) < (a.length : Int)) = false := decide_eq_false (by omega)
                have HQ := Lib.hid (quo_call a l HAL.out _ hok.out (by omega) wr (U8.chg hT HC.out))
                have l1 : (l.length : Int) ≤ 1500 := by omega
                have l2 : (a.length : Int) ≤ 100 := by omega
                have o1 := eq_false (show ¬ 9223372036854775807 < a.length + 1 from by omega)
                have o2 := eq_false (show ¬ 9223372036854775807 < a.length + 1 + l.length from by omega)
                have o3 := eq_false (show ¬ 9223372036854775807 < a.length + 1 + l.length + 3 from by omega)
                have o4 := eq_false (show ¬ 9223372036854775807 < a.length + 1 + l.length + 1 from by omega)
                have o5 := eq_false (show ¬ 9223372036854775807 < a.length + l.length from by omega)
                have HAWQ := Lib.hid (fun (W : World) (h : Chg [] w W) => HW.out W h)
                clear hbig hbig2 hla hl hk k0 hnx hp
                go_wp2_with fail
                refine HQ.out.mono ?_
                rintro e w3 ⟨g, u0, rfl, hc3, x0, x1, x2, x5, x7, hE, hN⟩
                have HC3 := Lib.hid (HC.out.then0 hc3)
                have HE := Lib.hid hE
                have HNE := Lib.hid hN
                have HAW := Lib.hid (HAWQ.out w3 HC3.out)
                clear hc3 hE hN HAWQ HQ
                by_cases h0 : a ++ l = []
                · obtain ⟨y, rfl⟩ := HE.out h0
                  have ht : Lx.strB a ++ Lx.strB l = ⟨#[]⟩ := by rw [Lx.strB_append, h0]; rfl
                  clear h0 HE HNE
                  go_wp2_with fail
                  refine HAW.out.mono ?_
                  rintro e w4 ⟨rfl, h4⟩
                  have H4 := Lib.hid (HC3.out.then0 h4)
                  clear h4
                  go_wp2
                  go_ret
                  exact ⟨rfl, H4.out⟩
                · obtain ⟨g0, rfl, y0, y1⟩ := HNE.out h0
                  have ht : (Lx.strB a ++ Lx.strB l).toList.isEmpty = false := by rw [Lx.strB_append, Lx.strB_toList]; simpa using h0
                  clear h0 HE HNE
                  go_wp2_with fail
                  refine HAW.out.mono ?_
                  rintro e w4 ⟨rfl, h4⟩
                  have H4 := Lib.hid (HC3.out.then0 h4)
                  clear h4
                  go_wp2
                  go_ret
                  exact ⟨rfl, H4.out⟩

end Go.Proofs.YtocngneomllmoaaDoor
