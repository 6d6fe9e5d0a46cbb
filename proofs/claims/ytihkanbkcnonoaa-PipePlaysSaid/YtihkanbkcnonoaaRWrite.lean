/-
  The document's table, walked: Write.
-/
import Derived.Test.YtihkanbkcnonoaaRKn
namespace Go.Proofs.Ytihkanbkcnonoaa
open Go.RowKit Go.Maps
set_option linter.unusedVariables false

set_option maxHeartbeats 4000000 in
set_option maxRecDepth 100000 in
theorem rwrite_any (rb : Nat) (own : List Nat) (s : Pi.Tb) (a1 : Option Addr) (n1 c1 : Nat) (a2 : Option Addr) (n2 c2 : Nat) (wl : Pi.Lab) (id : Int) (bs : List UInt8) (w : World)
    (h : RefAt w rb own s) (hF : Fine s) (hl : LabAt w a1 n1 c1 a2 n2 c2 wl) (hbs : bs.length ≤ 9223372036854775807) :
    Calls Try.prog 20 #[.pointer (some ⟨rb, 0, none⟩), .agg #[.slice a1 n1 c1, .slice a2 n2 c2], .int .i64 id, .string (strB bs)] w
      fun e w' => e = .returned (.tuple #[.int .i64 (Pi.write s wl id bs).1.1, .int .i64 (Pi.write s wl id bs).1.2]) ∧ RLeft w w' rb own (Pi.write s wl id bs).2 := by
  have hbox := (Chg.refl [] w).alloc (.cells #[.slice a1 n1 c1, .slice a2 n2 c2] 26)
  have HR := Lib.hid h
  have HR1 := Lib.hid (h.kept0 hbox)
  have HB := Lib.hid hbox
  rcases h.focus (id := id) with ⟨hf, hpl⟩ | ⟨p, g, n, cap, i, b1, m1, d1, b2, m2, d2, hf, F⟩
  · have hr := Lib.hid (show Pi.write s wl id bs = ((0, 61), s) from by unfold Pi.write; rw [hf])
    have HP := Lib.hid hpl
    clear hf hpl h hbox
    go_enter Try.func20, Try.ntmps20
    go_wp2_with fail
    refine (rat_any rb own s id _ HR1.out).mono ?_
    rw [HP.out]
    rintro e w' ⟨rfl, rfl⟩
    go_wp2
    go_ret2
    rw [hr.out]
    exact ⟨rfl, RLeft.same0 HR.out HB.out⟩
  · obtain ⟨hmp, hbl⟩ := hF _ (find_mem hf)
    simp only at hmp hbl
    have hz1 := strB_size bs
    have hz2 := strB_size p.b
    have HF := Lib.hid F
    have HFD := Lib.hid hf
    have HM := Lib.hid hmp
    have hi0 : (0 : Int) ≤ (i : Int) := by omega
    have hi1 : (i : Int) < (n : Int) := by have := F.lt; omega
    have hi2 := F.lt
    have hcp := F.caps
    have k0 := hbox.cell F.hd (by simp)
    have k1 := hbox.cell F.k0 (by simp)
    have k2 := hbox.cell F.k1 (by simp)
    have k3 := hbox.cell F.k2 (by simp)
    have k4 := hbox.cell F.k3 (by simp)
    have k5 := hbox.cell F.k4 (by simp)
    have k6 := hbox.cell F.k5 (by simp)
    have K0 := Lib.hid (RK.new (id := id) hl F.lab)
    clear hf h F hF hl hbox hmp
    go_enter Try.func20, Try.ntmps20
    go_wp2_with fail
    refine (rat_any rb own s id _ HR1.out).mono ?_
    rw [HF.out.place]
    rintro e w' ⟨rfl, rfl⟩
    go_wp2_with fail
    refine (rmay_any a1 n1 c1 a2 n2 c2 wl _ K0.out.mine).mono ?_
    rintro e w3 ⟨rfl, h3⟩
    have K3 := Lib.hid (K0.out.kept0 h3)
    clear h3 K0 k0 k1 k2 k3 k4 k5 k6
    cases hmay : Pi.mayB wl with
    | false =>
      have hr := Lib.hid (show Pi.write s wl id bs = ((0, 1), s) from by unfold Pi.write; rw [HFD.out]; simp [hmay])
      clear hmay
      go_wp2
      go_ret2
      rw [hr.out]
      exact ⟨rfl, RLeft.same0 HR.out K3.out.chg⟩
    | true =>
      have HMAY := Lib.hid hmay
      clear hmay
      obtain ⟨x0, x1, x2, x3, x4, x5, x6⟩ := K3.out.cells
      go_wp2_with fail
      refine (rflows_any a1 n1 c1 a2 n2 c2 wl b1 m1 d1 b2 m2 d2 p.lab _ K3.out.mine K3.out.its).mono ?_
      rintro e w4 ⟨rfl, h4⟩
      have K4 := Lib.hid (K3.out.kept0 h4)
      clear h4 K3 x0 x1 x2 x3 x4 x5 x6
      cases hfl : Pi.flowsB wl p.lab with
      | false =>
        have hr := Lib.hid (show Pi.write s wl id bs = ((0, 70), s) from by unfold Pi.write; rw [HFD.out]; simp [HMAY.out, hfl])
        clear hfl
        go_wp2
        go_ret2
        rw [hr.out]
        exact ⟨rfl, RLeft.same0 HR.out K4.out.chg⟩
      | true =>
        have HFL := Lib.hid hfl
        clear hfl
        obtain ⟨x0, x1, x2, x3, x4, x5, x6⟩ := K4.out.cells
        by_cases hmin : bs.length + p.b.length ≤ 256
        · go_wp2_with fail
          refine (rsame_any a1 n1 c1 a2 n2 c2 wl b1 m1 d1 b2 m2 d2 p.lab _ K4.out.mine K4.out.its).mono ?_
          rintro e w5 ⟨rfl, h5⟩
          have K5 := Lib.hid (K4.out.kept0 h5)
          have hse := Lib.hid (same_eq wl p.lab HMAY.out HM.out)
          clear h5 K4 x0 x1 x2 x3 x4 x5 x6
          have HRM := Lib.hid (show Pi.room p bs.length = bs.length from by unfold Pi.room; omega)
          cases hsame : eqB wl p.lab with
          | false =>
            have hr := Lib.hid (show Pi.write s wl id bs = (((bs.length : Int), 0), if 0 < p.readers then { s with ps := Pi.put s.ps id { p with b := p.b ++ bs.take bs.length } } else s) from by
              unfold Pi.write; rw [HFD.out]; simp [HMAY.out, HFL.out, hse.out, hsame, HRM.out])
            clear hsame
            by_cases hrd : 0 < p.readers
            · have HD := Lib.hid hrd
              obtain ⟨x0, x1, x2, x3, x4, x5, x6⟩ := K5.out.cells
              have k0 := K5.out.chg.cell HF.out.hd (by simp)
              have kf := (K5.out.chg.frozenEq (p := ⟨g, i * 6 + 5, none⟩) (HR.out.lt g HF.out.gown) (by simp)).trans (HF.out.free _)
              have kc := K5.out.chg.cell HF.out.k5 (by simp)
              have hcat := Lib.hid (show strB p.b ++ (strB bs).extract 0 bs.length = strB (p.b ++ bs.take bs.length) from by rw [strB_extract, strB_append]; simp)
              have hov := eq_false (show ¬ 9223372036854775807 < p.b.length + bs.length from by omega)
              have HL := fun v (hv : v = strB (p.b ++ bs.take bs.length)) => Lib.hid (HF.out.left (K5.out.chg.drew) { p with b := p.b ++ bs.take bs.length } 5 (.string v) rfl (by omega) (by rw [hv]; rfl))
              go_wp2_with fail
              go_region_law (fail)
              all_goals
                go_wp2
                go_ret2
                rw [hr.out, if_pos HD.out]
                exact ⟨rfl, (HL _ hcat.out).out⟩
            · have HRN := Lib.hid hrd
              have hrd' : p.readers ≤ 0 := by omega
              clear hrd
              obtain ⟨x0, x1, x2, x3, x4, x5, x6⟩ := K5.out.cells
              go_wp2
              go_ret2
              rw [hr.out, if_neg (by have := HRN.out; omega)]
              exact ⟨rfl, RLeft.same0 HR.out K5.out.chg⟩
          | true =>
            have hr := Lib.hid (show Pi.write s wl id bs = if p.readers = 0 then ((0, 75), s) else if 0 < bs.length ∧ bs.length = 0 then ((0, 63), s) else ((((bs.length : Nat) : Int), 0), { s with ps := Pi.put s.ps id { p with b := p.b ++ bs.take bs.length } }) from by
              unfold Pi.write; rw [HFD.out]; simp [HMAY.out, HFL.out, hse.out, hsame, HRM.out])
            clear hsame
            obtain ⟨x0, x1, x2, x3, x4, x5, x6⟩ := K5.out.cells
            by_cases hrd : p.readers = 0
            · have hrd' : (p.readers == 0) = true := by simpa using hrd
              go_wp2
              go_ret2
              rw [hr.out, if_pos hrd]
              exact ⟨rfl, RLeft.same0 HR.out K5.out.chg⟩
            · have hrd' : (p.readers == 0) = false := by simpa using hrd
              have HRD := Lib.hid hrd
              clear hrd
              by_cases hb0 : bs = []
              · have hr2 := Lib.hid (show Pi.write s wl id bs = ((0, 0), s) from by
                  first
                    | (exfalso; rw [hb0] at hmin; simp at hmin; omega)
                    | (rw [hr.out, if_neg HRD.out, if_neg (by simp [hb0]), hb0]; simp [put_self HR.out.nodup HFD.out]))
                have hE : (strB bs).toList.isEmpty = true := by rw [strB_toList, hb0]; rfl
                clear hb0
                go_wp2
                go_ret2
                rw [hr2.out]
                exact ⟨rfl, RLeft.same0 HR.out K5.out.chg⟩
              · have hE : (strB bs).toList.isEmpty = false := by rw [strB_toList]; simpa using hb0
                have hpos : 0 < bs.length := List.length_pos_iff.2 hb0
                clear hb0
                by_cases hm0 : bs.length = 0
                · have hm1 : ((bs.length : Int) == 0) = true := by rw [beq_iff_eq]; omega
                  have hr2 := Lib.hid (show Pi.write s wl id bs = ((0, 63), s) from by rw [hr.out, if_neg HRD.out, if_pos ⟨hpos, hm0⟩])
                  clear hm0
                  go_wp2
                  go_ret2
                  rw [hr2.out]
                  exact ⟨rfl, RLeft.same0 HR.out K5.out.chg⟩
                · have hm1 : ((bs.length : Int) == 0) = false := by rw [beq_eq_false_iff_ne]; omega
                  have hr2 := Lib.hid (show Pi.write s wl id bs = ((((bs.length : Nat) : Int), 0), { s with ps := Pi.put s.ps id { p with b := p.b ++ bs.take bs.length } }) from by rw [hr.out, if_neg HRD.out, if_neg (fun h => hm0 h.2)])
                  clear hm0 x0 x1 x2 x3 x4 x5 x6
                  obtain ⟨x0, x1, x2, x3, x4, x5, x6⟩ := K5.out.cells
                  have k0 := K5.out.chg.cell HF.out.hd (by simp)
                  have kf := (K5.out.chg.frozenEq (p := ⟨g, i * 6 + 5, none⟩) (HR.out.lt g HF.out.gown) (by simp)).trans (HF.out.free _)
                  have kc := K5.out.chg.cell HF.out.k5 (by simp)
                  have hcat := Lib.hid (show strB p.b ++ (strB bs).extract 0 bs.length = strB (p.b ++ bs.take bs.length) from by rw [strB_extract, strB_append]; simp)
                  have hov := eq_false (show ¬ 9223372036854775807 < p.b.length + bs.length from by omega)
                  have HL := fun v (hv : v = strB (p.b ++ bs.take bs.length)) => Lib.hid (HF.out.left (K5.out.chg.drew) { p with b := p.b ++ bs.take bs.length } 5 (.string v) rfl (by omega) (by rw [hv]; rfl))
                  go_wp2_with fail
                  go_region_law (fail)
                  all_goals
                    go_wp2
                    go_ret2
                    rw [hr2.out]
                    exact ⟨ret2_i64 (by first | rfl | (simp only; omega)) rfl, (HL _ hcat.out).out⟩
        · go_wp2_with fail
          refine (rsame_any a1 n1 c1 a2 n2 c2 wl b1 m1 d1 b2 m2 d2 p.lab _ K4.out.mine K4.out.its).mono ?_
          rintro e w5 ⟨rfl, h5⟩
          have K5 := Lib.hid (K4.out.kept0 h5)
          have hse := Lib.hid (same_eq wl p.lab HMAY.out HM.out)
          clear h5 K4 x0 x1 x2 x3 x4 x5 x6
          have HRM := Lib.hid (show Pi.room p bs.length = (256 - p.b.length) from by unfold Pi.room; omega)
          cases hsame : eqB wl p.lab with
          | false =>
            have hr := Lib.hid (show Pi.write s wl id bs = (((bs.length : Int), 0), if 0 < p.readers then { s with ps := Pi.put s.ps id { p with b := p.b ++ bs.take (256 - p.b.length) } } else s) from by
              unfold Pi.write; rw [HFD.out]; simp [HMAY.out, HFL.out, hse.out, hsame, HRM.out])
            clear hsame
            by_cases hrd : 0 < p.readers
            · have HD := Lib.hid hrd
              obtain ⟨x0, x1, x2, x3, x4, x5, x6⟩ := K5.out.cells
              have k0 := K5.out.chg.cell HF.out.hd (by simp)
              have kf := (K5.out.chg.frozenEq (p := ⟨g, i * 6 + 5, none⟩) (HR.out.lt g HF.out.gown) (by simp)).trans (HF.out.free _)
              have kc := K5.out.chg.cell HF.out.k5 (by simp)
              have hcat := Lib.hid (show strB p.b ++ (strB bs).extract 0 (256 - p.b.length) = strB (p.b ++ bs.take (256 - p.b.length)) from by rw [strB_extract, strB_append]; simp)
              have hov := eq_false (show ¬ 9223372036854775807 < p.b.length + (256 - p.b.length) from by omega)
              have hs1 : (p.b.length : Int) ≤ 256 := by omega
              have hs2 : 256 - (p.b.length : Int) ≤ (bs.length : Int) := by omega
              have hov2 := eq_false (show ¬ 9223372036854775807 < p.b.length + min (256 - p.b.length) bs.length from by omega)
              have HL := fun v (hv : v = strB (p.b ++ bs.take (256 - p.b.length))) => Lib.hid (HF.out.left (K5.out.chg.drew) { p with b := p.b ++ bs.take (256 - p.b.length) } 5 (.string v) rfl (by omega) (by rw [hv]; rfl))
              go_wp2_with fail
              go_region_law (fail)
              all_goals
                go_wp2
                go_ret2
                rw [hr.out, if_pos HD.out]
                exact ⟨rfl, (HL _ hcat.out).out⟩
            · have HRN := Lib.hid hrd
              have hrd' : p.readers ≤ 0 := by omega
              clear hrd
              obtain ⟨x0, x1, x2, x3, x4, x5, x6⟩ := K5.out.cells
              go_wp2
              go_ret2
              rw [hr.out, if_neg (by have := HRN.out; omega)]
              exact ⟨rfl, RLeft.same0 HR.out K5.out.chg⟩
          | true =>
            have hr := Lib.hid (show Pi.write s wl id bs = if p.readers = 0 then ((0, 75), s) else if 0 < bs.length ∧ (256 - p.b.length) = 0 then ((0, 63), s) else (((((256 - p.b.length) : Nat) : Int), 0), { s with ps := Pi.put s.ps id { p with b := p.b ++ bs.take (256 - p.b.length) } }) from by
              unfold Pi.write; rw [HFD.out]; simp [HMAY.out, HFL.out, hse.out, hsame, HRM.out])
            clear hsame
            obtain ⟨x0, x1, x2, x3, x4, x5, x6⟩ := K5.out.cells
            by_cases hrd : p.readers = 0
            · have hrd' : (p.readers == 0) = true := by simpa using hrd
              go_wp2
              go_ret2
              rw [hr.out, if_pos hrd]
              exact ⟨rfl, RLeft.same0 HR.out K5.out.chg⟩
            · have hrd' : (p.readers == 0) = false := by simpa using hrd
              have HRD := Lib.hid hrd
              clear hrd
              by_cases hb0 : bs = []
              · have hr2 := Lib.hid (show Pi.write s wl id bs = ((0, 0), s) from by
                  first
                    | (exfalso; rw [hb0] at hmin; simp at hmin; omega)
                    | (rw [hr.out, if_neg HRD.out, if_neg (by simp [hb0]), hb0]; simp [put_self HR.out.nodup HFD.out]))
                have hE : (strB bs).toList.isEmpty = true := by rw [strB_toList, hb0]; rfl
                clear hb0
                go_wp2
                go_ret2
                rw [hr2.out]
                exact ⟨rfl, RLeft.same0 HR.out K5.out.chg⟩
              · have hE : (strB bs).toList.isEmpty = false := by rw [strB_toList]; simpa using hb0
                have hpos : 0 < bs.length := List.length_pos_iff.2 hb0
                clear hb0
                by_cases hm0 : (256 - p.b.length) = 0
                · have hm1 : (256 - (p.b.length : Int) == 0) = true := by rw [beq_iff_eq]; omega
                  have hr2 := Lib.hid (show Pi.write s wl id bs = ((0, 63), s) from by rw [hr.out, if_neg HRD.out, if_pos ⟨hpos, hm0⟩])
                  clear hm0
                  go_wp2
                  go_ret2
                  rw [hr2.out]
                  exact ⟨rfl, RLeft.same0 HR.out K5.out.chg⟩
                · have hm1 : (256 - (p.b.length : Int) == 0) = false := by rw [beq_eq_false_iff_ne]; omega
                  have hr2 := Lib.hid (show Pi.write s wl id bs = (((((256 - p.b.length) : Nat) : Int), 0), { s with ps := Pi.put s.ps id { p with b := p.b ++ bs.take (256 - p.b.length) } }) from by rw [hr.out, if_neg HRD.out, if_neg (fun h => hm0 h.2)])
                  clear hm0 x0 x1 x2 x3 x4 x5 x6
                  obtain ⟨x0, x1, x2, x3, x4, x5, x6⟩ := K5.out.cells
                  have k0 := K5.out.chg.cell HF.out.hd (by simp)
                  have kf := (K5.out.chg.frozenEq (p := ⟨g, i * 6 + 5, none⟩) (HR.out.lt g HF.out.gown) (by simp)).trans (HF.out.free _)
                  have kc := K5.out.chg.cell HF.out.k5 (by simp)
                  have hcat := Lib.hid (show strB p.b ++ (strB bs).extract 0 (256 - p.b.length) = strB (p.b ++ bs.take (256 - p.b.length)) from by rw [strB_extract, strB_append]; simp)
                  have hov := eq_false (show ¬ 9223372036854775807 < p.b.length + (256 - p.b.length) from by omega)
                  have hs1 : (p.b.length : Int) ≤ 256 := by omega
                  have hs2 : 256 - (p.b.length : Int) ≤ (bs.length : Int) := by omega
                  have hov2 := eq_false (show ¬ 9223372036854775807 < p.b.length + min (256 - p.b.length) bs.length from by omega)
                  have HL := fun v (hv : v = strB (p.b ++ bs.take (256 - p.b.length))) => Lib.hid (HF.out.left (K5.out.chg.drew) { p with b := p.b ++ bs.take (256 - p.b.length) } 5 (.string v) rfl (by omega) (by rw [hv]; rfl))
                  go_wp2_with fail
                  go_region_law (fail)
                  all_goals
                    go_wp2
                    go_ret2
                    rw [hr2.out]
                    exact ⟨ret2_i64 (by first | rfl | (simp only; omega)) rfl, (HL _ hcat.out).out⟩

end Go.Proofs.Ytihkanbkcnonoaa
