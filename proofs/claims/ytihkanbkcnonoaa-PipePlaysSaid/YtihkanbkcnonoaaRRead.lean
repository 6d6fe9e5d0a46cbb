/-
  The document's table, walked: Read.
-/
import Derived.Test.YtihkanbkcnonoaaRKn
namespace Go.Proofs.Ytihkanbkcnonoaa
open Go.RowKit Go.Maps
set_option linter.unusedVariables false

set_option maxHeartbeats 4000000 in
set_option maxRecDepth 100000 in
theorem rread_any (rb : Nat) (own : List Nat) (s : Pi.Tb) (a1 : Option Addr) (n1 c1 : Nat) (a2 : Option Addr) (n2 c2 : Nat) (wl : Pi.Lab) (id : Int) (q : Int) (w : World)
    (h : RefAt w rb own s) (hF : Fine s) (hl : LabAt w a1 n1 c1 a2 n2 c2 wl) :
    Calls Try.prog 21 #[.pointer (some ⟨rb, 0, none⟩), .agg #[.slice a1 n1 c1, .slice a2 n2 c2], .int .i64 id, .int .i64 q] w
      fun e w' => e = .returned (.tuple #[.string (strB (Pi.read s wl id q).1.1), .int .i64 (Pi.read s wl id q).1.2]) ∧ RLeft w w' rb own (Pi.read s wl id q).2 := by
  have hbox := (Chg.refl [] w).alloc (.cells #[.slice a1 n1 c1, .slice a2 n2 c2] 26)
  have HR := Lib.hid h
  have HR1 := Lib.hid (h.kept0 hbox)
  have HB := Lib.hid hbox
  rcases h.focus (id := id) with ⟨hf, hpl⟩ | ⟨p, g, n, cap, i, b1, m1, d1, b2, m2, d2, hf, F⟩
  · have hr := Lib.hid (show Pi.read s wl id q = (([], 61), s) from by unfold Pi.read; rw [hf])
    have HP := Lib.hid hpl
    clear hf hpl h hbox
    go_enter Try.func21, Try.ntmps21
    go_wp2_with fail
    refine (rat_any rb own s id _ HR1.out).mono ?_
    rw [HP.out]
    rintro e w' ⟨rfl, rfl⟩
    go_wp2
    go_ret2
    rw [hr.out]
    exact ⟨rfl, RLeft.same0 HR.out HB.out⟩
  · obtain ⟨hmp, hbl⟩ := hF _ (find_mem hf)
    simp only at hmp hbl
    have hz2 := strB_size p.b
    have HF := Lib.hid F
    have HFD := Lib.hid hf
    have HM := Lib.hid hmp
    have hi0 : (0 : Int) ≤ (i : Int) := by omega
    have hi1 : (i : Int) < (n : Int) := by have := F.lt; omega
    have hi2 := F.lt
    have hcp := F.caps
    have k0 := hbox.cell F.hd (by simp)
    have k1 := hbox.cell F.k0 (by simp)
    have k2 := hbox.cell F.k1 (by simp)
    have k3 := hbox.cell F.k2 (by simp)
    have k4 := hbox.cell F.k3 (by simp)
    have k5 := hbox.cell F.k4 (by simp)
    have k6 := hbox.cell F.k5 (by simp)
    have K0 := Lib.hid (RK.new (id := id) hl F.lab)
    have hgP := Lib.hid (show g ≠ w.heap.size + 1 from by have := HR.out.lt g F.gown; omega)
    clear hf h F hF hl hbox hmp
    go_enter Try.func21, Try.ntmps21
    go_wp2_with fail
    refine (rat_any rb own s id _ HR1.out).mono ?_
    rw [HF.out.place]
    rintro e w' ⟨rfl, rfl⟩
    go_wp2_with fail
    refine (rmay_any a1 n1 c1 a2 n2 c2 wl _ K0.out.mine).mono ?_
    rintro e w3 ⟨rfl, h3⟩
    have K3 := Lib.hid (K0.out.kept0 h3)
    clear h3 K0 k0 k1 k2 k3 k4 k5 k6
    cases hmay : Pi.mayB wl with
    | false =>
      have hr := Lib.hid (show Pi.read s wl id q = (([], 1), s) from by unfold Pi.read; rw [HFD.out]; simp [hmay])
      clear hmay
      go_wp2
      go_ret2
      rw [hr.out]
      exact ⟨rfl, RLeft.same0 HR.out K3.out.chg⟩
    | true =>
      have HMAY := Lib.hid hmay
      clear hmay
      obtain ⟨x0, x1, x2, x3, x4, x5, x6⟩ := K3.out.cells
      by_cases hneg : q < 0
      · have hr := Lib.hid (show Pi.read s wl id q = (([], 1), s) from by unfold Pi.read; rw [HFD.out]; simp [hneg])
        have hn1 : decide (q < 0) = true := decide_eq_true hneg
        go_wp2
        go_ret2
        rw [hr.out]
        exact ⟨rfl, RLeft.same0 HR.out K3.out.chg⟩
      · have hn1 : decide (q < 0) = false := decide_eq_false hneg
        obtain ⟨k, rfl⟩ : ∃ k : Nat, q = k := ⟨q.toNat, by omega⟩
        clear hneg
        go_wp2_with fail
        refine (rsame_any a1 n1 c1 a2 n2 c2 wl b1 m1 d1 b2 m2 d2 p.lab _ K3.out.mine K3.out.its).mono ?_
        rintro e w5 ⟨rfl, h5⟩
        have K5 := Lib.hid (K3.out.kept0 h5)
        have hse := Lib.hid (same_eq wl p.lab HMAY.out HM.out)
        clear h5 K3 x0 x1 x2 x3 x4 x5 x6
        cases hsame : eqB wl p.lab with
        | false =>
          have hr := Lib.hid (show Pi.read s wl id k = (([], 70), s) from by unfold Pi.read; rw [HFD.out]; simp [HMAY.out, hse.out, hsame])
          clear hsame
          go_wp2
          go_ret2
          rw [hr.out]
          exact ⟨rfl, RLeft.same0 HR.out K5.out.chg⟩
        | true =>
          have hr := Lib.hid (show Pi.read s wl id k = if p.b = [] ∧ 0 < k ∧ 0 < p.heirs then (([], 63), s) else ((p.b.take k, 0), { s with ps := Pi.put s.ps id { p with b := p.b.drop k } }) from by
            have e1 : ¬ ((k : Int) < 0) := by omega
            have e2 : (0 < (k : Int)) = (0 < k) := by simp
            unfold Pi.read; rw [HFD.out]
            simp only [HMAY.out, hse.out, hsame, e1, e2, or_self, Bool.true_eq_false, if_false, Int.toNat_natCast])
          clear hsame
          obtain ⟨x0, x1, x2, x3, x4, x5, x6⟩ := K5.out.cells
          by_cases hag : p.b = [] ∧ 0 < k ∧ 0 < p.heirs
          · have hE : (strB p.b).toList.isEmpty = true := by rw [strB_toList, hag.1]; rfl
            have hr2 := Lib.hid (hr.out.trans (if_pos hag))
            have hk : (0 : Int) < (k : Int) := by omega
            have hh : 0 < p.heirs := hag.2.2
            have hd1 : decide (0 < k) = true := decide_eq_true hag.2.1
            have hd2 : decide (0 < p.heirs) = true := decide_eq_true hh
            clear hag
            go_wp2
            go_ret2
            rw [hr2.out]
            exact ⟨rfl, RLeft.same0 HR.out K5.out.chg⟩
          · have hr2 := Lib.hid (hr.out.trans (if_neg hag))
            have k0 := K5.out.chg.cell HF.out.hd (by simp)
            have kf := (K5.out.chg.frozenEq (p := ⟨g, i * 6 + 5, none⟩) (HR.out.lt g HF.out.gown) (by simp)).trans (HF.out.free _)
            have kc := K5.out.chg.cell HF.out.k5 (by simp)
            have hgp1 := hgP.out
            have hgp2 : w.heap.size + 1 ≠ g := fun e => hgP.out e.symm
            have HL := fun v (hv : v = strB (p.b.drop k)) => Lib.hid (HF.out.left (K5.out.chg.drew) { p with b := p.b.drop k } 5 (.string v) rfl (by omega) (by rw [hv]; rfl))
            by_cases hmin : k ≤ p.b.length
            · have hki : (k : Int) ≤ (p.b.length : Int) := by omega
              have hcut := Lib.hid (show (strB p.b).extract k p.b.length = strB (p.b.drop k) from by rw [strB_extract, List.take_of_length_le (by simp)])
              have hcut0 := Lib.hid (show (strB p.b).extract 0 k = strB (p.b.take k) from by rw [strB_extract]; simp)
              by_cases hb0 : p.b = []
              · have hE : (strB p.b).toList.isEmpty = true := by rw [strB_toList, hb0]; rfl
                by_cases hk0 : 0 < k
                · have hd1 : decide (0 < k) = true := decide_eq_true hk0
                  have hd2 : decide (0 < p.heirs) = false := decide_eq_false (fun h => hag ⟨hb0, hk0, h⟩)
                  clear hag hb0
                  go_wp2_with fail
                  go_region_law (fail)
                  all_goals
                    go_wp2
                    go_ret2
                    rw [hr2.out]
                    exact ⟨ret2_sv (by first | exact hcut0.out | (rw [strB_extract]; congr 1; simp; try omega)) rfl, (HL _ (by first | exact hcut.out | exact hcutE.out | (rw [strB_extract]; congr 1; simp; try omega))).out⟩
                · have hd1 : decide (0 < k) = false := decide_eq_false hk0
                  clear hag hb0
                  go_wp2_with fail
                  go_region_law (fail)
                  all_goals
                    go_wp2
                    go_ret2
                    rw [hr2.out]
                    exact ⟨ret2_sv (by first | exact hcut0.out | (rw [strB_extract]; congr 1; simp; try omega)) rfl, (HL _ (by first | exact hcut.out | exact hcutE.out | (rw [strB_extract]; congr 1; simp; try omega))).out⟩
              · have hE : (strB p.b).toList.isEmpty = false := by rw [strB_toList]; simpa using hb0
                clear hag hb0
                go_wp2_with fail
                go_region_law (fail)
                all_goals
                  go_wp2
                  go_ret2
                  rw [hr2.out]
                  exact ⟨ret2_sv (by first | exact hcut0.out | (rw [strB_extract]; congr 1; simp; try omega)) rfl, (HL _ (by first | exact hcut.out | exact hcutE.out | (rw [strB_extract]; congr 1; simp; try omega))).out⟩
            · have hcut := Lib.hid (show (strB p.b).extract p.b.length p.b.length = strB (p.b.drop k) from by rw [strB_extract, List.drop_of_length_le (by omega), List.drop_of_length_le (by omega), List.take_nil])
              have hcutE := Lib.hid (show ByteArray.empty = strB (p.b.drop k) from by rw [List.drop_of_length_le (by omega)]; rfl)
              have hcut0 := Lib.hid (show (strB p.b).extract 0 p.b.length = strB (p.b.take k) from by rw [strB_extract, List.take_of_length_le (by simp), List.take_of_length_le (by omega)]; rfl)
              by_cases hb0 : p.b = []
              · have hE : (strB p.b).toList.isEmpty = true := by rw [strB_toList, hb0]; rfl
                by_cases hk0 : 0 < k
                · have hd1 : decide (0 < k) = true := decide_eq_true hk0
                  have hd2 : decide (0 < p.heirs) = false := decide_eq_false (fun h => hag ⟨hb0, hk0, h⟩)
                  clear hag hb0
                  go_wp2_with fail
                  go_region_law (fail)
                  all_goals
                    go_wp2
                    go_ret2
                    rw [hr2.out]
                    exact ⟨ret2_sv (by first | exact hcut0.out | (rw [strB_extract]; congr 1; simp; try omega)) rfl, (HL _ (by first | exact hcut.out | exact hcutE.out | (rw [strB_extract]; congr 1; simp; try omega))).out⟩
                · exfalso; omega
              · have hE : (strB p.b).toList.isEmpty = false := by rw [strB_toList]; simpa using hb0
                clear hag hb0
                go_wp2_with fail
                go_region_law (fail)
                all_goals
                  go_wp2
                  go_ret2
                  rw [hr2.out]
                  exact ⟨ret2_sv (by first | exact hcut0.out | (rw [strB_extract]; congr 1; simp; try omega)) rfl, (HL _ (by first | exact hcut.out | exact hcutE.out | (rw [strB_extract]; congr 1; simp; try omega))).out⟩

end Go.Proofs.Ytihkanbkcnonoaa
