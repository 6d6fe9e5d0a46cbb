/-
  pipe.Write, walked.
-/
import Derived.Test.YtihkanbkcnonoaaKnown
import Derived.Deep.RegionLaw
namespace Go.Proofs.Ytihkanbkcnonoaa
open Go.RowKit Go.Maps
set_option linter.unusedVariables false

set_option maxHeartbeats 4000000 in
theorem write_any (t : Nat) (own : List Nat) (s : Pi.Tb) (a1 : Option Addr) (n1 c1 : Nat) (a2 : Option Addr) (n2 c2 : Nat) (wl : Pi.Lab) (id : Int) (ab : Option Addr) (nb cb : Nat) (bs : List UInt8) (w : World)
    (h : Tab w t own s) (hw : (Lit.int .i64 id).wf = true) (hF : Fine s) (hl : LabAt w a1 n1 c1 a2 n2 c2 wl) (hsrc : SrcAt w ab (bs.map byteV)) (hnb : bs.length = nb) (hcb : nb ≤ cb) (hcm : cb ≤ maxLen) :
    Calls Try.prog 10 #[.pointer (some ⟨t, 0, none⟩), .agg #[.slice a1 n1 c1, .slice a2 n2 c2], .int .i64 id, .slice ab nb cb] w
      fun e w' => e = .returned (.tuple #[.int .i64 (Pi.write s wl id bs).1.1, .int .i64 (Pi.write s wl id bs).1.2]) ∧ Left1 w w' t own (Pi.write s wl id bs).2 := by
  obtain ⟨i0, hi, hz0, hz1, hz2⟩ := info_parts Try.infoByte
  have hbox := (Chg.refl [] w).alloc (.cells #[.slice a1 n1 c1, .slice a2 n2 c2] 26)
  have h' := h.kept0 hbox
  obtain ⟨mb, ht, hm, hto, htm, hcase⟩ := h'.focus hw
  have hc0 := cell_of_obj ht (j := 0) rfl
  have HL := Lib.hid (hl.kept0 hbox)
  have HB := Lib.hid hbox
  have HT := Lib.hid h'
  have hcm' : cb ≤ 9223372036854775807 := by unfold maxLen at hcm; exact hcm
  clear h hbox h' hcm
  rcases hcase with ⟨hf, hlook⟩ | ⟨pb, po, p, hlook, F⟩
  · have hr := Lib.hid (show Pi.write s wl id bs = ((0, 61), s) from by unfold Pi.write; rw [hf])
    clear hf ht
    go_enter Try.func10, Try.ntmps10
    go_wp2
    go_ret2
    rw [hr.out]
    exact ⟨rfl, left_same HT.out HB.out (Chg.refl _ _)⟩
  · have hfound := Lib.hid F.found
    have hfine := hF _ (find_mem F.found)
    obtain ⟨hmp, hbl⟩ := hfine
    simp only at hmp hbl
    have hpl := may_len hmp
    obtain ⟨s1, k1, e1, s2, k2, e2, vb, hobj, hrs, hri, hrb, hpo⟩ := F.at_
    obtain ⟨av, cv, rfl, hcv1, hcv2⟩ := hrb.shape
    have hk : Known (w.alloc (.cells #[.slice a1 n1 c1, .slice a2 n2 c2] 26)) w.heap.size pb a1 n1 c1 a2 n2 c2 wl s1 k1 e1 s2 k2 e2 av cv p ab bs :=
      ⟨cell_of_obj (obj_alloc_new w _) rfl, cell_of_obj (obj_alloc_new w _) rfl, hobj, HL.out, hrs, hri, hrb, hsrc.alloc _⟩
    have K0 := Lib.hid hk
    have hks : k1 ≤ 16 ∧ k2 ≤ 16 := by
      have h1 := hrs.nums.1
      have h2 := hri.nums.1
      omega
    have hsub := Lib.hid F.sub
    have hput := Lib.hid F.put
    have hnd := Lib.hid F.nodup
    have HP := Lib.hid hpo
    have HM := Lib.hid hmp
    have HV := Lib.hid (show pb ∉ rowBlock (.slice av p.b.length cv) from by
      have := hnd.out
      rw [hpo] at this
      simp only [List.nodup_cons, List.mem_append, not_or] at this
      exact this.1.2)
    clear ht F hobj hrs hri hrb hpo hk hl hsrc hmp hpl
    go_enter Try.func10, Try.ntmps10
    go_wp2_with fail
    refine (may_any a1 n1 c1 a2 n2 c2 wl _ HL.out).mono ?_
    rintro e w1 ⟨rfl, h1⟩
    have K1 := Lib.hid (K0.out.kept0 h1)
    have B1 := Lib.hid h1
    clear K0 h1 HL
    cases hmay : Pi.mayB wl with
    | false =>
      have hr := Lib.hid (show Pi.write s wl id bs = ((0, 1), s) from by unfold Pi.write; rw [hfound.out]; simp [hmay])
      clear hmay
      go_wp2
      go_ret2
      rw [hr.out]
      exact ⟨rfl, left_same HT.out HB.out B1.out⟩
    | true =>
      have hn1 : n1 ≤ 16 ∧ n2 ≤ 16 := by
        have h1 := may_len hmay
        have h2 := K1.out.mine.s.1
        have h3 := K1.out.mine.i.1
        omega
      have HMAY := Lib.hid hmay
      clear hmay
      obtain ⟨x0, x1, x2, x3, x4, x5, x6, x7⟩ := K1.out.cells
      go_wp2_with fail
      go_region_held3 (fun w' => w'.cell? ⟨w.heap.size, 0, none⟩ = some (.slice a1 n1 c1) ∧ w'.cell? ⟨w.heap.size, 1, none⟩ = some (.slice a2 n2 c2) ∧ w'.cell? ⟨pb, 0, none⟩ = some (.slice s1 k1 e1) ∧ w'.cell? ⟨pb, 1, none⟩ = some (.slice s2 k2 e2))
        (first | exact ⟨x0, x1, x2, x3⟩ | exact ⟨h2.cell x0 (by simp), h2.cell x1 (by simp), h2.cell x2 (by simp), h2.cell x3 (by simp)⟩)
        ((go_at_call 25; refine (flows_any a1 n1 c1 a2 n2 c2 wl s1 k1 e1 s2 k2 e2 p.lab _ K1.out.drew.mine K1.out.drew.its hn1.1 hks.2).mono ?_; rintro e w2 ⟨rfl, h2⟩))
      have K2 := Lib.hid (K1.out.drew.kept0 h2)
      have B2 := Lib.hid (B1.out.drew.then0 h2)
      clear K1 B1 h2 x0 x1 x2 x3 x4 x5 x6 x7
      cases hflow : Pi.flowsB wl p.lab with
      | false =>
        have hr := Lib.hid (show Pi.write s wl id bs = ((0, 70), s) from by unfold Pi.write; rw [hfound.out]; simp [HMAY.out, hflow])
        clear hflow
        go_wp2
        go_ret2
        rw [hr.out]
        exact ⟨rfl, left_same HT.out HB.out B2.out⟩
      | true =>
        have HFL := Lib.hid hflow
        clear hflow
        obtain ⟨x0, x1, x2, x3, x4, x5, x6, x7⟩ := K2.out.cells
        by_cases hmin : nb + p.b.length ≤ 256
        · have i4 : (0 : Int) ≤ (nb : Int) := by omega
          have i1 : (0 : Int) ≤ (nb : Int) := by omega
          have i2 : (nb : Int) ≤ (cb : Int) := by omega
          have i3 : (p.b.length : Int) ≤ 256 := by omega
          go_wp2_with fail
          go_region_held3 (fun w' => w'.cell? ⟨w.heap.size, 0, none⟩ = some (.slice a1 n1 c1) ∧ w'.cell? ⟨w.heap.size, 1, none⟩ = some (.slice a2 n2 c2) ∧ w'.cell? ⟨pb, 0, none⟩ = some (.slice s1 k1 e1) ∧ w'.cell? ⟨pb, 1, none⟩ = some (.slice s2 k2 e2))
            (first | exact ⟨x0, x1, x2, x3⟩ | exact ⟨h3.cell x0 (by simp), h3.cell x1 (by simp), h3.cell x2 (by simp), h3.cell x3 (by simp)⟩)
            ((go_at_call 26; refine (same_any a1 n1 c1 a2 n2 c2 wl s1 k1 e1 s2 k2 e2 p.lab _ K2.out.drew.mine K2.out.drew.its hn1.1 hn1.2 hks.1 hks.2).mono ?_; rintro e w3 ⟨rfl, h3⟩))
          have K3 := Lib.hid (K2.out.drew.kept0 h3)
          have B3 := Lib.hid (B2.out.drew.then0 h3)
          clear K2 B2 h3 x0 x1 x2 x3 x4 x5 x6 x7
          obtain ⟨x0, x1, x2, x3, x4, x5, x6, x7⟩ := K3.out.cells
          cases hsame : Pi.sameB wl p.lab with
          | false =>
            have hr := Lib.hid (show Pi.write s wl id bs = (((bs.length : Int), 0), if 0 < p.readers then { s with ps := Pi.put s.ps id { p with b := p.b ++ bs.take (Pi.room p bs.length) } } else s) from by
              unfold Pi.write; rw [hfound.out]; simp [HMAY.out, HFL.out, hsame])
            clear hsame
            by_cases hrd : 0 < p.readers
            · go_wp2_with fail
              go_region_law ((refine step_append_row (by rfl) _ _ 31 (by rfl) 5 i0 (.int .u8 0) 1 1 Try.underlying31 hi hz0 hz1 hz2 (by rfl) (by decide) _ p.b.length (p.b.map byteV) (by rfl) K3.out.drew.rb _ _ _ ((bs.take (Pi.room p bs.length)).map byteV) (by rfl) (by simp [Pi.room]; omega) (by rw [List.map_take]; exact K3.out.drew.src.take _) (bytes_one _ _) (by unfold maxLen; omega) (by omega) ?_; intro v' w4 r1 r2 r3; obtain ⟨av', nn, cv', rfl, hnn⟩ := r1.shape3; have y4 := cell_of_obj (r2.obj K3.out.drew.obj HV.out) (j := 2) rfl; have y7 := free_of_obj (r2.obj K3.out.drew.obj HV.out) 2))
              have e1 : (p.b ++ bs.take (Pi.room p bs.length)).length = p.b.length + nb := by rw [List.length_append, List.length_take]; simp [Pi.room]; omega
              have E1 := Lib.hid e1
              have r4 := Lib.hid (show Row w4 5 1 (.slice av' nn cv') (p.b ++ bs.take (Pi.room p bs.length)).length ((p.b ++ bs.take (Pi.room p bs.length)).map byteV) from by rw [e1, List.map_append]; exact r1)
              have r5 := Lib.hid r2
              have r6 := Lib.hid r3
              clear r1 r2 r3 e1
              go_wp2
              go_ret2
              rw [hr.out, if_pos hrd]
              obtain ⟨po', q1, q2, q3, q4⟩ := K3.out.drew.stored HP.out hnd.out r5.out _ _ r4.out r6.out
              exact ⟨ret2_i64 (by rw [hnb]) rfl, left_put hput.out HB.out B3.out.drew hsub.out q1 q2 q3 q4⟩
            · go_wp2
              go_ret2
              rw [hr.out, if_neg (by omega)]
              exact ⟨ret2_i64 (by rw [hnb]) rfl, left_same HT.out HB.out B3.out⟩
          | true =>
            have hr := Lib.hid (show Pi.write s wl id bs = if p.readers = 0 then ((0, 75), s) else if 0 < bs.length ∧ Pi.room p bs.length = 0 then ((0, 63), s) else (((Pi.room p bs.length : Int), 0), { s with ps := Pi.put s.ps id { p with b := p.b ++ bs.take (Pi.room p bs.length) } }) from by
              unfold Pi.write; rw [hfound.out]; simp [HMAY.out, HFL.out, hsame])
            clear hsame
            by_cases hrd : p.readers = 0
            · have hz : (p.readers == 0) = true := by simpa using hrd
              have HR := Lib.hid hrd
              clear hrd
              go_wp2
              go_ret2
              rw [hr.out, if_pos HR.out]
              exact ⟨rfl, left_same HT.out HB.out B3.out⟩
            · have hz : (p.readers == 0) = false := by simpa using hrd
              have HR := Lib.hid hrd
              clear hrd
              have HU := Lib.hid (show ¬ (0 < bs.length ∧ Pi.room p bs.length = 0) from by unfold Pi.room; omega)
              by_cases hn0 : nb = 0
              · have hy1 : ¬ (0 : Int) < (nb : Int) := by omega
                clear hn0
                go_wp2_with fail
                go_region_law ((refine step_append_row (by rfl) _ _ 31 (by rfl) 5 i0 (.int .u8 0) 1 1 Try.underlying31 hi hz0 hz1 hz2 (by rfl) (by decide) _ p.b.length (p.b.map byteV) (by rfl) K3.out.drew.rb _ _ _ ((bs.take (Pi.room p bs.length)).map byteV) (by rfl) (by simp [Pi.room]; omega) (by rw [List.map_take]; exact K3.out.drew.src.take _) (bytes_one _ _) (by unfold maxLen; omega) (by omega) ?_; intro v' w4 r1 r2 r3; obtain ⟨av', nn, cv', rfl, hnn⟩ := r1.shape3; have y4 := cell_of_obj (r2.obj K3.out.drew.obj HV.out) (j := 2) rfl; have y7 := free_of_obj (r2.obj K3.out.drew.obj HV.out) 2))
                have e1 : (p.b ++ bs.take (Pi.room p bs.length)).length = p.b.length + nb := by rw [List.length_append, List.length_take]; simp [Pi.room]; omega
                have E1 := Lib.hid e1
                have r4 := Lib.hid (show Row w4 5 1 (.slice av' nn cv') (p.b ++ bs.take (Pi.room p bs.length)).length ((p.b ++ bs.take (Pi.room p bs.length)).map byteV) from by rw [e1, List.map_append]; exact r1)
                have r5 := Lib.hid r2
                have r6 := Lib.hid r3
                clear r1 r2 r3 e1
                go_wp2
                go_ret2
                rw [hr.out, if_neg HR.out, if_neg HU.out]
                obtain ⟨po', q1, q2, q3, q4⟩ := K3.out.drew.stored HP.out hnd.out r5.out _ _ r4.out r6.out
                exact ⟨ret2_i64 (by simp [Pi.room]; omega) rfl, left_put hput.out HB.out B3.out.drew hsub.out q1 q2 q3 q4⟩
              · have hy1 : (0 : Int) < (nb : Int) := by omega
                have hy2 : ((nb : Int) == 0) = false := by rw [beq_eq_false_iff_ne]; omega
                clear hn0
                go_wp2_with fail
                go_region_law ((refine step_append_row (by rfl) _ _ 31 (by rfl) 5 i0 (.int .u8 0) 1 1 Try.underlying31 hi hz0 hz1 hz2 (by rfl) (by decide) _ p.b.length (p.b.map byteV) (by rfl) K3.out.drew.rb _ _ _ ((bs.take (Pi.room p bs.length)).map byteV) (by rfl) (by simp [Pi.room]; omega) (by rw [List.map_take]; exact K3.out.drew.src.take _) (bytes_one _ _) (by unfold maxLen; omega) (by omega) ?_; intro v' w4 r1 r2 r3; obtain ⟨av', nn, cv', rfl, hnn⟩ := r1.shape3; have y4 := cell_of_obj (r2.obj K3.out.drew.obj HV.out) (j := 2) rfl; have y7 := free_of_obj (r2.obj K3.out.drew.obj HV.out) 2))
                have e1 : (p.b ++ bs.take (Pi.room p bs.length)).length = p.b.length + nb := by rw [List.length_append, List.length_take]; simp [Pi.room]; omega
                have E1 := Lib.hid e1
                have r4 := Lib.hid (show Row w4 5 1 (.slice av' nn cv') (p.b ++ bs.take (Pi.room p bs.length)).length ((p.b ++ bs.take (Pi.room p bs.length)).map byteV) from by rw [e1, List.map_append]; exact r1)
                have r5 := Lib.hid r2
                have r6 := Lib.hid r3
                clear r1 r2 r3 e1
                go_wp2
                go_ret2
                rw [hr.out, if_neg HR.out, if_neg HU.out]
                obtain ⟨po', q1, q2, q3, q4⟩ := K3.out.drew.stored HP.out hnd.out r5.out _ _ r4.out r6.out
                exact ⟨ret2_i64 (by simp [Pi.room]; omega) rfl, left_put hput.out HB.out B3.out.drew hsub.out q1 q2 q3 q4⟩
        · have i4 : 256 - (p.b.length : Int) ≤ (cb : Int) := by omega
          have i1 : (0 : Int) ≤ (nb : Int) := by omega
          have i2 : (nb : Int) ≤ (cb : Int) := by omega
          have i3 : (p.b.length : Int) ≤ 256 := by omega
          go_wp2_with fail
          go_region_held3 (fun w' => w'.cell? ⟨w.heap.size, 0, none⟩ = some (.slice a1 n1 c1) ∧ w'.cell? ⟨w.heap.size, 1, none⟩ = some (.slice a2 n2 c2) ∧ w'.cell? ⟨pb, 0, none⟩ = some (.slice s1 k1 e1) ∧ w'.cell? ⟨pb, 1, none⟩ = some (.slice s2 k2 e2))
            (first | exact ⟨x0, x1, x2, x3⟩ | exact ⟨h3.cell x0 (by simp), h3.cell x1 (by simp), h3.cell x2 (by simp), h3.cell x3 (by simp)⟩)
            ((go_at_call 26; refine (same_any a1 n1 c1 a2 n2 c2 wl s1 k1 e1 s2 k2 e2 p.lab _ K2.out.drew.mine K2.out.drew.its hn1.1 hn1.2 hks.1 hks.2).mono ?_; rintro e w3 ⟨rfl, h3⟩))
          have K3 := Lib.hid (K2.out.drew.kept0 h3)
          have B3 := Lib.hid (B2.out.drew.then0 h3)
          clear K2 B2 h3 x0 x1 x2 x3 x4 x5 x6 x7
          obtain ⟨x0, x1, x2, x3, x4, x5, x6, x7⟩ := K3.out.cells
          cases hsame : Pi.sameB wl p.lab with
          | false =>
            have hr := Lib.hid (show Pi.write s wl id bs = (((bs.length : Int), 0), if 0 < p.readers then { s with ps := Pi.put s.ps id { p with b := p.b ++ bs.take (Pi.room p bs.length) } } else s) from by
              unfold Pi.write; rw [hfound.out]; simp [HMAY.out, HFL.out, hsame])
            clear hsame
            by_cases hrd : 0 < p.readers
            · go_wp2_with fail
              go_region_law ((refine step_append_row (by rfl) _ _ 31 (by rfl) 5 i0 (.int .u8 0) 1 1 Try.underlying31 hi hz0 hz1 hz2 (by rfl) (by decide) _ p.b.length (p.b.map byteV) (by rfl) K3.out.drew.rb _ _ _ ((bs.take (Pi.room p bs.length)).map byteV) (by rfl) (by simp [Pi.room]; omega) (by rw [List.map_take]; exact K3.out.drew.src.take _) (bytes_one _ _) (by unfold maxLen; omega) (by omega) ?_; intro v' w4 r1 r2 r3; obtain ⟨av', nn, cv', rfl, hnn⟩ := r1.shape3; have y4 := cell_of_obj (r2.obj K3.out.drew.obj HV.out) (j := 2) rfl; have y7 := free_of_obj (r2.obj K3.out.drew.obj HV.out) 2))
              have e1 : (p.b ++ bs.take (Pi.room p bs.length)).length = p.b.length + (256 - p.b.length) := by rw [List.length_append, List.length_take]; simp [Pi.room]; omega
              have E1 := Lib.hid e1
              have r4 := Lib.hid (show Row w4 5 1 (.slice av' nn cv') (p.b ++ bs.take (Pi.room p bs.length)).length ((p.b ++ bs.take (Pi.room p bs.length)).map byteV) from by rw [e1, List.map_append]; exact r1)
              have r5 := Lib.hid r2
              have r6 := Lib.hid r3
              clear r1 r2 r3 e1
              go_wp2
              go_ret2
              rw [hr.out, if_pos hrd]
              obtain ⟨po', q1, q2, q3, q4⟩ := K3.out.drew.stored HP.out hnd.out r5.out _ _ r4.out r6.out
              exact ⟨ret2_i64 (by rw [hnb]) rfl, left_put hput.out HB.out B3.out.drew hsub.out q1 q2 q3 q4⟩
            · go_wp2
              go_ret2
              rw [hr.out, if_neg (by omega)]
              exact ⟨ret2_i64 (by rw [hnb]) rfl, left_same HT.out HB.out B3.out⟩
          | true =>
            have hr := Lib.hid (show Pi.write s wl id bs = if p.readers = 0 then ((0, 75), s) else if 0 < bs.length ∧ Pi.room p bs.length = 0 then ((0, 63), s) else (((Pi.room p bs.length : Int), 0), { s with ps := Pi.put s.ps id { p with b := p.b ++ bs.take (Pi.room p bs.length) } }) from by
              unfold Pi.write; rw [hfound.out]; simp [HMAY.out, HFL.out, hsame])
            clear hsame
            by_cases hrd : p.readers = 0
            · have hz : (p.readers == 0) = true := by simpa using hrd
              have HR := Lib.hid hrd
              clear hrd
              go_wp2
              go_ret2
              rw [hr.out, if_pos HR.out]
              exact ⟨rfl, left_same HT.out HB.out B3.out⟩
            · have hz : (p.readers == 0) = false := by simpa using hrd
              have HR := Lib.hid hrd
              clear hrd
              have hy1 : (0 : Int) < (nb : Int) := by omega
              by_cases hfull : p.b.length = 256
              · have hy2 : ((256 - (p.b.length : Int)) == 0) = true := by rw [beq_iff_eq]; omega
                have HU := Lib.hid (show 0 < bs.length ∧ Pi.room p bs.length = 0 from by unfold Pi.room; omega)
                clear hfull
                go_wp2
                go_ret2
                rw [hr.out, if_neg HR.out, if_pos HU.out]
                exact ⟨rfl, left_same HT.out HB.out B3.out⟩
              · have hy2 : ((256 - (p.b.length : Int)) == 0) = false := by rw [beq_eq_false_iff_ne]; omega
                have HU := Lib.hid (show ¬ (0 < bs.length ∧ Pi.room p bs.length = 0) from by unfold Pi.room; omega)
                clear hfull
                go_wp2_with fail
                go_region_law ((refine step_append_row (by rfl) _ _ 31 (by rfl) 5 i0 (.int .u8 0) 1 1 Try.underlying31 hi hz0 hz1 hz2 (by rfl) (by decide) _ p.b.length (p.b.map byteV) (by rfl) K3.out.drew.rb _ _ _ ((bs.take (Pi.room p bs.length)).map byteV) (by rfl) (by simp [Pi.room]; omega) (by rw [List.map_take]; exact K3.out.drew.src.take _) (bytes_one _ _) (by unfold maxLen; omega) (by omega) ?_; intro v' w4 r1 r2 r3; obtain ⟨av', nn, cv', rfl, hnn⟩ := r1.shape3; have y4 := cell_of_obj (r2.obj K3.out.drew.obj HV.out) (j := 2) rfl; have y7 := free_of_obj (r2.obj K3.out.drew.obj HV.out) 2))
                have e1 : (p.b ++ bs.take (Pi.room p bs.length)).length = p.b.length + (256 - p.b.length) := by rw [List.length_append, List.length_take]; simp [Pi.room]; omega
                have E1 := Lib.hid e1
                have r4 := Lib.hid (show Row w4 5 1 (.slice av' nn cv') (p.b ++ bs.take (Pi.room p bs.length)).length ((p.b ++ bs.take (Pi.room p bs.length)).map byteV) from by rw [e1, List.map_append]; exact r1)
                have r5 := Lib.hid r2
                have r6 := Lib.hid r3
                clear r1 r2 r3 e1
                go_wp2
                go_ret2
                rw [hr.out, if_neg HR.out, if_neg HU.out]
                obtain ⟨po', q1, q2, q3, q4⟩ := K3.out.drew.stored HP.out hnd.out r5.out _ _ r4.out r6.out
                exact ⟨ret2_i64 (by simp [Pi.room]; omega) rfl, left_put hput.out HB.out B3.out.drew hsub.out q1 q2 q3 q4⟩

end Go.Proofs.Ytihkanbkcnonoaa
