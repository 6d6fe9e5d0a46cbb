/-
  pipe.Drop, walked.
-/
import Derived.Test.YtihkanbkcnonoaaOps
namespace Go.Proofs.Ytihkanbkcnonoaa
open Go.RowKit Go.Maps
set_option linter.unusedVariables false

set_option maxHeartbeats 4000000 in
theorem drop_any (t : Nat) (own : List Nat) (s : Pi.Tb) (id : Int) (write : Bool) (N : Nat) (w : World) (h : Tab w t own s) (hw : (Lit.int .i64 id).wf = true) (hN : Counts N s) (hN2 : N ≤ 1000000) :
    Calls Try.prog 12 #[.pointer (some ⟨t, 0, none⟩), .int .i64 id, .bool write] w fun e w' => e = .returned (.int .i64 (Pi.drop s id write).1) ∧ Left1 w w' t own (Pi.drop s id write).2 := by
  obtain ⟨mb, ht, hm, hto, htm, hcase⟩ := h.focus hw
  have hc0 := cell_of_obj ht (j := 0) rfl
  rcases hcase with ⟨hf, hlook⟩ | ⟨pb, po, p, hlook, F⟩
  · have hr := Lib.hid (show Pi.drop s id write = (61, s) from by unfold Pi.drop; rw [hf])
    clear hf ht
    go_enter Try.func12, Try.ntmps12
    go_wp2
    go_ret
    rw [hr.out]
    exact ⟨rfl, own, h, fun k hk => .inl hk, Chg.refl _ _⟩
  · obtain ⟨k3, k4, f3, f4⟩ := F.at_.counts
    have hb := hN _ (find_mem F.found)
    simp only at hb
    have hfound := Lib.hid F.found
    have hsub := Lib.hid F.sub
    have hput := Lib.hid F.put
    have hdel := Lib.hid F.del
    have hra := Lib.hid (F.at_.raise F.nodup)
    have hhd := Lib.hid F.at_.head
    have hnd := Lib.hid F.nodup
    have htne : ¬ t = pb := fun e => F.tne (e ▸ F.at_.head)
    have hdok := fun (off : Nat) (v : Value) => F.delOk [pb] (w.setCell ⟨pb, off, none⟩ v) 0 ((Chg.refl [pb] w).setCell _ _ (by simp)) (by simpa using hhd.out)
    clear F
    have HDOK := Lib.hid hdok
    clear hdok
    cases write with
    | false =>
      have hr := Lib.hid (show Pi.drop s id false = if p.readers = 0 then (61, s) else if p.readers - 1 = 0 ∧ p.heirs = 0 then (0, { s with ps := Pi.del s.ps id }) else (0, { s with ps := Pi.put s.ps id { p with readers := p.readers - 1 } }) from by
        unfold Pi.drop; rw [hfound.out]; rfl)
      by_cases h0 : p.readers = 0
      · have hz : (p.readers == 0) = true := by simpa using h0
        have H0 := Lib.hid h0
        clear h0 ht
        go_enter Try.func12, Try.ntmps12
        go_wp2_with (go_at_call 29; refine (end_any pb 0 _ _).mono ?_; rintro e w' ⟨rfl, rfl⟩)
        go_ret
        rw [hr.out, if_pos H0.out]
        exact ⟨rfl, own, h, fun k hk => .inl hk, Chg.refl _ _⟩
      · have hz : (p.readers == 0) = false := by simpa using h0
        have H0 := Lib.hid h0
        clear h0 ht
        have hch := Lib.hid ((Chg.refl [pb] w).setCell ⟨pb, 3, none⟩ (.int .i64 (p.readers - 1)) (by simp))
        by_cases hl1 : p.readers - 1 = 0
        · by_cases hl2 : p.heirs = 0
          · have hz1 : (p.readers - 1 == 0) = true := by simpa using hl1
            have hz2 : (p.heirs == 0) = true := by simpa using hl2
            obtain ⟨w2, hrun⟩ := HDOK.out 3 (.int .i64 (p.readers - 1))
            obtain ⟨⟨own', hd1, hd2⟩, hd3⟩ := hdel.out [pb] _ _ 0 hch.out (by simpa using hhd.out) hrun
            have HD1 := Lib.hid hd1
            have HD2 := Lib.hid hd2
            have HD3 := Lib.hid hd3
            have HL := Lib.hid (And.intro hl1 hl2)
            clear hl1 hl2 hd1 hd2 hd3
            go_enter Try.func12, Try.ntmps12
            go_wp2_with (go_at_call 29; refine (end_any pb 0 _ _).mono ?_; rintro e w' ⟨rfl, rfl⟩)
            go_ret
            rw [hr.out, if_neg H0.out, if_pos HL.out]
            exact ⟨rfl, own', HD1.out, fun k hk => .inl (HD2.out k hk), HD3.out.mono (fun x hx => .inl (by
              simp at hx
              rcases hx with rfl | rfl
              · exact hm
              · exact hsub.out _ hhd.out))⟩
          · have hz1 : (p.readers - 1 == 0) = true := by simpa using hl1
            have hz2 : (p.heirs == 0) = false := by simpa using hl2
            have HL := Lib.hid (show ¬ (p.readers - 1 = 0 ∧ p.heirs = 0) from fun h => hl2 h.2)
            clear hl1 hl2
            go_enter Try.func12, Try.ntmps12
            go_wp2_with (go_at_call 29; refine (end_any pb 0 _ _).mono ?_; rintro e w' ⟨rfl, rfl⟩)
            go_ret
            rw [hr.out, if_neg H0.out, if_neg HL.out]
            obtain ⟨own', h1, h2⟩ := hput.out [pb] _ _ po hch.out (by simpa using hhd.out) (hra.out _).2 hnd.out (fun k hk => .inl hk)
            exact ⟨rfl, own', h1, fun k hk => (h2 k hk).elim .inl (fun h => .inl (hsub.out k h)), hch.out.mono (fun x hx => .inl (by simp at hx; subst hx; exact hsub.out _ hhd.out))⟩
        · have hz1 : (p.readers - 1 == 0) = false := by simpa using hl1
          have HL := Lib.hid (show ¬ (p.readers - 1 = 0 ∧ p.heirs = 0) from fun h => hl1 h.1)
          clear hl1
          go_enter Try.func12, Try.ntmps12
          go_wp2_with (go_at_call 29; refine (end_any pb 0 _ _).mono ?_; rintro e w' ⟨rfl, rfl⟩)
          go_ret
          rw [hr.out, if_neg H0.out, if_neg HL.out]
          obtain ⟨own', h1, h2⟩ := hput.out [pb] _ _ po hch.out (by simpa using hhd.out) (hra.out _).2 hnd.out (fun k hk => .inl hk)
          exact ⟨rfl, own', h1, fun k hk => (h2 k hk).elim .inl (fun h => .inl (hsub.out k h)), hch.out.mono (fun x hx => .inl (by simp at hx; subst hx; exact hsub.out _ hhd.out))⟩
    | true =>
      have hr := Lib.hid (show Pi.drop s id true = if p.heirs = 0 then (61, s) else if p.readers = 0 ∧ p.heirs - 1 = 0 then (0, { s with ps := Pi.del s.ps id }) else (0, { s with ps := Pi.put s.ps id { p with heirs := p.heirs - 1 } }) from by
        unfold Pi.drop; rw [hfound.out]; rfl)
      by_cases h0 : p.heirs = 0
      · have hz : (p.heirs == 0) = true := by simpa using h0
        have H0 := Lib.hid h0
        clear h0 ht
        go_enter Try.func12, Try.ntmps12
        go_wp2_with (go_at_call 29; refine (end_any pb 0 _ _).mono ?_; rintro e w' ⟨rfl, rfl⟩)
        go_ret
        rw [hr.out, if_pos H0.out]
        exact ⟨rfl, own, h, fun k hk => .inl hk, Chg.refl _ _⟩
      · have hz : (p.heirs == 0) = false := by simpa using h0
        have H0 := Lib.hid h0
        clear h0 ht
        have hch := Lib.hid ((Chg.refl [pb] w).setCell ⟨pb, 4, none⟩ (.int .i64 (p.heirs - 1)) (by simp))
        by_cases hl1 : p.readers = 0
        · by_cases hl2 : p.heirs - 1 = 0
          · have hz1 : (p.readers == 0) = true := by simpa using hl1
            have hz2 : (p.heirs - 1 == 0) = true := by simpa using hl2
            obtain ⟨w2, hrun⟩ := HDOK.out 4 (.int .i64 (p.heirs - 1))
            obtain ⟨⟨own', hd1, hd2⟩, hd3⟩ := hdel.out [pb] _ _ 0 hch.out (by simpa using hhd.out) hrun
            have HD1 := Lib.hid hd1
            have HD2 := Lib.hid hd2
            have HD3 := Lib.hid hd3
            have HL := Lib.hid (And.intro hl1 hl2)
            clear hl1 hl2 hd1 hd2 hd3
            go_enter Try.func12, Try.ntmps12
            go_wp2_with (go_at_call 29; refine (end_any pb 0 _ _).mono ?_; rintro e w' ⟨rfl, rfl⟩)
            go_ret
            rw [hr.out, if_neg H0.out, if_pos HL.out]
            exact ⟨rfl, own', HD1.out, fun k hk => .inl (HD2.out k hk), HD3.out.mono (fun x hx => .inl (by
              simp at hx
              rcases hx with rfl | rfl
              · exact hm
              · exact hsub.out _ hhd.out))⟩
          · have hz1 : (p.readers == 0) = true := by simpa using hl1
            have hz2 : (p.heirs - 1 == 0) = false := by simpa using hl2
            have HL := Lib.hid (show ¬ (p.readers = 0 ∧ p.heirs - 1 = 0) from fun h => hl2 h.2)
            clear hl1 hl2
            go_enter Try.func12, Try.ntmps12
            go_wp2_with (go_at_call 29; refine (end_any pb 0 _ _).mono ?_; rintro e w' ⟨rfl, rfl⟩)
            go_ret
            rw [hr.out, if_neg H0.out, if_neg HL.out]
            obtain ⟨own', h1, h2⟩ := hput.out [pb] _ _ po hch.out (by simpa using hhd.out) (hra.out _).1 hnd.out (fun k hk => .inl hk)
            exact ⟨rfl, own', h1, fun k hk => (h2 k hk).elim .inl (fun h => .inl (hsub.out k h)), hch.out.mono (fun x hx => .inl (by simp at hx; subst hx; exact hsub.out _ hhd.out))⟩
        · have hz1 : (p.readers == 0) = false := by simpa using hl1
          have HL := Lib.hid (show ¬ (p.readers = 0 ∧ p.heirs - 1 = 0) from fun h => hl1 h.1)
          clear hl1
          go_enter Try.func12, Try.ntmps12
          go_wp2_with (go_at_call 29; refine (end_any pb 0 _ _).mono ?_; rintro e w' ⟨rfl, rfl⟩)
          go_ret
          rw [hr.out, if_neg H0.out, if_neg HL.out]
          obtain ⟨own', h1, h2⟩ := hput.out [pb] _ _ po hch.out (by simpa using hhd.out) (hra.out _).1 hnd.out (fun k hk => .inl hk)
          exact ⟨rfl, own', h1, fun k hk => (h2 k hk).elim .inl (fun h => .inl (hsub.out k h)), hch.out.mono (fun x hx => .inl (by simp at hx; subst hx; exact hsub.out _ hhd.out))⟩

end Go.Proofs.Ytihkanbkcnonoaa
