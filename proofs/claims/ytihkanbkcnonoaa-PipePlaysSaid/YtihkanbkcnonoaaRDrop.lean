/-
  The document's table, walked: Drop.
-/
import Derived.Test.YtihkanbkcnonoaaROps
import Derived.Deep.QuietTactic
import Derived.BigQuiet
namespace Go.Proofs.Ytihkanbkcnonoaa
open Go.RowKit Go.Maps
set_option linter.unusedVariables false

theorem place_put (l : List (Int × Pi.Pp)) (id : Int) (q : Pi.Pp) : place (Pi.put l id q) id = place l id := by
  have key : ∀ l : List (Int × Pi.Pp), l.findIdx? (fun x => x.1 == id) = (l.map (·.1)).findIdx? (fun x => x == id) := fun l => by
    rw [List.findIdx?_map]; rfl
  unfold place
  rw [key, key, put_ids]

theorem find_put {l : List (Int × Pi.Pp)} {id : Int} {p q : Pi.Pp} (h : Pi.find l id = some p) : Pi.find (Pi.put l id q) id = some q := by
  have key : ∀ (x : Int × Pi.Pp) (r : List (Int × Pi.Pp)), Pi.find (x :: r) id = if x.1 = id then some x.2 else Pi.find r id := by
    intro x r
    unfold Pi.find
    by_cases hx : x.1 = id <;> simp [hx]
  induction l with
  | nil => simp [Pi.find] at h
  | cons x r ih =>
    have e : Pi.put (x :: r) id q = (if x.1 == id then (id, q) else x) :: Pi.put r id q := rfl
    rw [key] at h
    rw [e, key]
    by_cases hx : x.1 = id
    · simp [hx]
    · simp only [hx, if_false, beq_iff_eq] at h ⊢
      exact ih h

/-- seen again behind a change. -/
theorem RFoc.again {w w1 : World} {rb : Nat} {own : List Nat} {s s1 : Pi.Tb} {id : Int} {p q : Pi.Pp} {g n cap i : Nat} {a1 : Option Addr} {n1 c1 : Nat} {a2 : Option Addr} {n2 c2 : Nat}
    (F : RFoc w rb own s id p g n cap i a1 n1 c1 a2 n2 c2) (h : RefAt w1 rb own s1) (hs : s1.ps = Pi.put s.ps id q) (hf : Pi.find s.ps id = some p) (hd : w1.cell? ⟨rb, 0, none⟩ = w.cell? ⟨rb, 0, none⟩) :
    ∃ b1 m1 d1 b2 m2 d2, RFoc w1 rb own s1 id q g n cap i b1 m1 d1 b2 m2 d2 := by
  have hq := find_put (q := q) hf
  rcases h.focus (id := id) with ⟨hn, _⟩ | ⟨p', g', n', cap', i', b1, m1, d1, b2, m2, d2, hf', F'⟩
  · rw [hs, hq] at hn; cases hn
  · rw [hs, hq] at hf'
    cases hf'
    have h1 := F'.hd
    rw [hd, F.hd] at h1
    cases h1
    have h2 := F'.place
    rw [hs, place_put, F.place] at h2
    have h3 : i = i' := by omega
    subst h3
    exact ⟨b1, m1, d1, b2, m2, d2, F'⟩

theorem RLeft.drewN {w w' : World} {rb : Nat} {own : List Nat} {s : Pi.Tb} (h : RLeft w w' rb own s) (k : Nat) : RLeft w (w'.drewN k) rb own s := by
  obtain ⟨own', h1, h2, h3⟩ := h
  exact ⟨own', h1.kept0 ((Chg.refl [] w').drewN k), h2, h3.drewN k⟩

theorem Try.infoPipe : (Try.prog.info? 71).map (fun i => (i.zero, i.size, i.bytes)) = some (some (.agg #[.int .i64 0, .int .i64 0, .int .i64 0, .slice none 0 0, .slice none 0 0, .string ⟨#[]⟩]), 6, 88) := by kernel_rfl

theorem Chg.frozenEq {F : List Nat} {w w' : World} (h : Chg F w w') {p : Addr} (hb : p.block < w.heap.size) (hp : p.block ∉ F) : w'.frozen? p = w.frozen? p := by
  unfold World.frozen?
  rw [h.block p.block hb hp]

theorem SrcAt.drop {w : World} {b off : Nat} {xs : List Value} (h : SrcAt w (some ⟨b, off, none⟩) xs) (k : Nat) : SrcAt w (some ⟨b, off + k, none⟩) (xs.drop k) := by
  intro hne
  have h0 : xs ≠ [] := by rintro rfl; simp at hne
  obtain ⟨b', off', h1, h2⟩ := h h0
  cases h1
  refine ⟨b, off + k, rfl, fun j u hj => ?_⟩
  rw [List.getElem?_drop] at hj
  rw [Nat.add_assoc]
  exact h2 _ _ hj

set_option maxHeartbeats 4000000 in
set_option maxRecDepth 100000 in
theorem rdrop_any (rb : Nat) (own : List Nat) (s : Pi.Tb) (id : Int) (write : Bool) (N : Nat) (w : World) (h : RefAt w rb own s) (hN : Counts N s) (hN2 : N ≤ 1000000) (hlen : s.ps.length ≤ 1000000) :
    Calls Try.prog 19 #[.pointer (some ⟨rb, 0, none⟩), .int .i64 id, .bool write] w fun e w' => e = .returned (.int .i64 (Pi.drop s id write).1) ∧ RLeft w w' rb own (Pi.drop s id write).2 := by
  have HR := Lib.hid h
  rcases h.focus (id := id) with ⟨hf, hpl⟩ | ⟨p, g, n, cap, i, a1, n1, c1, a2, n2, c2, hf, F⟩
  · have hr := Lib.hid (show Pi.drop s id write = (61, s) from by unfold Pi.drop; rw [hf])
    have HP := Lib.hid hpl
    clear hf hpl h
    go_enter Try.func19, Try.ntmps19
    go_wp2_with fail
    refine (rat_any rb own s id _ HR.out).mono ?_
    rw [HP.out]
    rintro e w' ⟨rfl, rfl⟩
    go_wp2
    go_ret
    rw [hr.out]
    exact ⟨rfl, RLeft.same HR.out⟩
  · obtain ⟨hb1, hb2, hb3, hb4⟩ := hN _ (find_mem hf)
    simp only at hb1 hb2 hb3 hb4
    have HF := Lib.hid F
    have HFD := Lib.hid hf
    have hi0 : (0 : Int) ≤ (i : Int) := by omega
    have hi1 : (i : Int) < (n : Int) := by have := F.lt; omega
    have hi2 := F.lt
    have hcp := F.caps
    have k0 := F.hd
    have k1 := F.k1
    have k2 := F.k2
    have f1 := F.free (i * 6 + 1)
    have f2 := F.free (i * 6 + 2)
    have hgr := F.gne
    have hr0 := Lib.hid (show Pi.drop s id write = (if (if write then p.heirs else p.readers) = 0 then (61, s) else
      let q := if write then { p with heirs := p.heirs - 1 } else { p with readers := p.readers - 1 }
      if q.readers = 0 ∧ q.heirs = 0 then (0, { s with ps := Pi.del s.ps id }) else (0, { s with ps := Pi.put s.ps id q })) from by unfold Pi.drop; rw [hf])
    clear hf h F
    cases write with
    | false =>
      by_cases hz : p.readers = 0
      · have hz1 : (p.readers == 0) = true := by simpa using hz
        have hr := Lib.hid (show Pi.drop s id false = (61, s) from by rw [hr0.out]; simp [hz])
        clear hr0 hz
        go_enter Try.func19, Try.ntmps19
        go_wp2_with fail
        refine (rat_any rb own s id _ HR.out).mono ?_
        rw [HF.out.place]
        rintro e w' ⟨rfl, rfl⟩
        go_wp2
        go_ret
        rw [hr.out]
        exact ⟨rfl, RLeft.same HR.out⟩
      · have hz1 : (p.readers == 0) = false := by simpa using hz
        have HL := Lib.hid (HF.out.left (Chg.refl [] w) { p with readers := p.readers - 1 } 2 _ rfl (by omega) rfl)
        have hsum : IntKind.i64.wrap (p.heirs + (p.readers - 1)) = p.heirs + (p.readers - 1) := by rw [IntKind.wrap_i64]; omega
        by_cases ht : p.heirs + (p.readers - 1) = 0
        · have ht1 : (p.heirs + (p.readers - 1) == 0) = true := by simpa using ht
          have hr := Lib.hid (show Pi.drop s id false = (0, { s with ps := Pi.del s.ps id }) from by rw [hr0.out]; simp [hz]; omega)
          have hq1 := ((Chg.refl [g] w).setCell ⟨g, i * 6 + 2, none⟩ (.int .i64 (p.readers - 1)) (by simp))
          obtain ⟨x1, m1, y1, x2, m2, y2, F1⟩ := HF.out.again (HF.out.upd w { p with readers := p.readers - 1 } 2 _ (Chg.refl [] w) rfl (by omega) rfl) rfl HFD.out (hq1.cellEq (HR.out.lt rb HF.out.rown) (by simpa using fun e => hgr (e : rb = g).symm))
          obtain ⟨cs, hone, hrow, hrem⟩ := F1.rem
          have hdel : Pi.del (Pi.put s.ps id { p with readers := p.readers - 1 }) id = Pi.del s.ps id := del_put _ _ _
          simp only [hdel] at hrem
          have HREM := Lib.hid hrem
          have HROW := Lib.hid hrow
          have HONE := Lib.hid hone
          have HQ := Lib.hid hq1
          have F1 := Lib.hid F1
          have hcl : cs.length = n * 6 := hrow.1
          have hpl := Lib.hid (show n ≤ 1000000 from by
            obtain ⟨a', n', cap', es, e1, e2, e3, e4, e5, e6, e7, e8⟩ := HR.out
            have e9 := HF.out.hd
            rw [cell_of_obj e1 (j := 0) rfl] at e9
            cases e9
            have := e2.1
            rw [rcells_len] at this
            rw [e4, List.length_map] at hlen
            omega)
          obtain ⟨i0, hi, hz0, hz1', hz2⟩ := info_parts Try.infoPipe
          have hi3 : (i : Int) ≤ (cap : Int) := by omega
          have hi4 : (i : Int) + 1 ≤ (cap : Int) := by omega
          have hi5 : (i : Int) + 1 ≤ (n : Int) := by omega
          have hi6 : (n : Int) ≤ (cap : Int) := by omega
          have hi7 : (cap : Int) ≤ 9223372036854775807 := by have := hcp.2; unfold maxLen at this; omega
          clear hrow hrem hq1 hone hr0 hz ht hdel
          go_enter Try.func19, Try.ntmps19
          go_wp2_with fail
          refine (rat_any rb own s id _ HR.out).mono ?_
          rw [HF.out.place]
          rintro e w' ⟨rfl, rfl⟩
          go_wp2_with fail
          go_quiet (fail)
          all_goals
            go_wp2_with (at_builtin; refine wpList_append_row _ rfl _ _ 44 rfl 71 i0 _ 6 88 Try.underlying44 hi hz0 hz1' hz2 rfl (by decide) _ 0 [] rfl (Row.nil _ _ _ _) (some ⟨g, 0, none⟩) i cap (cs.take (i * 6)) rfl (by rw [List.length_take]; omega) ?c1 ?c2 (by unfold maxLen; have := hpl.out; omega) (by have := hpl.out; omega) ?_)
            case c1 => exact (HROW.out.kept0 ((Chg.refl [] _).drewN _)).src.take _
            case c2 => exact fun u hu => HONE.out u (List.mem_of_mem_take hu)
            intro v1 w2 r1 q1 g1
            have r1 : Row w2 71 6 v1 i (cs.take (i * 6)) := by simpa using r1
            obtain ⟨b1, d1, rfl, hd1, hd2⟩ := r1.shape
            have hq2 := Lib.hid (((Chg.refl [] _).drewN _).then0 (q1.mono (G := []) (fun x hx => by cases hx)))
            have z0 := hq2.out.cell F1.out.hd (by simp)
            have R1 := Lib.hid r1
            have G1 := Lib.hid g1
            clear r1 q1 g1 k0 k1 k2 f1 f2
            by_cases hcap : i + 1 = cap
            · have hd0 := Lib.hid (show cs.drop ((i + 1) * 6) = [] from List.drop_of_length_le (by omega))
              go_wp2_with (at_builtin; refine wpList_append_row _ rfl _ _ 44 rfl 71 i0 _ 6 88 Try.underlying44 hi hz0 hz1' hz2 rfl (by decide) _ i (cs.take (i * 6)) rfl R1.out (some ⟨g, 0, none⟩) 0 0 [] rfl (by simp) (by simp [SrcAt]) (by simp) (by unfold maxLen; have := hpl.out; omega) (by have := hpl.out; omega) ?_)
              intro v2 w3 r2 q2 g2
              have r2 : Row w3 71 6 v2 (n - 1) (cs.take (i * 6) ++ cs.drop ((i + 1) * 6)) := by
                rw [hd0.out, show n - 1 = i from by omega]
                simpa using r2
              obtain ⟨b2, d2, rfl, _, _⟩ := r2.shape
              have hq3 := hq2.out.trans q2 (fun x hx => .inr (by
                rcases G1.out x hx with h | h
                · simp [rowBlock] at h
                · simpa using h))
              have z1 := hq3.cell F1.out.hd (by simp)
              have z2 := (hq3.frozenEq (p := ⟨rb, 0, none⟩) (by simpa using HR.out.lt rb HF.out.rown) (by simp)).trans (F1.out.rfree 0)
              obtain ⟨own', e1, e2⟩ := HREM.out w3 b2 (n - 1) d2 (by omega) hq3 r2 (fun k hk => by
                rcases g2 k hk with h | h
                · rcases G1.out k h with h | h
                  · simp [rowBlock] at h
                  · simpa using h
                · have := hq2.out.size
                  simp at this ⊢; omega)
              have E1 := Lib.hid e1
              have E2 := Lib.hid e2
              have Q3 := Lib.hid hq3
              clear r2 q2 g2 hq3 e1 e2 z0
              go_wp2
              go_ret
              rw [hr.out]
              exact ⟨rfl, own', E1.out, fun k hk => (E2.out k hk).imp (fun h => h) (fun h => by simpa using h), ((HQ.out.mono (G := own) (fun x hx => .inl (by simp at hx; subst hx; exact HF.out.gown))).trans Q3.out (by simp)).setCell _ _ (.inl HF.out.rown)⟩
            · go_wp2_with (at_builtin; refine wpList_append_row _ rfl _ _ 44 rfl 71 i0 _ 6 88 Try.underlying44 hi hz0 hz1' hz2 rfl (by decide) _ i (cs.take (i * 6)) rfl R1.out (some ⟨g, (i + 1) * 6, none⟩) (n - (i + 1)) (cap - (i + 1)) (cs.drop ((i + 1) * 6)) rfl (by rw [List.length_drop]; omega) ?c3 ?c4 (by unfold maxLen; have := hpl.out; omega) (by have := hpl.out; omega) ?_)
              case c3 =>
                have := (HROW.out.src.kept0 hq2.out).drop ((i + 1) * 6)
                rwa [Nat.zero_add] at this
              case c4 => exact fun u hu => HONE.out u (List.mem_of_mem_drop hu)
              intro v2 w3 r2 q2 g2
              have r2 : Row w3 71 6 v2 (n - 1) (cs.take (i * 6) ++ cs.drop ((i + 1) * 6)) := by
                rw [show n - 1 = i + (n - (i + 1)) from by omega]
                exact r2
              obtain ⟨b2, d2, rfl, _, _⟩ := r2.shape
              have hq3 := hq2.out.trans q2 (fun x hx => .inr (by
                rcases G1.out x hx with h | h
                · simp [rowBlock] at h
                · simpa using h))
              have z1 := hq3.cell F1.out.hd (by simp)
              have z2 := (hq3.frozenEq (p := ⟨rb, 0, none⟩) (by simpa using HR.out.lt rb HF.out.rown) (by simp)).trans (F1.out.rfree 0)
              obtain ⟨own', e1, e2⟩ := HREM.out w3 b2 (n - 1) d2 (by omega) hq3 r2 (fun k hk => by
                rcases g2 k hk with h | h
                · rcases G1.out k h with h | h
                  · simp [rowBlock] at h
                  · simpa using h
                · have := hq2.out.size
                  simp at this ⊢; omega)
              have E1 := Lib.hid e1
              have E2 := Lib.hid e2
              have Q3 := Lib.hid hq3
              clear r2 q2 g2 hq3 e1 e2 z0
              go_wp2
              go_ret
              rw [hr.out]
              exact ⟨rfl, own', E1.out, fun k hk => (E2.out k hk).imp (fun h => h) (fun h => by simpa using h), ((HQ.out.mono (G := own) (fun x hx => .inl (by simp at hx; subst hx; exact HF.out.gown))).trans Q3.out (by simp)).setCell _ _ (.inl HF.out.rown)⟩
        · have ht1 : (p.heirs + (p.readers - 1) == 0) = false := by simpa using ht
          have hr := Lib.hid (show Pi.drop s id false = (0, { s with ps := Pi.put s.ps id { p with readers := p.readers - 1 } }) from by rw [hr0.out]; simp [hz]; omega)
          clear hr0 hz ht
          go_enter Try.func19, Try.ntmps19
          go_wp2_with fail
          refine (rat_any rb own s id _ HR.out).mono ?_
          rw [HF.out.place]
          rintro e w' ⟨rfl, rfl⟩
          go_wp2_with fail
          go_quiet (fail)
          all_goals
            go_wp2
            go_ret
            rw [hr.out]
            exact ⟨rfl, HL.out.drewN _⟩
    | true =>
      by_cases hz : p.heirs = 0
      · have hz1 : (p.heirs == 0) = true := by simpa using hz
        have hr := Lib.hid (show Pi.drop s id true = (61, s) from by rw [hr0.out]; simp [hz])
        clear hr0 hz
        go_enter Try.func19, Try.ntmps19
        go_wp2_with fail
        refine (rat_any rb own s id _ HR.out).mono ?_
        rw [HF.out.place]
        rintro e w' ⟨rfl, rfl⟩
        go_wp2
        go_ret
        rw [hr.out]
        exact ⟨rfl, RLeft.same HR.out⟩
      · have hz1 : (p.heirs == 0) = false := by simpa using hz
        have HL := Lib.hid (HF.out.left (Chg.refl [] w) { p with heirs := p.heirs - 1 } 1 _ rfl (by omega) rfl)
        have hsum : IntKind.i64.wrap (p.heirs - 1 + p.readers) = p.heirs - 1 + p.readers := by rw [IntKind.wrap_i64]; omega
        by_cases ht : p.heirs - 1 + p.readers = 0
        · have ht1 : (p.heirs - 1 + p.readers == 0) = true := by simpa using ht
          have hr := Lib.hid (show Pi.drop s id true = (0, { s with ps := Pi.del s.ps id }) from by rw [hr0.out]; simp [hz]; omega)
          have hq1 := ((Chg.refl [g] w).setCell ⟨g, i * 6 + 1, none⟩ (.int .i64 (p.heirs - 1)) (by simp))
          obtain ⟨x1, m1, y1, x2, m2, y2, F1⟩ := HF.out.again (HF.out.upd w { p with heirs := p.heirs - 1 } 1 _ (Chg.refl [] w) rfl (by omega) rfl) rfl HFD.out (hq1.cellEq (HR.out.lt rb HF.out.rown) (by simpa using fun e => hgr (e : rb = g).symm))
          obtain ⟨cs, hone, hrow, hrem⟩ := F1.rem
          have hdel : Pi.del (Pi.put s.ps id { p with heirs := p.heirs - 1 }) id = Pi.del s.ps id := del_put _ _ _
          simp only [hdel] at hrem
          have HREM := Lib.hid hrem
          have HROW := Lib.hid hrow
          have HONE := Lib.hid hone
          have HQ := Lib.hid hq1
          have F1 := Lib.hid F1
          have hcl : cs.length = n * 6 := hrow.1
          have hpl := Lib.hid (show n ≤ 1000000 from by
            obtain ⟨a', n', cap', es, e1, e2, e3, e4, e5, e6, e7, e8⟩ := HR.out
            have e9 := HF.out.hd
            rw [cell_of_obj e1 (j := 0) rfl] at e9
            cases e9
            have := e2.1
            rw [rcells_len] at this
            rw [e4, List.length_map] at hlen
            omega)
          obtain ⟨i0, hi, hz0, hz1', hz2⟩ := info_parts Try.infoPipe
          have hi3 : (i : Int) ≤ (cap : Int) := by omega
          have hi4 : (i : Int) + 1 ≤ (cap : Int) := by omega
          have hi5 : (i : Int) + 1 ≤ (n : Int) := by omega
          have hi6 : (n : Int) ≤ (cap : Int) := by omega
          have hi7 : (cap : Int) ≤ 9223372036854775807 := by have := hcp.2; unfold maxLen at this; omega
          clear hrow hrem hq1 hone hr0 hz ht hdel
          go_enter Try.func19, Try.ntmps19
          go_wp2_with fail
          refine (rat_any rb own s id _ HR.out).mono ?_
          rw [HF.out.place]
          rintro e w' ⟨rfl, rfl⟩
          go_wp2_with fail
          go_quiet (fail)
          all_goals
            go_wp2_with (at_builtin; refine wpList_append_row _ rfl _ _ 44 rfl 71 i0 _ 6 88 Try.underlying44 hi hz0 hz1' hz2 rfl (by decide) _ 0 [] rfl (Row.nil _ _ _ _) (some ⟨g, 0, none⟩) i cap (cs.take (i * 6)) rfl (by rw [List.length_take]; omega) ?c1 ?c2 (by unfold maxLen; have := hpl.out; omega) (by have := hpl.out; omega) ?_)
            case c1 => exact (HROW.out.kept0 ((Chg.refl [] _).drewN _)).src.take _
            case c2 => exact fun u hu => HONE.out u (List.mem_of_mem_take hu)
            intro v1 w2 r1 q1 g1
            have r1 : Row w2 71 6 v1 i (cs.take (i * 6)) := by simpa using r1
            obtain ⟨b1, d1, rfl, hd1, hd2⟩ := r1.shape
            have hq2 := Lib.hid (((Chg.refl [] _).drewN _).then0 (q1.mono (G := []) (fun x hx => by cases hx)))
            have z0 := hq2.out.cell F1.out.hd (by simp)
            have R1 := Lib.hid r1
            have G1 := Lib.hid g1
            clear r1 q1 g1 k0 k1 k2 f1 f2
            by_cases hcap : i + 1 = cap
            · have hd0 := Lib.hid (show cs.drop ((i + 1) * 6) = [] from List.drop_of_length_le (by omega))
              go_wp2_with (at_builtin; refine wpList_append_row _ rfl _ _ 44 rfl 71 i0 _ 6 88 Try.underlying44 hi hz0 hz1' hz2 rfl (by decide) _ i (cs.take (i * 6)) rfl R1.out (some ⟨g, 0, none⟩) 0 0 [] rfl (by simp) (by simp [SrcAt]) (by simp) (by unfold maxLen; have := hpl.out; omega) (by have := hpl.out; omega) ?_)
              intro v2 w3 r2 q2 g2
              have r2 : Row w3 71 6 v2 (n - 1) (cs.take (i * 6) ++ cs.drop ((i + 1) * 6)) := by
                rw [hd0.out, show n - 1 = i from by omega]
                simpa using r2
              obtain ⟨b2, d2, rfl, _, _⟩ := r2.shape
              have hq3 := hq2.out.trans q2 (fun x hx => .inr (by
                rcases G1.out x hx with h | h
                · simp [rowBlock] at h
                · simpa using h))
              have z1 := hq3.cell F1.out.hd (by simp)
              have z2 := (hq3.frozenEq (p := ⟨rb, 0, none⟩) (by simpa using HR.out.lt rb HF.out.rown) (by simp)).trans (F1.out.rfree 0)
              obtain ⟨own', e1, e2⟩ := HREM.out w3 b2 (n - 1) d2 (by omega) hq3 r2 (fun k hk => by
                rcases g2 k hk with h | h
                · rcases G1.out k h with h | h
                  · simp [rowBlock] at h
                  · simpa using h
                · have := hq2.out.size
                  simp at this ⊢; omega)
              have E1 := Lib.hid e1
              have E2 := Lib.hid e2
              have Q3 := Lib.hid hq3
              clear r2 q2 g2 hq3 e1 e2 z0
              go_wp2
              go_ret
              rw [hr.out]
              exact ⟨rfl, own', E1.out, fun k hk => (E2.out k hk).imp (fun h => h) (fun h => by simpa using h), ((HQ.out.mono (G := own) (fun x hx => .inl (by simp at hx; subst hx; exact HF.out.gown))).trans Q3.out (by simp)).setCell _ _ (.inl HF.out.rown)⟩
            · go_wp2_with (at_builtin; refine wpList_append_row _ rfl _ _ 44 rfl 71 i0 _ 6 88 Try.underlying44 hi hz0 hz1' hz2 rfl (by decide) _ i (cs.take (i * 6)) rfl R1.out (some ⟨g, (i + 1) * 6, none⟩) (n - (i + 1)) (cap - (i + 1)) (cs.drop ((i + 1) * 6)) rfl (by rw [List.length_drop]; omega) ?c3 ?c4 (by unfold maxLen; have := hpl.out; omega) (by have := hpl.out; omega) ?_)
              case c3 =>
                have := (HROW.out.src.kept0 hq2.out).drop ((i + 1) * 6)
                rwa [Nat.zero_add] at this
              case c4 => exact fun u hu => HONE.out u (List.mem_of_mem_drop hu)
              intro v2 w3 r2 q2 g2
              have r2 : Row w3 71 6 v2 (n - 1) (cs.take (i * 6) ++ cs.drop ((i + 1) * 6)) := by
                rw [show n - 1 = i + (n - (i + 1)) from by omega]
                exact r2
              obtain ⟨b2, d2, rfl, _, _⟩ := r2.shape
              have hq3 := hq2.out.trans q2 (fun x hx => .inr (by
                rcases G1.out x hx with h | h
                · simp [rowBlock] at h
                · simpa using h))
              have z1 := hq3.cell F1.out.hd (by simp)
              have z2 := (hq3.frozenEq (p := ⟨rb, 0, none⟩) (by simpa using HR.out.lt rb HF.out.rown) (by simp)).trans (F1.out.rfree 0)
              obtain ⟨own', e1, e2⟩ := HREM.out w3 b2 (n - 1) d2 (by omega) hq3 r2 (fun k hk => by
                rcases g2 k hk with h | h
                · rcases G1.out k h with h | h
                  · simp [rowBlock] at h
                  · simpa using h
                · have := hq2.out.size
                  simp at this ⊢; omega)
              have E1 := Lib.hid e1
              have E2 := Lib.hid e2
              have Q3 := Lib.hid hq3
              clear r2 q2 g2 hq3 e1 e2 z0
              go_wp2
              go_ret
              rw [hr.out]
              exact ⟨rfl, own', E1.out, fun k hk => (E2.out k hk).imp (fun h => h) (fun h => by simpa using h), ((HQ.out.mono (G := own) (fun x hx => .inl (by simp at hx; subst hx; exact HF.out.gown))).trans Q3.out (by simp)).setCell _ _ (.inl HF.out.rown)⟩
        · have ht1 : (p.heirs - 1 + p.readers == 0) = false := by simpa using ht
          have hr := Lib.hid (show Pi.drop s id true = (0, { s with ps := Pi.put s.ps id { p with heirs := p.heirs - 1 } }) from by rw [hr0.out]; simp [hz]; omega)
          clear hr0 hz ht
          go_enter Try.func19, Try.ntmps19
          go_wp2_with fail
          refine (rat_any rb own s id _ HR.out).mono ?_
          rw [HF.out.place]
          rintro e w' ⟨rfl, rfl⟩
          go_wp2_with fail
          go_quiet (fail)
          all_goals
            go_wp2
            go_ret
            rw [hr.out]
            exact ⟨rfl, HL.out.drewN _⟩

end Go.Proofs.Ytihkanbkcnonoaa
