/-
  The document's reader: a 'for': the walk. (Printed by geneachr.py.)
-/
import Derived.Test.YtfgbbmnmblchiaaDoorPm09
import Derived.StillTailTactics
namespace Go.Proofs.YtfgbbmnmblchiaaDoor
open Go.RowKit
set_option linter.unusedVariables false

/-- what a walk of the document's 'list' says, at a depth. -/
def ListDoes (pb : Nat) (a : Option Addr) (c : Nat) (ts : List Lx.Tok) (vs : List Value) (ln deep : Nat) (cmd : Nat → Ps.Res Ps.Node) : Prop :=
  ∀ (em : Bool) (st : St) (w : World), st.At deep → RS w pb a c ts vs ln st → Calls Tryd.prog 16 #[.pointer (some ⟨pb, 0, none⟩), .bool em] w fun e w' => SPost w pb a c ts vs ln (st.step ts ln (listQ ts cmd (!em))) e w'

theorem need_ok {ts : List Lx.Tok} {ln : Nat} {k : Int} {x : List UInt8} {s : St} {q d : Nat} (h : s.need ts ln k x = .ok q d) : ∃ p, s = .ok p d := by
  cases s with
  | bad e t => cases h
  | ok p d' =>
    cases hb : Ps.isT ts p k x with
    | true => rw [(need_yes hb).1] at h; cases h; exact ⟨p, rfl⟩
    | false => rw [(need_no hb).1] at h; cases h
theorem need_at {ts : List Lx.Tok} {ln d : Nat} {k : Int} {x : List UInt8} {s : St} (h : s.At d) : (s.need ts ln k x).At d := by
  cases hs : s.need ts ln k x with
  | bad e t => trivial
  | ok q d' =>
    obtain ⟨p, rfl⟩ := need_ok hs
    exact h
theorem wordsEnd_at {ts : List Lx.Tok} {d : Nat} {s : St} (h : s.At d) : (s.wordsEnd ts).At d := by cases s <;> exact h
theorem endsMust_at {ts : List Lx.Tok} {ln d : Nat} {s : St} (h : s.At d) : (s.endsMust ts ln).At d := by
  cases s with
  | bad e t => trivial
  | ok q d' =>
    simp only [St.endsMust]
    split
    · exact h
    · trivial
theorem endsMust_ok {ts : List Lx.Tok} {ln : Nat} {s : St} {q d : Nat} (h : s.endsMust ts ln = .ok q d) : ∃ p, s = .ok p d := by
  cases s with
  | bad e t => cases h
  | ok p d' =>
    simp only [St.endsMust] at h
    split at h
    · cases h; exact ⟨p, rfl⟩
    · cases h
/-- ends, then an error where there were none. -/
theorem endsMust_eq (ts : List Lx.Tok) (ln : Nat) (s : St) : (s.endsN ts = 0 → (s.ends ts).fail ts ln 10 = s.endsMust ts ln) ∧ (s.endsN ts ≠ 0 → s.ends ts = s.endsMust ts ln) := by
  cases s with
  | bad e t => exact ⟨fun _ => rfl, fun _ => rfl⟩
  | ok q d =>
    show (Ps.endsP ts q - q = 0 → St.bad 10 (posR ts ln (Ps.endsP ts q)) = _) ∧ (Ps.endsP ts q - q ≠ 0 → St.ok (Ps.endsP ts q) d = _)
    cases hb : Ps.isT ts q 3 [] with
    | true =>
      have e1 : (St.ok q d).endsMust ts ln = .ok (Ps.endsP ts q) d := by simp [St.endsMust, hb]
      have e2 := endsP_next hb
      have hlt := isT_lt hb
      have e3 := (endsP_le (ts := ts) (p := q + 1) (by omega)).1
      rw [e1]
      exact ⟨fun h => by omega, fun _ => rfl⟩
    | false =>
      have e1 : (St.ok q d).endsMust ts ln = .bad 10 (posR ts ln q) := by simp [St.endsMust, hb]
      rw [e1, endsP_here hb]
      exact ⟨fun _ => rfl, fun h => by omega⟩

theorem upR {w : World} {pb : Nat} {a : Option Addr} {c : Nat} {ts : List Lx.Tok} {vs : List Value} {ln : Nat} {s : St} {d : Int} (h : RS w pb a c ts vs ln s) (hd : w.cell? ⟨pb, 5, none⟩ = some (.int .i64 d)) (hs : ∀ q e, s = .ok q e → 0 < e) : RS (w.setCell ⟨pb, 5, none⟩ (.int .i64 (wrap64 (d - 1)))) pb a c ts vs ln s.up := by
  cases s with
  | bad e t =>
    obtain ⟨he, p, d', hw⟩ := h
    exact ⟨he, p, _, hw.setD _⟩
  | ok q e =>
    have h5 := h.1.c5
    rw [hd] at h5
    cases h5
    have h0 := hs q e rfl
    have h16 := h.2.2
    rw [show wrap64 ((e : Int) - 1) = ((e - 1 : Nat) : Int) from by unfold wrap64; omega]
    exact ⟨h.1.setD _, h.2.1, by omega⟩

theorem RS.bad3 {w : World} {pb : Nat} {a : Option Addr} {c : Nat} {ts : List Lx.Tok} {vs : List Value} {ln : Nat} {e t : Int} (h : RS w pb a c ts vs ln (.bad e t)) : w.cell? ⟨pb, 3, none⟩ = some (.int .i64 e) ∧ (e == 0) = false ∧ (e != 0) = true := by
  obtain ⟨he, _, _, hw⟩ := h
  exact ⟨hw.c3, by rw [beq_eq_false_iff_ne]; exact he, by simpa using he⟩
theorem RS.c5 {w : World} {pb : Nat} {a : Option Addr} {c : Nat} {ts : List Lx.Tok} {vs : List Value} {ln : Nat} {s : St} (h : RS w pb a c ts vs ln s) : (∃ d : Int, w.cell? ⟨pb, 5, none⟩ = some (.int .i64 d)) ∧ w.frozen? ⟨pb, 5, none⟩ = false := by
  obtain ⟨_, _, _, _, hw⟩ := h.rw
  exact ⟨⟨_, hw.c5⟩, hw.free 5⟩

/-- trees held in blocks of their own. -/
def HeldN (tv : Value) (vs : List Value) (lo hi : Nat) (o : Option Ps.Node) (cs : List Value) (w : World) : Prop := ∀ x, o = some x → NodeAt w (Sn tv vs lo hi) x cs
theorem HeldN.kept {tv : Value} {vs : List Value} {lo hi : Nat} {o : Option Ps.Node} {cs : List Value} {w w' : World} (h : HeldN tv vs lo hi o cs w) {F : List Nat} (hc : Chg F w w') (hF : ∀ k ∈ F, ¬ TB tv vs k ∧ k < lo) : HeldN tv vs lo hi o cs w' := fun x hx =>
  NodeAt.kept hc (fun j hj hS => by
    obtain ⟨h1, h2⟩ := hF j hj
    rcases hS with h3 | h3
    · exact h1 h3
    · omega) _ _ (h x hx)

/-- where words stand. -/
theorem word_cases (ts : List Lx.Tok) (s : St) : (∃ e t, s = .bad e t ∧ s.is ts 1 [] = false) ∨ (∃ q d, s = .ok q d ∧ ¬ q < ts.length ∧ s.is ts 1 [] = false) ∨ (∃ q d t, s = .ok q d ∧ ts[q]? = some t ∧ ¬ t.kind = 1 ∧ s.is ts 1 [] = false) ∨ (∃ q d t, s = .ok q d ∧ ts[q]? = some t ∧ t.kind = 1 ∧ s.is ts 1 [] = true) := by
  cases s with
  | bad e t => exact .inl ⟨e, t, rfl, rfl⟩
  | ok q d =>
    by_cases hlt : q < ts.length
    · have ht : ts[q]? = some ts[q] := List.getElem?_eq_getElem hlt
      by_cases hk : ts[q].kind = 1
      · exact .inr (.inr (.inr ⟨q, d, _, rfl, ht, hk, by show Ps.isT ts q 1 [] = true; rw [isT_some ht, hk]; rfl⟩))
      · exact .inr (.inr (.inl ⟨q, d, _, rfl, ht, hk, by show Ps.isT ts q 1 [] = false; rw [isT_some ht]; simpa using hk⟩))
    · exact .inr (.inl ⟨q, d, rfl, hlt, isT_none hlt _ _⟩)
theorem words_end {ts : List Lx.Tok} {s : St} (h : s.is ts 1 [] = false) : s.wordsEnd ts = s ∧ s.wordsOf ts = [] := by
  cases s with
  | bad e t => exact ⟨rfl, rfl⟩
  | ok q d =>
    have h1 := wordsAt_here (ts := ts) (p := q) h
    exact ⟨by simp [St.wordsEnd, h1], h1⟩
theorem words_next {ts : List Lx.Tok} {q d : Nat} {t : Lx.Tok} (ht : ts[q]? = some t) (h : Ps.isT ts q 1 [] = true) : (St.ok q d).wordsEnd ts = (St.ok (q + 1) d).wordsEnd ts ∧ (St.ok q d).wordsOf ts = t.parts :: (St.ok (q + 1) d).wordsOf ts := by
  have h1 := wordsAt_next ht h
  refine ⟨?_, h1⟩
  show St.ok (q + (Ps.wordsAt ts q).length) d = .ok (q + 1 + (Ps.wordsAt ts (q + 1)).length) d
  rw [h1, List.length_cons]
  congr 1
  omega
/-- what a 'for' begins with. -/
theorem name_cases (ts : List Lx.Tok) (q : Nat) : (¬ q < ts.length ∧ ∀ cmd, Ps.eachP ts cmd q = .bad 10 q) ∨ (∃ t, ts[q]? = some t ∧ ¬ t.kind = 1 ∧ ∀ cmd, Ps.eachP ts cmd q = .bad 10 q) ∨ (∃ t, ts[q]? = some t ∧ t.kind = 1 ∧ Lx.isName t.text = false ∧ ∀ cmd, Ps.eachP ts cmd q = .bad 10 q) ∨ (∃ t, ts[q]? = some t ∧ t.kind = 1 ∧ Lx.isName t.text = true) := by
  by_cases hlt : q < ts.length
  · have ht : ts[q]? = some ts[q] := List.getElem?_eq_getElem hlt
    by_cases hk : ts[q].kind = 1
    · cases hn : Lx.isName ts[q].text with
      | true => exact .inr (.inr (.inr ⟨_, ht, hk, hn⟩))
      | false => exact .inr (.inr (.inl ⟨_, ht, hk, hn, fun cmd => eachP_2 ht hn⟩))
    · exact .inr (.inl ⟨_, ht, hk, fun cmd => eachP_1 (by rw [isT_some ht]; simpa using hk)⟩)
  · exact .inl ⟨hlt, fun cmd => eachP_1 (isT_none hlt _ _)⟩

set_option maxHeartbeats 8000000 in
set_option maxRecDepth 10000 in
theorem seach (pb : Nat) (a : Option Addr) (c : Nat) (ts : List Lx.Tok) (vs : List Value) (ln p deep : Nat) (cmd : Nat → Ps.Res Ps.Node) (hli : ListDoes pb a c ts vs ln (deep + 1) cmd) (w : World) (h : ROk w pb a c ts vs ln p deep) (hp : p < ts.length) :
    Calls Tryd.prog 71 #[.pointer (some ⟨pb, 0, none⟩)] w fun e w' => SPost w pb a c ts vs ln (if deep = 16 then (.bad 12 (posR ts ln p), none) else toS ts ln deep (Ps.eachP ts cmd (p + 1))) e w' := by
  have HP0 := Lib.hid h
  have hfew := h.1.few
  have GOOD := Lib.hid h.1.good
  have HLI := Lib.hid hli
  have HP := Lib.hid hp
  clear h hli
  obtain ⟨RR, hRR⟩ : ∃ RR : St × Option Ps.Node, (if deep = 16 then ((St.bad 12 (posR ts ln p), none) : St × Option Ps.Node) else toS ts ln deep (Ps.eachP ts cmd (p + 1))) = RR := ⟨_, rfl⟩
  rw [hRR]
  go_enter Tryd.func71, Tryd.ntmps71
  go_wp2_with fail
  refine (rdown_ok pb a c ts vs ln p deep _ (HP0.out.chg0 ((Chg.refl [] w).alloc (.cells (nodeC 0 (.slice none 0 0)) 42))) hp).mono ?_
  rintro e w1 ⟨rfl, hC1, hR1⟩
  by_cases h16 : deep = 16
  · rw [if_pos h16] at hR1
    have HR := Lib.hid (show RR = (St.bad 12 (posR ts ln p), none) from by rw [← hRR, if_pos h16])
    have HW := Lib.hid (WR.start (st := .ok p deep) HP0.out hC1 (st' := .bad 12 (posR ts ln p)) hR1)
    clear hC1 hR1 h16 hp hRR
    go_upto_region 3 with (fail)
    have HW := Lib.hid HW.out
    simp only [nodeC] at HW
    generalize w1.alloc (.cells #[.int .i64 8, .slice none 0 0, .string ⟨#[]⟩, .slice none 0 0, .slice none 0 0, .slice none 0 0] 42) = w2 at *
    generalize w1.heap.size = nb at *
    obtain ⟨x3, e3, e4⟩ := HW.out.rs.bad3
    go_quiet (fail)
    all_goals
      have HE := Lib.hid (HW.out.kept0 ((Chg.refl [] w2).drewN nq))
      generalize w2.drewN nq = w3 at *
      clear HW x3
      obtain ⟨x3, _, _⟩ := HE.out.rs.bad3
      obtain ⟨m0, m1, m2, m3, m4, m5, mf⟩ := six_cells HE.out.nd
      obtain ⟨r0, r1, r2, r3, r4, r5, rf⟩ := node_cells HE.out.rb
      go_wp2_with fail
      refine bodyPost_ret (v := .agg #[.int .i64 8, .slice none 0 0, .string (Lx.strB []), .slice none 0 0, .slice none 0 0, .slice none 0 0]) (by simp [results, Tryd.results71, go_sem, r0, r1, r2, r3, r4, r5]) rfl ?_
      rw [HR.out]
      refine HE.out.fin ?_ (fun n hn => by cases hn)
      exact (Chg.refl [w.heap.size] _).six w.heap.size (.int .i64 8) (.slice none 0 0) (.string (Lx.strB [])) (.slice none 0 0) (.slice none 0 0) (.slice none 0 0) (.inl (by simp))
  · rw [if_neg h16] at hR1
    have HR0 := Lib.hid (show RR = toS ts ln deep (Ps.eachP ts cmd (p + 1)) from by rw [← hRR, if_neg h16])
    obtain ⟨q, hq⟩ : ∃ q, p + 1 = q := ⟨_, rfl⟩
    rw [hq] at hR1 HR0
    have HW := Lib.hid (WR.start (st := .ok p deep) HP0.out hC1 (st' := .ok q (deep + 1)) hR1)
    clear hC1 hR1 h16 hp hRR hq HP
    go_upto_region 3 with (fail)
    have HW := Lib.hid HW.out
    simp only [nodeC] at HW
    generalize w1.alloc (.cells #[.int .i64 8, .slice none 0 0, .string ⟨#[]⟩, .slice none 0 0, .slice none 0 0, .slice none 0 0] 42) = w2 at *
    generalize w1.heap.size = nb at *
    have x0 := HW.out.rs.1.c0
    have x1 := HW.out.rs.1.c1
    have x3 := HW.out.rs.1.c3
    have q0 : (0 : Int) ≤ (q : Int) := by omega
    have q9 : (q : Int) ≤ 100000 := by have := HW.out.rs.2.1; omega
    have l9 : (ts.length : Int) ≤ 100000 := by omega
    rcases name_cases ts q with ⟨hlt, hb⟩ | ⟨t, ht, hk, hb⟩ | ⟨t, ht, hk, hn, hb⟩ | ⟨t, ht, hk, hn⟩
    · have hd : decide (ts.length ≤ q) = true := decide_eq_true (by omega)
      have HR := Lib.hid (HR0.out.trans (show toS ts ln deep (Ps.eachP ts cmd q) = (St.bad 10 (posR ts ln q), none) from by rw [hb cmd]; rfl))
      clear hlt hb
      go_quiet (fail)
      all_goals
        have HW2 := Lib.hid (HW.out.kept0 ((Chg.refl [] w2).drewN nq))
        generalize w2.drewN nq = w3 at *
        clear HW
        go_wp2_with fail
        refine (sfail pb _ c ts vs ln (.ok q (deep + 1)) w3 10 (by decide) HW2.out.rs).mono ?_
        rintro e w4 ⟨rfl, hP4, hC4⟩
        have HE := Lib.hid (HW2.out.call (st' := .bad 10 (posR ts ln q)) hC4 hP4)
        obtain ⟨x3, e3, e4⟩ := HE.out.rs.bad3
        clear hP4 hC4 HW2
        obtain ⟨m0, m1, m2, m3, m4, m5, mf⟩ := six_cells HE.out.nd
        obtain ⟨r0, r1, r2, r3, r4, r5, rf⟩ := node_cells HE.out.rb
        go_wp2_with fail
        refine bodyPost_ret (v := .agg #[.int .i64 8, .slice none 0 0, .string (Lx.strB []), .slice none 0 0, .slice none 0 0, .slice none 0 0]) (by simp [results, Tryd.results71, go_sem, r0, r1, r2, r3, r4, r5]) rfl ?_
        rw [HR.out]
        refine HE.out.fin ?_ (fun n hn => by cases hn)
        exact (Chg.refl [w.heap.size] _).six w.heap.size (.int .i64 8) (.slice none 0 0) (.string (Lx.strB [])) (.slice none 0 0) (.slice none 0 0) (.slice none 0 0) (.inl (by simp))
    · have hlt : q < ts.length := (List.getElem?_eq_some_iff.1 ht).1
      have hd : decide (ts.length ≤ q) = false := decide_eq_false (by omega)
      have HR := Lib.hid (HR0.out.trans (show toS ts ln deep (Ps.eachP ts cmd q) = (St.bad 10 (posR ts ln q), none) from by rw [hb cmd]; rfl))
      obtain ⟨g4, a4, n4, c4, hg4, y0, y1, y2, y3, hP4, hW4⟩ := HW.out.rs.1.toks.cell4 q t ht
      subst hg4
      have ek : (t.kind != 1) = true := by simpa using hk
      have q2 : (q : Int) < (ts.length : Int) := by omega
      have q3 : 0 < ts.length := by omega
      clear hb hlt ht hk hP4 hW4 y1 y2 y3
      go_quiet (fail)
      all_goals
        have HW2 := Lib.hid (HW.out.kept0 ((Chg.refl [] w2).drewN nq))
        generalize w2.drewN nq = w3 at *
        clear HW
        go_wp2_with fail
        refine (sfail pb _ c ts vs ln (.ok q (deep + 1)) w3 10 (by decide) HW2.out.rs).mono ?_
        rintro e w4 ⟨rfl, hP4, hC4⟩
        have HE := Lib.hid (HW2.out.call (st' := .bad 10 (posR ts ln q)) hC4 hP4)
        obtain ⟨x3, e3, e4⟩ := HE.out.rs.bad3
        clear hP4 hC4 HW2
        obtain ⟨m0, m1, m2, m3, m4, m5, mf⟩ := six_cells HE.out.nd
        obtain ⟨r0, r1, r2, r3, r4, r5, rf⟩ := node_cells HE.out.rb
        go_wp2_with fail
        refine bodyPost_ret (v := .agg #[.int .i64 8, .slice none 0 0, .string (Lx.strB []), .slice none 0 0, .slice none 0 0, .slice none 0 0]) (by simp [results, Tryd.results71, go_sem, r0, r1, r2, r3, r4, r5]) rfl ?_
        rw [HR.out]
        refine HE.out.fin ?_ (fun n hn => by cases hn)
        exact (Chg.refl [w.heap.size] _).six w.heap.size (.int .i64 8) (.slice none 0 0) (.string (Lx.strB [])) (.slice none 0 0) (.slice none 0 0) (.slice none 0 0) (.inl (by simp))
    · have hlt : q < ts.length := (List.getElem?_eq_some_iff.1 ht).1
      have hd : decide (ts.length ≤ q) = false := decide_eq_false (by omega)
      have HR := Lib.hid (HR0.out.trans (show toS ts ln deep (Ps.eachP ts cmd q) = (St.bad 10 (posR ts ln q), none) from by rw [hb cmd]; rfl))
      have NM := Lib.hid (fun W => NameR_any t.text W (by have := (GOOD.out t (List.mem_of_getElem? ht)).1.1; omega))
      rw [hn] at NM
      obtain ⟨g4, a4, n4, c4, hg4, y0, y1, y2, y3, hP4, hW4⟩ := HW.out.rs.1.toks.cell4 q t ht
      subst hg4
      have ek : (t.kind != 1) = false := by rw [hk]; rfl
      have q2 : (q : Int) < (ts.length : Int) := by omega
      have q3 : 0 < ts.length := by omega
      clear hb hlt ht hk hn hP4 hW4 y2 y3
      go_still_tail 42, (by kernel_rfl)
      change wpList _ _ _ _ _ w2.drew
      have HW2 := Lib.hid (HW.out.kept0 (Chg.refl [] w2).drew)
      clear HW x0 x1 x3 y0 y1
      generalize w2.drew = w3 at *
      go_wp2_with fail
      refine (NM.out _).mono ?_
      rintro e w3b ⟨rfl, rfl⟩
      go_wp2_with fail
      refine (sfail pb _ c ts vs ln (.ok q (deep + 1)) _ 10 (by decide) HW2.out.rs).mono ?_
      rintro e w4 ⟨rfl, hP4, hC4⟩
      have HE := Lib.hid (HW2.out.call (st' := .bad 10 (posR ts ln q)) hC4 hP4)
      obtain ⟨x3, e3, e4⟩ := HE.out.rs.bad3
      clear hP4 hC4 HW2
      obtain ⟨m0, m1, m2, m3, m4, m5, mf⟩ := six_cells HE.out.nd
      obtain ⟨r0, r1, r2, r3, r4, r5, rf⟩ := node_cells HE.out.rb
      go_wp2_with fail
      refine bodyPost_ret (v := .agg #[.int .i64 8, .slice none 0 0, .string (Lx.strB []), .slice none 0 0, .slice none 0 0, .slice none 0 0]) (by simp [results, Tryd.results71, go_sem, r0, r1, r2, r3, r4, r5]) rfl ?_
      rw [HR.out]
      refine HE.out.fin ?_ (fun n hn => by cases hn)
      exact (Chg.refl [w.heap.size] _).six w.heap.size (.int .i64 8) (.slice none 0 0) (.string (Lx.strB [])) (.slice none 0 0) (.slice none 0 0) (.slice none 0 0) (.inl (by simp))
    · have hlt : q < ts.length := (List.getElem?_eq_some_iff.1 ht).1
      have hd : decide (ts.length ≤ q) = false := decide_eq_false (by omega)
      have HT := Lib.hid ht
      have HKN := Lib.hid (And.intro hk hn)
      have NM := Lib.hid (fun W => NameR_any t.text W (by have := (GOOD.out t (List.mem_of_getElem? ht)).1.1; omega))
      rw [hn] at NM
      obtain ⟨g4, a4, n4, c4, hg4, y0, y1, y2, y3, hP4, hW4⟩ := HW.out.rs.1.toks.cell4 q t ht
      subst hg4
      have ek : (t.kind != 1) = false := by rw [hk]; rfl
      have q2 : (q : Int) < (ts.length : Int) := by omega
      have q3 : 0 < ts.length := by omega
      clear ht hk hn hP4 hW4 y2 y3
      go_still_tail 42, (by kernel_rfl)
      change wpList _ _ _ _ _ w2.drew
      have HW2 := Lib.hid (HW.out.kept0 (Chg.refl [] w2).drew)
      clear HW x0 x1 x3 y0 y1
      generalize w2.drew = w3 at *
      go_wp2_with fail
      refine (NM.out _).mono ?_
      rintro e w3b ⟨rfl, rfl⟩
      have x3 := HW2.out.rs.1.c3
      go_upto_region 7 with (fail)
      have x0 := HW2.out.rs.1.c0
      have x1 := HW2.out.rs.1.c1
      obtain ⟨g4b, a4b, n4b, c4b, hg4, y0, y1, y2, y3, hP4, hW4⟩ := HW2.out.rs.1.toks.cell4 q t HT.out
      cases hg4
      obtain ⟨m0, m1, m2, m3, m4, m5, mf⟩ := six_cells HW2.out.nd
      clear hP4 hW4 y0 y2 y3 m0 m1 m3 m4 m5 x3
      go_cut [] (fun wx => WR w pb (some ⟨g4, 0, none⟩) c ts vs ln nb (.ok q (deep + 1)) (.slice none 0 0) t.text [] (.slice none 0 0) [] wx)
      case first =>
        go_region
        all_goals
          go_wp2
          go_meet
          first
            | exact HW2.out.setName t.text
            | exact (HW2.out.setName t.text).kept0 ((Chg.refl [] _).drew)
            | exact (HW2.out.kept0 (Chg.refl [] _).drew).setName t.text
      case rest =>
        have HW3 := Lib.hid hcut
        clear hcut x0 x1 y1 m2 mf HW2
        have x1 := HW3.out.rs.1.c1
        have f1 := HW3.out.rs.1.free 1
        go_wp2_with fail
        have HW4 := Lib.hid (HW3.out.call (Chg.setP _ pb 1 (.int .i64 ((q : Int) + 1))) (st' := .ok (q + 1) (deep + 1)) (ROk.setAt HW3.out.rs _ (by omega) (by omega)))
        clear x1 f1 HW3
        refine (sneed pb _ c ts vs ln _ _ 1 Ps.kwIn (by decide) HW4.out.rs).mono ?_
        rintro e w5 ⟨rfl, hP5, hC5⟩
        obtain ⟨s2, hs2⟩ : ∃ s2, (St.ok (q + 1) (deep + 1)).need ts ln 1 Ps.kwIn = s2 := ⟨_, rfl⟩
        rw [hs2] at hP5
        have HW5 := Lib.hid (HW4.out.call hC5 hP5)
        have HA2 := Lib.hid (show s2.At (deep + 1) from hs2 ▸ need_at (s := .ok (q + 1) (deep + 1)) rfl)
        have HS2 := Lib.hid hs2
        clear hP5 hC5 HW4 hs2 hlt hd ek q2 q3 NM
        go_wp2_with fail
        go_loopg [] (ts.length + 1) (fun g wr => ∃ (s : St) (ps : List (List Lx.Part)) (wv : Value) (xs : List Value), WR w pb (some ⟨g4, 0, none⟩) c ts vs ln nb s (.slice none 0 0) t.text ps wv xs wr ∧ Hid (s.wordsEnd ts = s2.wordsEnd ts ∧ ps ++ s.wordsOf ts = s2.wordsOf ts) ∧ Hid (s.At (deep + 1)) ∧ Hid (∀ q d, s = .ok q d → ps.length ≤ q ∧ ts.length < q + g))
        case atStart => exact ⟨s2, [], _, [], HW5.out, Lib.hid ⟨rfl, rfl⟩, HA2, Lib.hid (fun q d _ => ⟨Nat.zero_le _, by omega⟩)⟩
        case round =>
          obtain ⟨s, ps, wv, xs, hW, hr, hat, hfu⟩ := hrel
          clear HW5 HA2
          have HW := Lib.hid hW
          clear hW
          go_upto_region 10 with (fail)
          go_cut [112] from 82 to 135 (fun v112 wx => v112 = .bool (s.is ts 1 []) ∧ WR w pb (some ⟨g4, 0, none⟩) c ts vs ln nb s (.slice none 0 0) t.text ps wv xs wx)
          case first =>
            rcases word_cases ts s with ⟨er, t0, rfl, hb⟩ | ⟨b, d, rfl, hlt, hb⟩ | ⟨b, d, t2, rfl, ht2, hk2, hb⟩ | ⟨b, d, t2, rfl, ht2, hk2, hb⟩
            · obtain ⟨x3, e3, e4⟩ := HW.out.rs.bad3
              have HB := Lib.hid hb
              clear hb hr hat hfu
              go_quiet (fail)
              all_goals
                go_wp2
                go_meet
                rw [HB.out]
                exact ⟨rfl, HW.out.kept0 ((Chg.refl [] _).drewN _)⟩
            · have x0 := HW.out.rs.1.c0
              have x1 := HW.out.rs.1.c1
              have x3 := HW.out.rs.1.c3
              have b0 : (0 : Int) ≤ (b : Int) := by omega
              have b9 : (b : Int) ≤ 100000 := by have := HW.out.rs.2.1; omega
              have hd : decide (b < ts.length) = false := decide_eq_false hlt
              have HB := Lib.hid hb
              clear hb hr hat hfu hlt
              go_quiet (fail)
              all_goals
                go_wp2
                go_meet
                rw [HB.out]
                exact ⟨rfl, HW.out.kept0 ((Chg.refl [] _).drewN _)⟩
            · have x0 := HW.out.rs.1.c0
              have x1 := HW.out.rs.1.c1
              have x3 := HW.out.rs.1.c3
              have hlt : b < ts.length := (List.getElem?_eq_some_iff.1 ht2).1
              have b0 : (0 : Int) ≤ (b : Int) := by omega
              have b9 : (b : Int) ≤ 100000 := by omega
              have b2 : (b : Int) < (ts.length : Int) := by omega
              have b3 : 0 < ts.length := by omega
              have hd : decide (b < ts.length) = true := decide_eq_true hlt
              obtain ⟨g4b, a4b, n4b, c4b, hg4, y0, y1, y2, y3, hP4, hW4⟩ := HW.out.rs.1.toks.cell4 b t2 ht2
              cases hg4
              have ek : (t2.kind == 1) = false := by rw [beq_eq_false_iff_ne]; exact hk2
              have HB := Lib.hid hb
              clear hb hr hat hfu hlt ht2 hk2 hP4 hW4 y1 y2 y3
              go_quiet (fail)
              all_goals
                go_wp2
                go_meet
                rw [HB.out]
                exact ⟨rfl, HW.out.kept0 ((Chg.refl [] _).drewN _)⟩
            · have x0 := HW.out.rs.1.c0
              have x1 := HW.out.rs.1.c1
              have x3 := HW.out.rs.1.c3
              have hlt : b < ts.length := (List.getElem?_eq_some_iff.1 ht2).1
              have b0 : (0 : Int) ≤ (b : Int) := by omega
              have b9 : (b : Int) ≤ 100000 := by omega
              have b2 : (b : Int) < (ts.length : Int) := by omega
              have b3 : 0 < ts.length := by omega
              have hd : decide (b < ts.length) = true := decide_eq_true hlt
              obtain ⟨g4b, a4b, n4b, c4b, hg4, y0, y1, y2, y3, hP4, hW4⟩ := HW.out.rs.1.toks.cell4 b t2 ht2
              cases hg4
              have ek : (t2.kind == 1) = true := by rw [beq_iff_eq]; exact hk2
              have HB := Lib.hid hb
              clear hb hr hat hfu hlt ht2 hk2 hP4 hW4 y1 y2 y3
              go_quiet (fail)
              all_goals
                go_wp2
                go_meet
                rw [HB.out]
                exact ⟨rfl, HW.out.kept0 ((Chg.refl [] _).drewN _)⟩
          case rest =>
            obtain ⟨rfl, hW6⟩ := hcut
            have HW6 := Lib.hid hW6
            clear hW6 HW
            cases hb : s.is ts 1 [] with
            | true =>
              obtain ⟨b, d, rfl, hT1⟩ := is_ok hb
              obtain rfl : d = deep + 1 := hat.out
              have hlt := isT_lt hT1
              obtain ⟨t2, ht2⟩ : ∃ t2, ts[b]? = some t2 := ⟨_, List.getElem?_eq_getElem hlt⟩
              have hf2 := hfu.out b _ rfl
              cases gk with
              | zero => omega
              | succ g =>
              obtain ⟨w1e, w1o⟩ := words_next (d := deep + 1) ht2 hT1
              have HR2 := Lib.hid (show (St.ok (b + 1) (deep + 1)).wordsEnd ts = s2.wordsEnd ts ∧ (ps ++ [t2.parts]) ++ (St.ok (b + 1) (deep + 1)).wordsOf ts = s2.wordsOf ts from ⟨by rw [← w1e]; exact hr.out.1, by rw [List.append_assoc, ← hr.out.2, w1o]; rfl⟩)
              have HF2 := Lib.hid hf2
              have x0 := HW6.out.rs.1.c0
              have x1 := HW6.out.rs.1.c1
              obtain ⟨g4b, a5, n5, c5, hg4, y0, y1, y2, y3, hP4, hWI⟩ := HW6.out.rs.1.toks.cell4 b t2 ht2
              cases hg4
              have HWI := Lib.hid hWI
              have b0 : (0 : Int) ≤ (b : Int) := by omega
              have b9 : (b : Int) ≤ 100000 := by omega
              have b2 : (b : Int) < (ts.length : Int) := by omega
              have b3 : 0 < ts.length := by omega
              obtain ⟨m0, m1, m2, m3, m4, m5, mf⟩ := six_cells HW6.out.nd
              obtain ⟨av, nv, cv, rfl, hnv⟩ := HW6.out.row.shape3
              obtain rfl : nv = ps.length := hnv.out
              have hps : ps.length ≤ 100000 := by omega
              have HND := Lib.hid (show nb ∉ rowBlock (.slice av ps.length cv) from fun hj => (HW6.out.new _ hj).2 rfl)
              obtain ⟨i0, hi, hz0, hz1, hz2⟩ := info_parts Tryd.infoWordR
              clear hb hT1 hlt ht2 hf2 hr hat hfu w1e w1o hWI hP4 y0 y1 y3 m0 m1 m2 m4 m5 hnv
              go_upto_region 11 with (fail)
              rename_i wz
              have x0a := fun (o : Obj) => ((Chg.refl [] _).alloc o).cell x0 (by simp)
              have x1a := fun (o : Obj) => ((Chg.refl [] _).alloc o).cell x1 (by simp)
              have y2a := fun (o : Obj) => ((Chg.refl [] _).alloc o).cell y2 (by simp)
              have m3a := fun (o : Obj) => ((Chg.refl [] _).alloc o).cell m3 (by simp)
              go_cut [] from 82 to 135 (fun wx => ∃ v', WR w pb (some ⟨g4, 0, none⟩) c ts vs ln nb (.ok b (deep + 1)) (.slice none 0 0) t.text (ps ++ [t2.parts]) v' (xs ++ [.slice a5 n5 c5]) wx)
              case first =>
                go_region_law ((refine step_append_row (by rfl) _ _ 38 (by rfl) 78 i0 _ 1 24 Tryd.underlying38 hi hz0 hz1 hz2 (by rfl) (by decide) _ ps.length xs (by rfl) (HW6.out.row.kept0 ((Chg.refl [] _).drew.alloc _)) _ 1 1 [.slice a5 n5 c5] (by rfl) (by rfl) (srcNew _ _ _ _) (by simp [Value.oneCell']) (by unfold maxLen; omega) (by omega) ?_; intro v' w10 r10 q10 g10; obtain ⟨av', cv', rfl, _⟩ := r10.shape; have hx10 := (((Chg.refl (rowBlock (.slice av ps.length cv)) _).drew.alloc _).trans q10 (fun x hx => .inl hx)).obj HW6.out.nd HND.out; have yf := free_of_obj hx10 3; have ym := cell_of_obj hx10 (j := 3) rfl; have FIN := Lib.hid (And.intro r10 (And.intro q10 g10)); clear r10 q10 g10 hx10))
                all_goals
                  go_wp2
                  go_meet
                  first
                    | exact ⟨_, HW6.out.add HWI.out ((Chg.refl [] _).drew.alloc _) FIN.out.1 FIN.out.2.1 (fun x hx => (FIN.out.2.2 x hx).imp id (fun h => by simp at h; omega))⟩
                    | exact ⟨_, (HW6.out.add HWI.out ((Chg.refl [] _).drew.alloc _) FIN.out.1 FIN.out.2.1 (fun x hx => (FIN.out.2.2 x hx).imp id (fun h => by simp at h; omega))).kept0 (Chg.refl [] _).drew⟩
              case rest =>
                obtain ⟨v', hW9⟩ := hcut
                have HW9 := Lib.hid hW9
                clear hW9 x0 x1 x0a x1a y2 y2a m3 m3a mf HW6
                have x1 := HW9.out.rs.1.c1
                have f1 := HW9.out.rs.1.free 1
                go_wp2
                go_roundg g
                case measure => omega
                case rel => exact ⟨.ok (b + 1) (deep + 1), _, _, _, HW9.out.call (Chg.setP _ pb 1 _) (st' := .ok (b + 1) (deep + 1)) (ROk.setAt HW9.out.rs _ (by go_num) (by omega)), HR2, Lib.hid rfl, Lib.hid (fun q d e => by cases e; have := HF2.out; simp; omega)⟩
            | false =>
              obtain ⟨w1e, w1o⟩ := words_end hb
              have hse : s2.wordsEnd ts = s := by rw [← hr.out.1]; exact w1e
              have hso : s2.wordsOf ts = ps := by rw [← hr.out.2, w1o, List.append_nil]
              have hat2 := hat.out
              have HX := Lib.hid (fun T hT => eachS ts ln deep cmd q t HT.out HKN.out.1 HKN.out.2 s2 HS2.out T hT)
              rw [hse, hso] at HX
              clear hb hr hfu w1e w1o hse hso hat
              go_upto_region 13 with (fail)
              obtain ⟨em1, em2⟩ := endsMust_eq ts ln s
              have EM1 := Lib.hid em1
              have EM2 := Lib.hid em2
              obtain ⟨N, hN⟩ : ∃ N, s.endsN ts = N := ⟨_, rfl⟩
              rw [hN] at EM1 EM2
              clear em1 em2
              go_cut [138] (fun v138 wx => v138 = .bool (N == 0) ∧ WR w pb (some ⟨g4, 0, none⟩) c ts vs ln nb (s.ends ts) (.slice none 0 0) t.text ps wv xs wx)
              case first =>
                have SE := Lib.hid (sends pb _ c ts vs ln s _ HW6.out.rs)
                have hz : ((N : Int) == 0) = (N == 0) := by cases N with | zero => rfl | succ n => simp; omega
                rw [hN] at SE
                go_wp2_with fail
                refine SE.out.mono ?_
                rintro e w7 ⟨rfl, hP7, hC7⟩
                have HW7 := Lib.hid (HW6.out.call hC7 hP7)
                clear hP7 hC7
                go_wp2
                go_meet
                exact ⟨by first | rfl | rw [hz], HW7.out⟩
              case rest =>
              obtain ⟨rfl, hW7⟩ := hcut
              have HW7 := Lib.hid hW7
              clear hW7 HW6 hN
              apply_assumption
              go_cut [] (fun wx => WR w pb (some ⟨g4, 0, none⟩) c ts vs ln nb (s.endsMust ts ln) (.slice none 0 0) t.text ps wv xs wx)
              case first =>
                by_cases h0 : N = 0
                · subst h0
                  have EM := Lib.hid (EM1.out rfl)
                  clear EM1 EM2
                  go_wp2_with fail
                  refine (sfail pb _ c ts vs ln _ _ 10 (by decide) HW7.out.rs).mono ?_
                  rintro e w8 ⟨rfl, hP8, hC8⟩
                  rw [EM.out] at hP8
                  have HW8 := Lib.hid (HW7.out.call hC8 hP8)
                  clear hP8 hC8
                  go_wp2
                  go_meet
                  exact HW8.out
                · have EM := Lib.hid (EM2.out h0)
                  have hz : (N == 0) = false := by rw [beq_eq_false_iff_ne]; exact h0
                  clear EM1 EM2 h0
                  go_wp2
                  go_meet
                  rw [← EM.out]
                  exact HW7.out
              case rest =>
                clear HW7
                have HW7 := Lib.hid hcut
                have HA7 := Lib.hid (endsMust_at (ts := ts) (ln := ln) hat2)
                clear hcut EM1 EM2 hat2
                generalize s.endsMust ts ln = s3 at *
                go_wp2_with fail
                refine (sneed pb _ c ts vs ln s3 _ 1 Ps.kwDo (by decide) HW7.out.rs).mono ?_
                rintro e w8 ⟨rfl, hP8, hC8⟩
                have HW8 := Lib.hid (HW7.out.call hC8 hP8)
                have HA8 := Lib.hid (need_at (ts := ts) (ln := ln) (k := 1) (x := Ps.kwDo) HA7.out)
                clear hP8 hC8 HW7 HA7
                generalize s3.need ts ln 1 Ps.kwDo = s4 at *
                go_wp2_with fail
                refine (HLI.out false s4 _ HA8.out HW8.out.rs).mono ?_
                obtain ⟨T, hT⟩ : ∃ T, s4.step ts ln (listQ ts cmd (!false)) = T := ⟨_, rfl⟩
                rw [hT]
                rintro e w9 ⟨cs, ⟨k3, sx3, ka3, wa3, sa3, ra3, kn3, kc3, wn3, wc3, sn3, sc3, rn3, rc3, rfl⟩, rfl, hC9, hP9, hN9⟩
                have HW9 := Lib.hid ((HW8.out.call hC9 hP9).kept0 ((Chg.refl [] w9).alloc (.cells #[.int .i64 k3, .slice ka3 kn3 kc3, .string (Lx.strB sx3), .slice wa3 wn3 wc3, .slice sa3 sn3 sc3, .slice ra3 rn3 rc3] 42)))
                have HN9 := Lib.hid (show HeldN (.slice (some ⟨g4, 0, none⟩) ts.length c) vs w8.heap.size w9.heap.size T.2 [.int .i64 k3, .slice ka3 kn3 kc3, .string (Lx.strB sx3), .slice wa3 wn3 wc3, .slice sa3 sn3 sc3, .slice ra3 rn3 rc3] (w9.alloc (.cells #[.int .i64 k3, .slice ka3 kn3 kc3, .string (Lx.strB sx3), .slice wa3 wn3 wc3, .slice sa3 sn3 sc3, .slice ra3 rn3 rc3] 42)) from HeldN.kept (fun x hx => hN9 x hx) ((Chg.refl [] w9).alloc _) (by simp))
                have HKB := Lib.hid (obj_alloc_new w9 (.cells #[.int .i64 k3, .slice ka3 kn3 kc3, .string (Lx.strB sx3), .slice wa3 wn3 wc3, .slice sa3 sn3 sc3, .slice ra3 rn3 rc3] 42))
                have HLO := Lib.hid (show w8.heap.size ≤ w9.heap.size ∧ nb < w8.heap.size ∧ pb < w.heap.size ∧ w.heap.size < nb from ⟨hC9.size, lt_of_obj HW8.out.nd, HW8.out.old.1, HW8.out.nb0⟩)
                have HHT := Lib.hid (HX.out T hT)
                have HAT := Lib.hid (show T.1.At (deep + 1) from hT ▸ step_at HA8.out)
                obtain ⟨m0, m1, m2, m3, m4, m5, mf⟩ := six_cells HW9.out.nd
                obtain ⟨a0, a1, a2, a3, a4, a5, af⟩ := six_cells_alloc (HW8.out.call hC9 hP9).nd
                clear hC9 hP9 hN9 hT HX HA8 HW8
                go_wp2_with fail
                have hCk : Chg [nb] (w9.alloc (.cells #[.int .i64 k3, .slice ka3 kn3 kc3, .string (Lx.strB sx3), .slice wa3 wn3 wc3, .slice sa3 sn3 sc3, .slice ra3 rn3 rc3] 42)) ((w9.alloc (.cells #[.int .i64 k3, .slice ka3 kn3 kc3, .string (Lx.strB sx3), .slice wa3 wn3 wc3, .slice sa3 sn3 sc3, .slice ra3 rn3 rc3] 42)).setCell ⟨nb, 1, none⟩ (.slice (some ⟨w9.heap.size, 0, none⟩) 1 1)) := (Chg.refl _ _).setCell _ _ (.inl (by simp))
                have HW10 := Lib.hid (HW9.out.setKids w9.heap.size)
                have HNT := Lib.hid (show ¬ TB (.slice (some ⟨g4, 0, none⟩) ts.length c) vs nb from fun ht => by have := HW9.out.old.2 nb ht; have := HLO.out; omega)
                have HN10 := Lib.hid (HN9.out.kept hCk (fun k hk => by simp at hk; subst hk; exact ⟨HNT.out, HLO.out.2.1⟩))
                have HKB10 := Lib.hid (hCk.obj HKB.out (by have := HLO.out; simp; omega))
                clear hCk m0 m1 m2 m3 m4 m5 mf a0 a1 a2 a3 a4 a5 af HW9 HN9 HKB
                generalize (w9.alloc (.cells #[.int .i64 k3, .slice ka3 kn3 kc3, .string (Lx.strB sx3), .slice wa3 wn3 wc3, .slice sa3 sn3 sc3, .slice ra3 rn3 rc3] 42)).setCell ⟨nb, 1, none⟩ (.slice (some ⟨w9.heap.size, 0, none⟩) 1 1) = w10 at *
                refine (sneed pb _ c ts vs ln T.1 w10 1 Ps.kwDone (by decide) HW10.out.rs).mono ?_
                rintro e w11 ⟨rfl, hP11, hC11⟩
                have HW11 := Lib.hid (HW10.out.call hC11 hP11)
                have HN11 := Lib.hid (HN10.out.kept hC11 (fun k hk => by simp at hk; subst hk; exact ⟨HW10.out.rs.out, by have := HLO.out; omega⟩))
                have HKB11 := Lib.hid (hC11.obj HKB10.out (by have := HLO.out; simp; omega))
                have HAU := Lib.hid (need_at (ts := ts) (ln := ln) (k := 1) (x := Ps.kwDone) HAT.out)
                clear hP11 hC11 HW10 HN10 HKB10
                obtain ⟨⟨d5, x5⟩, f5⟩ := HW11.out.rs.c5
                go_upto_region 19 with (fail)
                have hC12 := Chg.setP w11 pb 5 (.int .i64 (wrap64 (d5 - 1)))
                have HW12 := Lib.hid (HW11.out.call hC12 (upR HW11.out.rs x5 (fun q' e' h' => by have := HAU.out; rw [h'] at this; have : e' = deep + 1 := this; omega)))
                have HN12 := Lib.hid (HN11.out.kept hC12 (fun k hk => by simp at hk; subst hk; exact ⟨HW11.out.rs.out, by have := HLO.out; omega⟩))
                have HKB12 := Lib.hid (hC12.obj HKB11.out (by have := HLO.out; simp; omega))
                clear hC12 x5 f5 HW11 HN11 HKB11
                generalize w11.setCell ⟨pb, 5, none⟩ (.int .i64 (wrap64 (d5 - 1))) = w12 at *
                obtain ⟨wa, wn, wk, rfl, _⟩ := HW12.out.row.shape3
                obtain ⟨m0, m1, m2, m3, m4, m5, mf⟩ := six_cells HW12.out.nd
                obtain ⟨r0, r1, r2, r3, r4, r5, rf⟩ := node_cells HW12.out.rb
                go_wp2_with fail
                refine bodyPost_ret (v := .agg #[.int .i64 8, .slice (some ⟨w9.heap.size, 0, none⟩) 1 1, .string (Lx.strB t.text), .slice wa wn wk, .slice none 0 0, .slice none 0 0]) (by simp [results, Tryd.results71, go_sem, r0, r1, r2, r3, r4, r5]) rfl ?_
                obtain ⟨o, ho1, ho2⟩ := HHT.out
                rw [HR0.out, ho1]
                refine HW12.out.fin ?_ (fun n hn => ?_)
                · exact (Chg.refl [w.heap.size] w12).six w.heap.size (.int .i64 8) (.slice (some ⟨w9.heap.size, 0, none⟩) 1 1) (.string (Lx.strB t.text)) (.slice wa wn wk) (.slice none 0 0) (.slice none 0 0) (.inl (by simp))
                · obtain ⟨x, hx1, hx2⟩ := ho2 n hn
                  exact ⟨x, _, w9.heap.size, hx2, rfl, rfl, rfl, HKB12.out, by have := HLO.out; omega, NodeAt.mono (fun j hj => hj.imp id (fun h => ⟨by have := HLO.out; omega, by have := lt_of_obj HKB12.out; omega⟩)) _ _ (HN12.out x hx1)⟩

end Go.Proofs.YtfgbbmnmblchiaaDoor
