/-
  ParseChains' show: walked.
-/
import Derived.Test.YtfgbbmnmblchiaaDoorPAwake
import Derived.Test.YtfgbbmnmblchiaaDoorChainsP
namespace Go.Proofs.YtfgbbmnmblchiaaDoor
open Go.RowKit
set_option linter.unusedVariables false

theorem WordsAt.one {w : World} {S : Nat → Prop} {p : Lx.Part} {xs : List Value} (h : WordsAt w S [[p]] xs) : ∃ pb pc, xs = [.slice (some ⟨pb, 0, none⟩) 1 pc] ∧ w.cell? ⟨pb, 1, none⟩ = some (.string (Lx.strB p.text)) := by
  obtain ⟨u, ys, rfl, h1, rfl⟩ := h
  obtain ⟨a2, c2, rfl, hle2, _, hx2⟩ := h1
  obtain ⟨b2, rfl, _, hc2⟩ := hx2 (by simp [pcells, partCells])
  exact ⟨b2, c2, rfl, hc2 1 _ rfl⟩

/-- a command of one word of one piece. -/
theorem NodeAt.word0 {w : World} {S : Nat → Prop} {n : Ps.Node} {p : Lx.Part} {cs : List Value} (h : NodeAt w S n cs) (hw : n.words = [[p]]) :
    ∃ wb wc pb pc, cs[3]? = some (.slice (some ⟨wb, 0, none⟩) 1 wc) ∧ w.cell? ⟨wb, 0, none⟩ = some (.slice (some ⟨pb, 0, none⟩) 1 pc) ∧ w.cell? ⟨pb, 1, none⟩ = some (.string (Lx.strB p.text)) := by
  cases n with
  | mk kind kids name words sets reds =>
    simp only [Ps.Node.words] at hw
    subst hw
    unfold NodeAt at h
    obtain ⟨kv, wv, sv, rv, kx, wx, sx, rx, rfl, _, _, ⟨a, c, rfl, hle, hcm, hx⟩, h5, _⟩ := h
    obtain ⟨pb, pc, rfl, h6⟩ := WordsAt.one h5
    obtain ⟨b, rfl, hS, hc⟩ := hx (by simp)
    exact ⟨b, c, pb, pc, rfl, hc 0 _ rfl, h6⟩

theorem ret_s {a b : List UInt8} (h : a = b) : Ending.returned (.string (Lx.strB a)) = .returned (.string (Lx.strB b)) := by rw [h]

set_option maxHeartbeats 2000000 in
set_option maxRecDepth 10000 in
theorem show_cmd (x : List UInt8) (S : Nat → Prop) (cs : List Value) (w : World) (h : NodeAt w S (cmdC x) cs) :
    Calls Tryd.prog 8 #[.agg cs.toArray] w fun e w' => e = .returned (.string (Lx.strB x)) ∧ Chg [] w w' := by
  obtain ⟨wb, wc, pb, pc, h1, h2, h3⟩ := h.word0 (p := ⟨1, x⟩) rfl
  obtain ⟨s0, ka0, wa0, sa0, ra0, kn0, kc0, wn0, wc0, sn0, sc0, rn0, rc0, rfl, j1, j2, j3, j4⟩ := h.cells6 (z := 5) rfl
  have e0 : Value.slice wa0 wn0 wc0 = .slice (some ⟨wb, 0, none⟩) 1 wc := Option.some.inj h1
  cases e0
  have hob := obj_alloc_new w (.cells #[.int .i64 5, .slice ka0 kn0 kc0, .string s0, .slice (some ⟨wb, 0, none⟩) 1 wc, .slice sa0 sn0 sc0, .slice ra0 rn0 rc0] 30)
  have hal : Chg [] w (w.alloc (.cells #[.int .i64 5, .slice ka0 kn0 kc0, .string s0, .slice (some ⟨wb, 0, none⟩) 1 wc, .slice sa0 sn0 sc0, .slice ra0 rn0 rc0] 30)) := (Chg.refl [] w).alloc _
  have y1 := hal.cell h2 (by simp)
  have y2 := hal.cell h3 (by simp)
  have HAL := Lib.hid hal
  clear h h1 h2 h3 j1 j2 j3 j4 hal
  obtain ⟨t0, t1, t2, t3, t4, t5, tf⟩ := six_cells hob
  clear hob
  go_enter Tryd.func8, Tryd.ntmps8
  go_wp2
  go_ret
  exact ⟨rfl, HAL.out⟩

theorem jnC_len (sep : List UInt8) (l : List (List UInt8)) : ∀ i j, i ≤ j → (jnC sep l i).length ≤ (jnC sep l j).length := by
  intro i j hij
  induction j with
  | zero => obtain rfl : i = 0 := by omega
            exact Nat.le_refl _
  | succ j ih =>
    by_cases h : i = j + 1
    · rw [h]; exact Nat.le_refl _
    · refine Nat.le_trans (ih (by omega)) ?_
      show _ ≤ (jnC sep l j ++ (if 0 < j then sep else []) ++ l.getD j []).length
      rw [List.length_append, List.length_append]
      omega

theorem jnC_count (sep : List UInt8) (hs : 1 ≤ sep.length) (l : List (List UInt8)) : ∀ i, i ≤ (jnC sep l i).length + 1
  | 0 => by omega
  | 1 => by omega
  | i + 2 => by
    have ih := jnC_count sep hs l (i + 1)
    show _ ≤ (jnC sep l (i + 1) ++ (if 0 < i + 1 then sep else []) ++ l.getD (i + 1) []).length + 1
    rw [if_pos (by omega), List.length_append, List.length_append]
    omega

theorem jn_first (l : List (List UInt8)) (x : List UInt8) : Lx.strB (jnC [32, 124, 32] l 0) ++ Lx.strB x = Lx.strB (jnC [32, 124, 32] l 0 ++ x) := Lx.strB_append _ _

set_option maxHeartbeats 4000000 in
set_option maxRecDepth 10000 in
theorem show_pipe (l : List (List UInt8)) (S : Nat → Prop) (cs : List Value) (w : World) (h : NodeAt w S (Ps.node 4 (l.map cmdC)) cs) (hl : (jnC [32, 124, 32] l l.length).length ≤ 100000) (hll : l.length ≤ 100001) :
    Calls Tryd.prog 8 #[.agg cs.toArray] w fun e w' => e = .returned (.string (Lx.strB (jnC [32, 124, 32] l l.length))) ∧ Chg [] w w' := by
  have HN := Lib.hid h
  obtain ⟨s0, ka0, wa0, sa0, ra0, kn0, kc0, wn0, wc0, sn0, sc0, rn0, rc0, rfl, hkn, j2, j3, j4⟩ := h.cells6 (z := 4) rfl
  have hkl : kn0 = l.length := hkn.trans (by show (l.map cmdC).length = _; rw [List.length_map])
  subst hkl
  have hob := obj_alloc_new w (.cells #[.int .i64 4, .slice ka0 l.length kc0, .string s0, .slice wa0 wn0 wc0, .slice sa0 sn0 sc0, .slice ra0 rn0 rc0] 30)
  have HAL := Lib.hid (show Chg [] w (w.alloc (.cells #[.int .i64 4, .slice ka0 l.length kc0, .string s0, .slice wa0 wn0 wc0, .slice sa0 sn0 sc0, .slice ra0 rn0 rc0] 30)) from (Chg.refl [] w).alloc _)
  clear h j2 j3 j4 hkn
  have HOB := Lib.hid hob
  obtain ⟨t0, t1, t2, t3, t4, t5, tf⟩ := six_cells hob
  clear hob
  go_enter Tryd.func8, Tryd.ntmps8
  go_upto_region 13 with (fail)
  generalize w.alloc (.cells #[.int .i64 4, .slice ka0 l.length kc0, .string s0, .slice wa0 wn0 wc0, .slice sa0 sn0 sc0, .slice ra0 rn0 rc0] 30) = w1 at *
  generalize w.heap.size = tb at *
  clear t0 t1 t2 t3 t4 t5 tf
  go_wp2_with fail
  go_loopg [3, 4] (l.length + 1) (fun g c3 c4 wr => ∃ i : Nat, l.length < i + g ∧ i ≤ l.length ∧ c3 = .string (Lx.strB (jnC [32, 124, 32] l i)) ∧ c4 = .int .i64 i ∧ Hid (Chg [] w1 wr))
  case atStart => exact ⟨0, by omega, by omega, rfl, rfl, Lib.hid (Chg.refl [] w1)⟩
  case round =>
    obtain ⟨i, hg, hi, rfl, rfl, HC⟩ := hrel
    have i0 : (0 : Int) ≤ (i : Int) := by omega
    have hsz := Lx.strB_size (jnC [32, 124, 32] l i)
    have hl2 := Nat.le_trans (jnC_len [32, 124, 32] l i l.length hi) hl
    obtain ⟨t0, t1, t2, t3, t4, t5, tf⟩ := six_cells (HC.out.obj HOB.out (by simp))
    by_cases hlt : i < l.length
    · cases gk with
      | zero => omega
      | succ g =>
        have hd : decide (i < l.length) = true := decide_eq_true hlt
        have i1 : (i : Int) < (l.length : Int) := by omega
        have i2 : 0 < l.length := by omega
        obtain ⟨x, hx⟩ : ∃ x, l[i]? = some x := ⟨_, List.getElem?_eq_getElem hlt⟩
        have hstep : jnC [32, 124, 32] l (i + 1) = jnC [32, 124, 32] l i ++ (if 0 < i then [32, 124, 32] else []) ++ x := by
          show _ ++ _ ++ l.getD i [] = _
          rw [List.getD_eq_getElem?_getD, hx]
          rfl
        have hl3 := Nat.le_trans (jnC_len [32, 124, 32] l (i + 1) l.length hlt) hl
        rw [hstep, List.length_append, List.length_append] at hl3
        obtain ⟨b0, c0, ds, hk0, hNk, hx0⟩ := NodeAt.kid (i := i) (k := cmdC x) (NodeAt.kept (HAL.out.then0 HC.out) (by simp) _ _ HN.out) (by show (l.map cmdC)[i]? = _; rw [List.getElem?_map, hx]; rfl)
        obtain ⟨s1, ka1, wa1, sa1, ra1, kn1, kc1, wn1, wc1, sn1, sc1, rn1, rc1, rfl, j1, j2, j3, j4⟩ := hNk.cells6 (z := 5) rfl
        have e0 : Value.slice ka0 l.length kc0 = .slice (some ⟨b0, 0, none⟩) (l.map cmdC).length c0 := Option.some.inj hk0
        rw [List.length_map] at e0
        cases e0
        have y0 : wr.cell? ⟨b0, i * 6, none⟩ = some (.int .i64 5) := hx0 0 _ rfl
        have y1 := hx0 1 _ rfl
        have y2 := hx0 2 _ rfl
        have y3 := hx0 3 _ rfl
        have y4 := hx0 4 _ rfl
        have y5 := hx0 5 _ rfl
        have SC := Lib.hid (show_cmd x S _ wr hNk)
        have hszx := Lx.strB_size x
        have HG := Lib.hid hg
        have HST := Lib.hid hstep
        clear hg j1 j2 j3 j4 hk0 hx0 hNk hstep hx
        by_cases h0 : i = 0
        · have hd0 : decide (0 < i) = false := decide_eq_false (by omega)
          have HS2 := Lib.hid (show Lx.strB (jnC [32, 124, 32] l i) ++ Lx.strB x = Lx.strB (jnC [32, 124, 32] l (i + 1)) from by rw [HST.out, if_neg (by omega), List.append_nil, Lx.strB_append])
          obtain ⟨L, hL⟩ : ∃ L, (jnC [32, 124, 32] l i).length = L := ⟨_, rfl⟩
          obtain ⟨M, hM⟩ : ∃ M, x.length = M := ⟨_, rfl⟩
          rw [hL] at hsz hl2 hl3
          rw [hM] at hszx hl3
          have o1 := eq_false (show ¬ 9223372036854775807 < L + M from by omega)
          clear hL hM h0
          go_wp2_with fail
          refine SC.out.mono ?_
          rintro e w3 ⟨rfl, hC3⟩
          have HC3 := Lib.hid (HC.out.then0 hC3)
          clear hC3
          go_wp2
          go_roundg g
          case measure => omega
          case rel => exact ⟨i + 1, by have := HG.out; omega, by omega, congrArg Value.string HS2.out, by go_num, HC3⟩
        · have hd0 : decide (0 < i) = true := decide_eq_true (by omega)
          have HS2 := Lib.hid (show Lx.strB (jnC [32, 124, 32] l i) ++ ⟨#[32, 124, 32]⟩ ++ Lx.strB x = Lx.strB (jnC [32, 124, 32] l (i + 1)) from by
            rw [HST.out, if_pos (by omega)]
            have h1 := Lx.strB_append (jnC [32, 124, 32] l i) [32, 124, 32]
            have h2 := Lx.strB_append (jnC [32, 124, 32] l i ++ [32, 124, 32]) x
            rw [← h2, ← h1]
            rfl)
          rw [if_pos (show 0 < i by omega)] at hl3
          obtain ⟨L, hL⟩ : ∃ L, (jnC [32, 124, 32] l i).length = L := ⟨_, rfl⟩
          obtain ⟨M, hM⟩ : ∃ M, x.length = M := ⟨_, rfl⟩
          rw [hL] at hsz hl2 hl3
          rw [hM] at hszx hl3
          simp only [List.length_cons, List.length_nil] at hl3
          have o1 := eq_false (show ¬ 9223372036854775807 < L + 3 from by omega)
          have o2 := eq_false (show ¬ 9223372036854775807 < L + 3 + M from by omega)
          clear hL hM h0
          go_wp2_with fail
          refine SC.out.mono ?_
          rintro e w3 ⟨rfl, hC3⟩
          have HC3 := Lib.hid (HC.out.then0 hC3)
          clear hC3
          go_wp2
          go_roundg g
          case measure => omega
          case rel => exact ⟨i + 1, by have := HG.out; omega, by omega, congrArg Value.string HS2.out, by go_num, HC3⟩
    · obtain rfl : i = l.length := by omega
      have hd : decide (l.length < l.length) = false := decide_eq_false (by omega)
      clear hg hi hlt
      go_wp2
      go_ret
      exact ⟨rfl, HAL.out.then0 HC.out⟩

/-- what 'show' says of a tree. -/
def ShowOk (n : Ps.Node) (s : List UInt8) : Prop := s.length ≤ 100000 → ∀ (S : Nat → Prop) (cs : List Value) (w : World), NodeAt w S n cs → Calls Tryd.prog 8 #[.agg cs.toArray] w fun e w' => e = .returned (.string (Lx.strB s)) ∧ Chg [] w w'

set_option maxHeartbeats 4000000 in
set_option maxRecDepth 10000 in
theorem show_and (a b : Ps.Node) (s u : List UInt8) (ha : ShowOk a s) (hb : ShowOk b u) (hb2 : b.kind ≠ 2) (hb3 : b.kind ≠ 3) : ShowOk (Ps.node 2 [a, b]) (s ++ [32, 38, 38, 32] ++ u) := by
  intro hl S cs w h
  obtain ⟨s0, ka0, wa0, sa0, ra0, kn0, kc0, wn0, wc0, sn0, sc0, rn0, rc0, rfl, hkn, j2, j3, j4⟩ := h.cells6 (z := 2) rfl
  obtain ⟨b0, c0, ds, hk0, hNa, hx0⟩ := h.kid (i := 0) (k := a) rfl
  obtain ⟨b1, c1, es, hk1, hNb, hx1⟩ := h.kid (i := 1) (k := b) rfl
  have hkl : kn0 = 2 := hkn
  subst hkl
  have e0 : Value.slice ka0 2 kc0 = .slice (some ⟨b0, 0, none⟩) 2 c0 := Option.some.inj hk0
  have e1 : Value.slice ka0 2 kc0 = .slice (some ⟨b1, 0, none⟩) 2 c1 := Option.some.inj hk1
  have eb : b1 = b0 := by
    rw [e0] at e1
    injection e1 with e1
    injection e1 with e1
    injection e1 with e1
    exact e1.symm
  have ec : ka0 = some ⟨b0, 0, none⟩ := by injection e0
  subst eb ec
  have hA := fun (W : World) (hW : Chg [] w W) => ha (by rw [List.length_append, List.length_append] at hl; omega) S ds W (NodeAt.kept hW (by simp) _ _ hNa)
  have hB := fun (W : World) (hW : Chg [] w W) => hb (by rw [List.length_append] at hl; omega) S es W (NodeAt.kept hW (by simp) _ _ hNb)
  obtain ⟨s1, ka1, wa1, sa1, ra1, kn1, kc1, wn1, wc1, sn1, sc1, rn1, rc1, rfl, jj1⟩ := hNa.cells6 rfl
  obtain ⟨s2, ka2, wa2, sa2, ra2, kn2, kc2, wn2, wc2, sn2, sc2, rn2, rc2, rfl, jj2⟩ := hNb.cells6 rfl
  have HA := Lib.hid hA
  have HB := Lib.hid hB
  have hal : Chg [] w (w.alloc (.cells #[.int .i64 2, .slice (some ⟨b1, 0, none⟩) 2 kc0, .string s0, .slice wa0 wn0 wc0, .slice sa0 sn0 sc0, .slice ra0 rn0 rc0] 30)) := (Chg.refl [] w).alloc _
  have HX := Lib.hid (fun (W : World) (hW : Chg [] w W) => And.intro (hW.cell (hx0 0 _ rfl) (by simp)) (And.intro (hW.cell (hx0 1 _ rfl) (by simp)) (And.intro (hW.cell (hx0 2 _ rfl) (by simp)) (And.intro (hW.cell (hx0 3 _ rfl) (by simp)) (And.intro (hW.cell (hx0 4 _ rfl) (by simp)) (hW.cell (hx0 5 _ rfl) (by simp)))))))
  have HY := Lib.hid (fun (W : World) (hW : Chg [] w W) => And.intro (hW.cell (hx1 0 _ rfl) (by simp)) (And.intro (hW.cell (hx1 1 _ rfl) (by simp)) (And.intro (hW.cell (hx1 2 _ rfl) (by simp)) (And.intro (hW.cell (hx1 3 _ rfl) (by simp)) (And.intro (hW.cell (hx1 4 _ rfl) (by simp)) (hW.cell (hx1 5 _ rfl) (by simp)))))))
  have HAL := Lib.hid hal
  have HOB := Lib.hid (obj_alloc_new w (.cells #[.int .i64 2, .slice (some ⟨b1, 0, none⟩) 2 kc0, .string s0, .slice wa0 wn0 wc0, .slice sa0 sn0 sc0, .slice ra0 rn0 rc0] 30))
  have q2 : (b.kind == 2) = false := by rw [beq_eq_false_iff_ne]; exact hb2
  have q3 : (b.kind == 3) = false := by rw [beq_eq_false_iff_ne]; exact hb3
  have HL := Lib.hid hl
  have hs1 := Lx.strB_size s
  have hs2 := Lx.strB_size u
  rw [List.length_append, List.length_append] at hl
  simp only [List.length_cons, List.length_nil] at hl
  have HST := Lib.hid (show Lx.strB s ++ ⟨#[32, 38, 38, 32]⟩ ++ Lx.strB u = Lx.strB (s ++ [32, 38, 38, 32] ++ u) from by
    rw [← Lx.strB_append, ← Lx.strB_append]
    rfl)
  obtain ⟨L, hL⟩ : ∃ L, s.length = L := ⟨_, rfl⟩
  obtain ⟨M, hM⟩ : ∃ M, u.length = M := ⟨_, rfl⟩
  rw [hL] at hs1 hl
  rw [hM] at hs2 hl
  have o1 := eq_false (show ¬ 9223372036854775807 < L + 4 from by omega)
  have o2 := eq_false (show ¬ 9223372036854775807 < L + 4 + M from by omega)
  clear hL hM hx0 hx1 hk0 hk1 hkn j2 j3 j4 jj1 jj2 hNa hNb hA hB ha hb hb2 hb3 e0 e1 h hal
  go_enter Tryd.func8, Tryd.ntmps8
  go_upto_region 1 with (fail)
  generalize w.alloc (.cells #[.int .i64 2, .slice (some ⟨b1, 0, none⟩) 2 kc0, .string s0, .slice wa0 wn0 wc0, .slice sa0 sn0 sc0, .slice ra0 rn0 rc0] 30) = w1 at *
  generalize w.heap.size = tb at *
  obtain ⟨t0, t1, t2, t3, t4, t5, tf⟩ := six_cells HOB.out
  obtain ⟨x0, x1, x2, x3, x4, x5⟩ := HX.out w1 HAL.out
  obtain ⟨y0, y1, y2, y3, y4, y5⟩ := HY.out w1 HAL.out
  go_upto_region 10 with (fail)
  go_cut [2] (fun v2 wx => v2 = .string (Lx.strB (s ++ [32, 38, 38, 32] ++ u)) ∧ Chg [] w wx)
  case first =>
    go_region_law ((go_simp; first | (refine (HB.out _ HC3.out).mono ?_; rintro e w5 ⟨rfl, hC5⟩; have HC5 := Lib.hid (HC3.out.then0 hC5); clear hC5) | (refine (HA.out _ (HAL.out.drew)).mono ?_; rintro e w3 ⟨rfl, hC3⟩; have HC3 := Lib.hid (HAL.out.then0 hC3.drew0); obtain ⟨x0', x1', x2', x3', x4', x5'⟩ := HX.out w3 HC3.out; obtain ⟨y0', y1', y2', y3', y4', y5'⟩ := HY.out w3 HC3.out; obtain ⟨t0', t1', t2', t3', t4', t5', tf'⟩ := six_cells (hC3.drew0.obj HOB.out (by simp)); clear hC3)))
    all_goals
      go_wp2
      go_meet
      exact ⟨congrArg Value.string HST.out, HC5.out⟩
  case rest =>
    obtain ⟨rfl, hC⟩ := hcut
    have HC := Lib.hid hC
    clear hC
    go_wp2
    go_ret
    exact ⟨rfl, HC.out⟩

set_option maxHeartbeats 4000000 in
set_option maxRecDepth 10000 in
theorem show_or (a b : Ps.Node) (s u : List UInt8) (ha : ShowOk a s) (hb : ShowOk b u) (hb2 : b.kind ≠ 2) (hb3 : b.kind ≠ 3) : ShowOk (Ps.node 3 [a, b]) (s ++ [32, 124, 124, 32] ++ u) := by
  intro hl S cs w h
  obtain ⟨s0, ka0, wa0, sa0, ra0, kn0, kc0, wn0, wc0, sn0, sc0, rn0, rc0, rfl, hkn, j2, j3, j4⟩ := h.cells6 (z := 3) rfl
  obtain ⟨b0, c0, ds, hk0, hNa, hx0⟩ := h.kid (i := 0) (k := a) rfl
  obtain ⟨b1, c1, es, hk1, hNb, hx1⟩ := h.kid (i := 1) (k := b) rfl
  have hkl : kn0 = 2 := hkn
  subst hkl
  have e0 : Value.slice ka0 2 kc0 = .slice (some ⟨b0, 0, none⟩) 2 c0 := Option.some.inj hk0
  have e1 : Value.slice ka0 2 kc0 = .slice (some ⟨b1, 0, none⟩) 2 c1 := Option.some.inj hk1
  have eb : b1 = b0 := by
    rw [e0] at e1
    injection e1 with e1
    injection e1 with e1
    injection e1 with e1
    exact e1.symm
  have ec : ka0 = some ⟨b0, 0, none⟩ := by injection e0
  subst eb ec
  have hA := fun (W : World) (hW : Chg [] w W) => ha (by rw [List.length_append, List.length_append] at hl; omega) S ds W (NodeAt.kept hW (by simp) _ _ hNa)
  have hB := fun (W : World) (hW : Chg [] w W) => hb (by rw [List.length_append] at hl; omega) S es W (NodeAt.kept hW (by simp) _ _ hNb)
  obtain ⟨s1, ka1, wa1, sa1, ra1, kn1, kc1, wn1, wc1, sn1, sc1, rn1, rc1, rfl, jj1⟩ := hNa.cells6 rfl
  obtain ⟨s2, ka2, wa2, sa2, ra2, kn2, kc2, wn2, wc2, sn2, sc2, rn2, rc2, rfl, jj2⟩ := hNb.cells6 rfl
  have HA := Lib.hid hA
  have HB := Lib.hid hB
  have hal : Chg [] w (w.alloc (.cells #[.int .i64 3, .slice (some ⟨b1, 0, none⟩) 2 kc0, .string s0, .slice wa0 wn0 wc0, .slice sa0 sn0 sc0, .slice ra0 rn0 rc0] 30)) := (Chg.refl [] w).alloc _
  have HX := Lib.hid (fun (W : World) (hW : Chg [] w W) => And.intro (hW.cell (hx0 0 _ rfl) (by simp)) (And.intro (hW.cell (hx0 1 _ rfl) (by simp)) (And.intro (hW.cell (hx0 2 _ rfl) (by simp)) (And.intro (hW.cell (hx0 3 _ rfl) (by simp)) (And.intro (hW.cell (hx0 4 _ rfl) (by simp)) (hW.cell (hx0 5 _ rfl) (by simp)))))))
  have HY := Lib.hid (fun (W : World) (hW : Chg [] w W) => And.intro (hW.cell (hx1 0 _ rfl) (by simp)) (And.intro (hW.cell (hx1 1 _ rfl) (by simp)) (And.intro (hW.cell (hx1 2 _ rfl) (by simp)) (And.intro (hW.cell (hx1 3 _ rfl) (by simp)) (And.intro (hW.cell (hx1 4 _ rfl) (by simp)) (hW.cell (hx1 5 _ rfl) (by simp)))))))
  have HAL := Lib.hid hal
  have HOB := Lib.hid (obj_alloc_new w (.cells #[.int .i64 3, .slice (some ⟨b1, 0, none⟩) 2 kc0, .string s0, .slice wa0 wn0 wc0, .slice sa0 sn0 sc0, .slice ra0 rn0 rc0] 30))
  have q2 : (b.kind == 2) = false := by rw [beq_eq_false_iff_ne]; exact hb2
  have q3 : (b.kind == 3) = false := by rw [beq_eq_false_iff_ne]; exact hb3
  have HL := Lib.hid hl
  have hs1 := Lx.strB_size s
  have hs2 := Lx.strB_size u
  rw [List.length_append, List.length_append] at hl
  simp only [List.length_cons, List.length_nil] at hl
  have HST := Lib.hid (show Lx.strB s ++ ⟨#[32, 124, 124, 32]⟩ ++ Lx.strB u = Lx.strB (s ++ [32, 124, 124, 32] ++ u) from by
    rw [← Lx.strB_append, ← Lx.strB_append]
    rfl)
  obtain ⟨L, hL⟩ : ∃ L, s.length = L := ⟨_, rfl⟩
  obtain ⟨M, hM⟩ : ∃ M, u.length = M := ⟨_, rfl⟩
  rw [hL] at hs1 hl
  rw [hM] at hs2 hl
  have o1 := eq_false (show ¬ 9223372036854775807 < L + 4 from by omega)
  have o2 := eq_false (show ¬ 9223372036854775807 < L + 4 + M from by omega)
  clear hL hM hx0 hx1 hk0 hk1 hkn j2 j3 j4 jj1 jj2 hNa hNb hA hB ha hb hb2 hb3 e0 e1 h hal
  go_enter Tryd.func8, Tryd.ntmps8
  go_upto_region 1 with (fail)
  generalize w.alloc (.cells #[.int .i64 3, .slice (some ⟨b1, 0, none⟩) 2 kc0, .string s0, .slice wa0 wn0 wc0, .slice sa0 sn0 sc0, .slice ra0 rn0 rc0] 30) = w1 at *
  generalize w.heap.size = tb at *
  obtain ⟨t0, t1, t2, t3, t4, t5, tf⟩ := six_cells HOB.out
  obtain ⟨x0, x1, x2, x3, x4, x5⟩ := HX.out w1 HAL.out
  obtain ⟨y0, y1, y2, y3, y4, y5⟩ := HY.out w1 HAL.out
  go_upto_region 11 with (fail)
  go_cut [2] (fun v2 wx => v2 = .string (Lx.strB (s ++ [32, 124, 124, 32] ++ u)) ∧ Chg [] w wx)
  case first =>
    go_region_law ((go_simp; first | (refine (HB.out _ HC3.out).mono ?_; rintro e w5 ⟨rfl, hC5⟩; have HC5 := Lib.hid (HC3.out.then0 hC5); clear hC5) | (refine (HA.out _ (HAL.out.drew)).mono ?_; rintro e w3 ⟨rfl, hC3⟩; have HC3 := Lib.hid (HAL.out.then0 hC3.drew0); obtain ⟨x0', x1', x2', x3', x4', x5'⟩ := HX.out w3 HC3.out; obtain ⟨y0', y1', y2', y3', y4', y5'⟩ := HY.out w3 HC3.out; obtain ⟨t0', t1', t2', t3', t4', t5', tf'⟩ := six_cells (hC3.drew0.obj HOB.out (by simp)); clear hC3)))
    all_goals
      go_wp2
      go_meet
      exact ⟨congrArg Value.string HST.out, HC5.out⟩
  case rest =>
    obtain ⟨rfl, hC⟩ := hcut
    have HC := Lib.hid hC
    clear hC
    go_wp2
    go_ret
    exact ⟨rfl, HC.out⟩

theorem show_any {n : Ps.Node} {s : List UInt8} (h : Sh n s) : ShowOk n s := by
  induction h with
  | cmd x => exact fun _ S cs w h => show_cmd x S cs w h
  | pipe l => exact fun hl S cs w h => show_pipe l S cs w h hl (by
      have := jnC_count [32, 124, 32] (by simp) l l.length
      omega)
  | and_ _ _ h2 h3 ha hb => exact show_and _ _ _ _ ha hb h2 h3
  | or_ _ _ h2 h3 ha hb => exact show_or _ _ _ _ ha hb h2 h3

end Go.Proofs.YtfgbbmnmblchiaaDoor
