/-
  A text is read: walked.
-/
import Derived.Test.YtfgbbmnmblchiaaDoorCmdW
import Derived.Test.YtfgbbmnmblchiaaDoorGood
namespace Go.Proofs.YtfgbbmnmblchiaaDoor
open Go.RowKit
set_option linter.unusedVariables false

/-- what reading a text leaves. -/
def ProgPost (w : World) (r : Int × Nat × Ps.Node) (e : Ending) (w' : World) : Prop :=
  Chg [] w w' ∧ ∃ cs, e = .returned (.tuple #[.agg cs.toArray, .int .i64 r.2.1, .int .i64 r.1]) ∧ NodeAt w' (fun _ => True) r.2.2 cs

theorem node0_at (w : World) (S : Nat → Prop) : NodeAt w S (Ps.node 0 []) (nodeC 0 (.slice none 0 0)).toList := node_at (k := 0) (Sl.nil _ _ _ _) (by unfold NodesAt; rfl)

theorem prog_bad {w w4 : World} (h : Chg [] w w4) (e : Int) (n : Nat) : ProgPost w (e, n, Ps.node 0 []) (.returned (.tuple #[.agg (nodeC 0 (.slice none 0 0)), .int .i64 n, .int .i64 e])) (sixW w4 w.heap.size (.int .i64 0) (.slice none 0 0) (.string ⟨#[]⟩) (.slice none 0 0) (.slice none 0 0) (.slice none 0 0)).drew :=
  ⟨(h.six w.heap.size (.int .i64 0) (.slice none 0 0) (.string ⟨#[]⟩) (.slice none 0 0) (.slice none 0 0) (.slice none 0 0) (.inr (Nat.le_refl _))).drew, _, rfl, node0_at _ _⟩

theorem row_ne {w : World} {E E' : TypeId} {size n : Nat} {v : Value} {xs : List Value} {rb : Nat} {cur : Array Value} {f : Nat × Nat} (h : Row w E size v n xs) (hr : w.heap[rb]? = some (.cells cur E' f)) (hE : E ≠ E') : rb ∉ rowBlock v := by
  intro hk
  rcases h.2 with ⟨_, a, rfl⟩ | ⟨g, cap, cur', rfl, hg, _⟩
  · cases a <;> simp [rowBlock] at hk
  · simp only [rowBlock] at hk
    split at hk
    · simp at hk
    · simp at hk
      subst hk
      rw [hr] at hg
      injection hg with hg
      injection hg with h1 h2 h3
      exact hE h2.symm

theorem ToksAt.tb_ne {w : World} {v : Value} {ts : List Lx.Tok} {vs : List Value} (h : ToksAt w v ts vs) {rb : Nat} {cur : Array Value} {f : Nat × Nat} (hr : w.heap[rb]? = some (.cells cur 30 f)) (h2 : rb ≠ 2) : ¬ TB v vs rb := by
  rintro (h1 | h1 | ⟨u, hu, h1⟩)
  · exact h2 h1
  · exact row_ne h.row hr (by decide) h1
  · obtain ⟨i, hi⟩ := List.mem_iff_getElem?.1 hu
    have hlt : i < ts.length := by rw [← h.len]; exact (List.getElem?_eq_some_iff.1 hi).1
    exact row_ne (h.parts i _ u (List.getElem?_eq_getElem hlt) hi).1 hr (by decide) h1

section
variable {l : List UInt8} {ts : List Lx.Tok} {e : Int} {p q : Nat} {n : Ps.Node}
theorem program_lex (h : Lx.tokens l = (e, p, ts)) (he : e ≠ 0) : Ps.program l = (e, p, Ps.node 0 []) := by
  unfold Ps.program
  rw [h]
  exact if_pos he
theorem program_bad (h : Lx.tokens l = (0, p, ts)) (h2 : Ps.listP ts (Ps.cmdP ts 16) false 0 = .bad e q) : Ps.program l = (e, (ts[q]?.map (·.pos)).getD l.length, Ps.node 0 []) := by
  unfold Ps.program
  rw [h]
  show (if _ then _ else _) = _
  rw [if_neg (by decide), h2]
theorem program_more (h : Lx.tokens l = (0, p, ts)) (h2 : Ps.listP ts (Ps.cmdP ts 16) false 0 = .ok n q) (hq : q < ts.length) : Ps.program l = (10, (ts[q]?.map (·.pos)).getD l.length, Ps.node 0 []) := by
  unfold Ps.program
  rw [h]
  show (if _ then _ else _) = _
  rw [if_neg (by decide), h2]
  exact if_pos hq
theorem program_ok (h : Lx.tokens l = (0, p, ts)) (h2 : Ps.listP ts (Ps.cmdP ts 16) false 0 = .ok n q) (hq : ¬ q < ts.length) : Ps.program l = (0, 0, n) := by
  unfold Ps.program
  rw [h]
  show (if _ then _ else _) = _
  rw [if_neg (by decide), h2]
  exact if_neg hq
end

set_option maxHeartbeats 8000000 in
set_option maxRecDepth 10000 in
theorem program_any (l : List UInt8) (w : World) (hl9 : l.length ≤ 9223372036854775807) (hT : Hid (U8 w)) (m : Int) (hm : w.cell? ⟨2, 0, none⟩ = some (.int .i64 m)) :
    Calls Tryd.prog 7 #[.string (Lx.strB l)] w (ProgPost w (Ps.program l)) := by
  have hsz := Lx.strB_size l
  have HM := Lib.hid hm
  have HL9 := Lib.hid hl9
  have HC0 := Lib.hid ((Chg.refl [] w).alloc (.cells (nodeC 0 (.slice none 0 0)) 30))
  have HS0 := Lib.hid (obj_alloc_new w (.cells (nodeC 0 (.slice none 0 0)) 30))
  have HT0 := u8_kept hT HC0.out (by simp) (by simp)
  have HTK := Lib.hid (tokens_any l _ hl9 HT0)
  clear hm hl9 hT HT0
  obtain ⟨e0, at0, ts, hTT⟩ : ∃ e0 at0 ts, Lx.tokens l = (e0, at0, ts) := ⟨_, _, _, rfl⟩
  rw [hTT] at HTK
  go_enter Tryd.func7, Tryd.ntmps7
  go_wp2_with fail
  refine Calls.mono HTK.out ?_
  rintro e w1 ⟨a, n, vs, rfl, hTO, hC1⟩
  have HTO := Lib.hid hTO
  have HC1 := Lib.hid (HC0.out.then0 hC1)
  have HS1 := Lib.hid (hC1.obj HS0.out (by simp))
  clear hTO hC1 HTK
  by_cases he : e0 = 0
  · subst he
    have hnt : n = ts.length := by obtain ⟨_, _, hv, _⟩ := HTO.out.row.shape; cases hv; rfl
    subst hnt
    have hok : (∀ t ∈ ts, GoodT t) ∧ ts.length ≤ 2048 := by
      by_cases h : 2048 < l.length
      · rw [tokens_long h] at hTT; cases hTT
      · exact tokens_ok h hTT
    have hfew := hok.2
    have hm1 := HC1.out.cell HM.out (by simp)
    have h2w : 2 < w.heap.size := World.block_lt_of_cell? w _ HM.out
    have HS1b := HS1.out
    obtain ⟨R, hR⟩ : ∃ R, Ps.listP ts (Ps.cmdP ts 16) false 0 = R := ⟨_, rfl⟩
    have HPB := Lib.hid (obj_alloc_new w1 (.cells #[.slice a ts.length ts.length, .int .i64 0, .int .i64 0, .int .i64 0] 60))
    have hal : Chg [] w1 (w1.alloc (.cells #[.slice a ts.length ts.length, .int .i64 0, .int .i64 0, .int .i64 0] 60)) := (Chg.refl [] w1).alloc _
    have HTN := Lib.hid (HTO.out.tb_ne HS1.out (by omega))
    have HP2 := Lib.hid (show PS (w1.alloc (.cells #[.slice a ts.length ts.length, .int .i64 0, .int .i64 0, .int .i64 0] 60)) w1.heap.size a ts.length ts vs 0 0 0 from
      { p := HPB.out
        toks := HTO.out.kept0 hal
        out := fun hk => by
          rcases hk with h1 | h1 | ⟨u, hu, h1⟩
          · have := HC1.out.size; omega
          · exact Nat.lt_irrefl _ (Row.block_lt HTO.out.row _ h1)
          · obtain ⟨i, hi⟩ := List.mem_iff_getElem?.1 hu
            have hlt : i < ts.length := by rw [← HTO.out.len]; exact (List.getElem?_eq_some_iff.1 hi).1
            exact Nat.lt_irrefl _ (Row.block_lt (HTO.out.parts i _ u (List.getElem?_eq_getElem hlt) hi).1 _ h1)
        le := Nat.zero_le _
        few := by omega
        dp := by omega
        good := hok.1
        ml := ⟨m, hal.cell hm1 (by simp)⟩ })
    have HC2 := Lib.hid (HC1.out.then0 hal)
    have HS2 := Lib.hid (hal.obj HS1.out (by simp))
    have HLT := Lib.hid (show w.heap.size < w1.heap.size from lt_of_obj HS1.out)
    clear hm1 hok HS1b hal HPB HS1 HC1 HTO
    go_upto_region 5 with (fail)
    generalize w1.alloc (.cells #[.slice a ts.length ts.length, .int .i64 0, .int .i64 0, .int .i64 0] 60) = w2 at *
    generalize w1.heap.size = pb at *
    have HLI := Lib.hid (list_any pb a ts.length ts vs 0 0 (Ps.cmdP ts 16) (command_any pb a ts.length ts vs 16 0 rfl) (cmdP_moves 16) false w2 HP2.out)
    rw [hR] at HLI
    go_wp2_with fail
    refine Calls.mono HLI.out ?_
    intro e w3 hRD
    obtain ⟨cs, b, ⟨kk, s1, ka, wa, sa, ra, kn, kc, wn, wc, sn, sc, rn, rc, rfl⟩, rfl, hC6, hGot⟩ := hRD.got
    have hal : Chg [] w3 (w3.alloc (.cells #[.int .i64 kk, .slice ka kn kc, .string (Lx.strB s1), .slice wa wn wc, .slice sa sn sc, .slice ra rn rc] 30)) := (Chg.refl [] w3).alloc _
    have HAL := Lib.hid hal
    have HC6 := Lib.hid hC6
    have HGot := Lib.hid hGot
    have HOT := Lib.hid (obj_alloc_new w3 (.cells #[.int .i64 kk, .slice ka kn kc, .string (Lx.strB s1), .slice wa wn wc, .slice sa sn sc, .slice ra rn rc] 30))
    clear hRD hC6 hGot HLI
    go_upto_region 6 with (fail)
    generalize w3.alloc (.cells #[.int .i64 kk, .slice ka kn kc, .string (Lx.strB s1), .slice wa wn wc, .slice sa sn sc, .slice ra rn rc] 30) = w4 at *
    have HTB := Lib.hid (show w3.heap.size ≠ pb from by have := HP2.out.lt; have := HC6.out.size; omega)
    generalize w3.heap.size = tb at *
    have HC4 := Lib.hid (show Chg [] w w4 from (HC2.out.trans HC6.out (fun x hx => .inr (by simp at hx; have := HLT.out; omega))).then0 HAL.out)
    have HS4 := Lib.hid (HAL.out.obj (HC6.out.obj HS2.out (by have := HLT.out; simp; omega)) (by simp))
    cases R with
    | bad er q =>
      obtain ⟨hb, hP3⟩ := HGot.out
      subst hb
      have HP4 := Lib.hid (hP3.chg0 HAL.out)
      have HR := Lib.hid (program_bad hTT hR)
      clear hP3 HGot HP2 hal hTT hR
      have k1 := HP4.out.c1
      have k3 := HP4.out.c3
      obtain ⟨r0, r1, r2, r3, r4, r5, rf⟩ := node_cells HS4.out
      have hleq := HP4.out.le
      by_cases hq : q < ts.length
      · have hd : decide (q < ts.length) = true := decide_eq_true hq
        have q0 : (0 : Int) ≤ (q : Int) := by omega
        have q2 : (q : Int) < (ts.length : Int) := by omega
        have q3 : 0 < ts.length := by omega
        obtain ⟨t, ht⟩ : ∃ t, ts[q]? = some t := ⟨_, List.getElem?_eq_getElem hq⟩
        obtain ⟨g1, a3, n3, rfl, y0, y1, y2, y3, hW⟩ := HP4.out.toks.cell4 q t ht
        have HR2 := Lib.hid (HR.out.trans (show _ = (er, t.pos, Ps.node 0 []) from by rw [ht]; rfl))
        clear ht y0 y1 y2 hW hq HR
        have k3c := ((Chg.refl [w.heap.size] w4).six w.heap.size (.int .i64 0) (.slice none 0 0) (.string ⟨#[]⟩) (.slice none 0 0) (.slice none 0 0) (.slice none 0 0) (.inl (by simp))).cell k3 (by have := HLT.out; simp; omega)
        simp only [sixW] at k3c
        go_upto_region 12 with (fail)
        go_region
        all_goals
          go_wp2_with fail
          refine bodyPost_ret (v := .tuple #[.agg (nodeC 0 (.slice none 0 0)), .int .i64 t.pos, .int .i64 er]) (by simp [results, Tryd.results7, go_sem, nodeC, r0, r1, r2, r3, r4, r5]) rfl ?_
          rw [HR2.out]
          exact prog_bad HC4.out er t.pos
      · have hd : decide (q < ts.length) = false := decide_eq_false hq
        have HR2 := Lib.hid (HR.out.trans (show _ = (er, l.length, Ps.node 0 []) from by rw [List.getElem?_eq_none (by omega)]; rfl))
        clear hq HR
        have k3c := ((Chg.refl [w.heap.size] w4).six w.heap.size (.int .i64 0) (.slice none 0 0) (.string ⟨#[]⟩) (.slice none 0 0) (.slice none 0 0) (.slice none 0 0) (.inl (by simp))).cell k3 (by have := HLT.out; simp; omega)
        simp only [sixW] at k3c
        go_upto_region 12 with (fail)
        go_region
        all_goals
          go_wp2_with fail
          refine bodyPost_ret (v := .tuple #[.agg (nodeC 0 (.slice none 0 0)), .int .i64 l.length, .int .i64 er]) (by simp [results, Tryd.results7, go_sem, nodeC, r0, r1, r2, r3, r4, r5]) rfl ?_
          rw [HR2.out]
          exact prog_bad HC4.out er l.length
    | ok x q =>
      obtain ⟨hb, hN, hP3⟩ := HGot.out
      subst hb
      have HP4 := Lib.hid (hP3.chg0 HAL.out)
      have HN4 := Lib.hid (hold0 hN HAL.out)
      have k1 := HP4.out.c1
      have hleq := HP4.out.le
      have q0 : (0 : Int) ≤ (q : Int) := by omega
      by_cases hq : q < ts.length
      · have hd : decide (q < ts.length) = true := decide_eq_true hq
        have q2 : (q : Int) < (ts.length : Int) := by omega
        have q3 : 0 < ts.length := by omega
        have HR := Lib.hid (program_more hTT hR hq)
        obtain ⟨t, ht⟩ : ∃ t, ts[q]? = some t := ⟨_, List.getElem?_eq_getElem hq⟩
        have HR2 := Lib.hid (HR.out.trans (show _ = ((10 : Int), t.pos, Ps.node 0 []) from by rw [ht]; rfl))
        have HTT := Lib.hid ht
        have hF := Lib.hid (fail_any pb a ts.length ts vs q 0 10 w4 HP4.out)
        clear ht HR hTT hR hN hP3 HGot HP2 hal HN4
        go_wp2_with fail
        refine hF.out.mono ?_
        rintro e w5 ⟨rfl, hP5, hC5⟩
        have HP5 := Lib.hid hP5
        have HC5 := Lib.hid (HC4.out.trans hC5 (fun x hx => .inr (by simp at hx; have := HLT.out; omega)))
        have HS5 := Lib.hid (hC5.obj HS4.out (by have := HLT.out; simp; omega))
        clear hP5 hC5 k1 hF
        obtain ⟨r0, r1, r2, r3, r4, r5, rf⟩ := node_cells HS5.out
        have k1 := HP5.out.c1
        have k3 := HP5.out.c3
        obtain ⟨g1, a3, n3, rfl, y0, y1, y2, y3, hW⟩ := HP5.out.toks.cell4 q t HTT.out
        clear y0 y1 y2 hW hq
        have k3c := ((Chg.refl [w.heap.size] w5).six w.heap.size (.int .i64 0) (.slice none 0 0) (.string ⟨#[]⟩) (.slice none 0 0) (.slice none 0 0) (.slice none 0 0) (.inl (by simp))).cell k3 (by have := HLT.out; simp; omega)
        simp only [sixW] at k3c
        go_upto_region 12 with (fail)
        go_region
        all_goals
          go_wp2_with fail
          refine bodyPost_ret (v := .tuple #[.agg (nodeC 0 (.slice none 0 0)), .int .i64 t.pos, .int .i64 10]) (by simp [results, Tryd.results7, go_sem, nodeC, r0, r1, r2, r3, r4, r5]) rfl ?_
          rw [HR2.out]
          exact prog_bad HC5.out 10 t.pos
      · have hd : decide (q < ts.length) = false := decide_eq_false hq
        have HR := Lib.hid (program_ok hTT hR hq)
        clear hTT hR hN hP3 HGot HP2 hal hq
        obtain ⟨r0, r1, r2, r3, r4, r5, rf⟩ := node_cells HS4.out
        obtain ⟨t0, t1, t2, t3, t4, t5, tf⟩ := six_cells HOT.out
        go_wp2_with fail
        refine bodyPost_ret (v := .tuple #[.agg #[.int .i64 kk, .slice ka kn kc, .string (Lx.strB s1), .slice wa wn wc, .slice sa sn sc, .slice ra rn rc], .int .i64 0, .int .i64 0]) (by simp [results, Tryd.results7, go_sem, r0, r1, r2, r3, r4, r5]) rfl ?_
        rw [HR.out]
        refine ⟨HC4.out.six _ _ _ _ _ _ _ (.inr (by simp)), _, rfl, NodeAt.mono (fun j hj => trivial) _ _ (NodeAt.kept (Chg.six (Chg.refl [w.heap.size] w4) w.heap.size _ _ _ _ _ _ (.inl (by simp))) (fun j hj hS => ?_) _ _ HN4.out)⟩
        simp at hj
        subst hj
        rcases hS with h1 | h1
        · exact HTN.out h1
        · have := lt_of_obj HS2.out; omega
  · have hne : (e0 != 0) = true := by simpa using he
    have HR := Lib.hid (program_lex hTT he)
    clear hTT he
    obtain ⟨r0, r1, r2, r3, r4, r5, rf⟩ := node_cells HS1.out
    go_wp2_with fail
    refine bodyPost_ret (v := .tuple #[.agg (nodeC 0 (.slice none 0 0)), .int .i64 at0, .int .i64 e0]) (by simp [results, Tryd.results7, go_sem, nodeC, r0, r1, r2, r3, r4, r5]) rfl ?_
    rw [HR.out]
    exact ⟨HC1.out.six _ _ _ _ _ _ _ (.inr (by simp)), _, rfl, node0_at _ _⟩

end Go.Proofs.YtfgbbmnmblchiaaDoor
