/-
  The document's reader: a text is read: walked.
  Words of trees that a text gives are short, plain.
  The laws' Parts and SameParts: walked.
  The laws' Parts and SameParts over words of trees, and 'words': walked.
  The law's 'words' and 'same': two trees in memory of one plain tree are the same: walked.
-/
import Derived.Test.YtfgbbmnmblchiaaDoorCmdWR
import Derived.Test.YtfgbbmnmblchiaaDoorPm07
import Derived.Test.YtfgbbmnmblchiaaDoorRTokP
namespace Go.Proofs.YtfgbbmnmblchiaaDoor
open Go.RowKit
set_option linter.unusedVariables false

/-- what the document's reading of a text leaves. -/
def GotR (w : World) (r : Int × Nat × Ps.Node) (e : Ending) (w' : World) : Prop :=
  Chg [] w w' ∧ ∃ (k : Int) (s : List UInt8) (ka wa sa ra : Option Addr) (kn kc wn wc sn sc rn rc : Nat), e = .returned (.agg #[.int .i64 k, .slice ka kn kc, .string (Lx.strB s), .slice wa wn wc, .slice sa sn sc, .slice ra rn rc, .int .i64 r.2.1, .int .i64 r.1]) ∧
    NodeAt w' (fun _ => True) r.2.2 [.int .i64 k, .slice ka kn kc, .string (Lx.strB s), .slice wa wn wc, .slice sa sn sc, .slice ra rn rc]

theorem gotR_bad {w w' : World} (h : Chg [] w w') (er : Int) (at_ : Nat) : GotR w (er, at_, Ps.node 0 []) (.returned (.agg #[.int .i64 0, .slice none 0 0, .string ⟨#[]⟩, .slice none 0 0, .slice none 0 0, .slice none 0 0, .int .i64 at_, .int .i64 er])) w' :=
  ⟨h, 0, [], none, none, none, none, 0, 0, 0, 0, 0, 0, 0, 0, rfl, node0_at _ _⟩

theorem ToksR.tb_ne {w : World} {v : Value} {ts : List Lx.Tok} {vs : List Value} (h : ToksR w v ts vs) {rb : Nat} {cur : Array Value} {f : Nat × Nat} {E : TypeId} (hr : w.heap[rb]? = some (.cells cur E f)) (h1 : 98 ≠ E) (h3 : 103 ≠ E) (h2 : rb ≠ 2) : ¬ TB v vs rb := by
  rintro (h4 | h4 | ⟨u, hu, h4⟩)
  · exact h2 h4
  · exact row_ne h.row hr h1 h4
  · obtain ⟨i, hi⟩ := List.mem_iff_getElem?.1 hu
    have hlt : i < ts.length := by rw [← h.len]; exact (List.getElem?_eq_some_iff.1 hi).1
    exact row_ne (h.parts i _ u (List.getElem?_eq_getElem hlt) hi).1 hr h3 h4

theorem eight_cells {w : World} {b : Nat} {E : TypeId} {x0 x1 x2 x3 x4 x5 x6 x7 : Value} (h : w.heap[b]? = some (.cells #[x0, x1, x2, x3, x4, x5, x6, x7] E (0, 0))) :
    w.cell? ⟨b, 0, none⟩ = some x0 ∧ w.cell? ⟨b, 1, none⟩ = some x1 ∧ w.cell? ⟨b, 2, none⟩ = some x2 ∧ w.cell? ⟨b, 3, none⟩ = some x3 ∧ w.cell? ⟨b, 4, none⟩ = some x4 ∧ w.cell? ⟨b, 5, none⟩ = some x5 ∧ w.cell? ⟨b, 6, none⟩ = some x6 ∧ w.cell? ⟨b, 7, none⟩ = some x7 ∧ ∀ j, w.frozen? ⟨b, j, none⟩ = false :=
  ⟨cell_of_obj h rfl, cell_of_obj h rfl, cell_of_obj h rfl, cell_of_obj h rfl, cell_of_obj h rfl, cell_of_obj h rfl, cell_of_obj h rfl, cell_of_obj h rfl, free_of_obj h⟩
theorem Chg.eight {F : List Nat} {a w : World} (h : Chg F a w) (b : Nat) (v0 v1 v2 v3 v4 v5 v6 v7 : Value) (hb : b ∈ F ∨ a.heap.size ≤ b) : Chg F a ((((((((w.setCell ⟨b, 0, none⟩ v0).setCell ⟨b, 1, none⟩ v1).setCell ⟨b, 2, none⟩ v2).setCell ⟨b, 3, none⟩ v3).setCell ⟨b, 4, none⟩ v4).setCell ⟨b, 5, none⟩ v5).setCell ⟨b, 6, none⟩ v6).setCell ⟨b, 7, none⟩ v7) :=
  (((((((h.setCell _ _ hb).setCell _ _ hb).setCell _ _ hb).setCell _ _ hb).setCell _ _ hb).setCell _ _ hb).setCell _ _ hb).setCell _ _ hb

/-- what the reader's own answer is, out of the state behind the list. -/
theorem programR_bad {l : List UInt8} {ts : List Lx.Tok} {p q : Nat} {e : Int} (h : Lx.tokens l = (0, p, ts)) (h2 : listQ ts (Ps.cmdP ts 16) false 0 = .bad e q) : Ps.program l = (e, posR ts l.length q, Ps.node 0 []) := by
  rcases listQ_wrong h2 with h3 | ⟨rfl, n, h3, hc⟩
  · exact program_bad h h3
  · refine program_more h h3 ?_
    apply Decidable.byContradiction
    intro hn
    unfold Ps.closing at hc
    rw [List.getElem?_eq_none (by omega)] at hc
    cases hc

set_option maxHeartbeats 8000000 in
set_option maxRecDepth 10000 in
theorem rprogram (l : List UInt8) (w : World) (hl9 : l.length ≤ 9223372036854775807) (h2w : 2 < w.heap.size) :
    Calls Tryd.prog 10 #[.string (Lx.strB l)] w (GotR w (Ps.program l)) := by
  have hsz := Lx.strB_size l
  have HC0 := Lib.hid ((Chg.refl [] w).alloc (.cells #[.int .i64 0, .slice none 0 0, .string ⟨#[]⟩, .slice none 0 0, .slice none 0 0, .slice none 0 0, .int .i64 0, .int .i64 0] 44))
  have HS0 := Lib.hid (obj_alloc_new w (.cells #[.int .i64 0, .slice none 0 0, .string ⟨#[]⟩, .slice none 0 0, .slice none 0 0, .slice none 0 0, .int .i64 0, .int .i64 0] 44))
  have HTK := Lib.hid (rtokens_any l (w.alloc (.cells #[.int .i64 0, .slice none 0 0, .string ⟨#[]⟩, .slice none 0 0, .slice none 0 0, .slice none 0 0, .int .i64 0, .int .i64 0] 44)) hl9)
  obtain ⟨RP, hRP⟩ : ∃ RP, Ps.program l = RP := ⟨_, rfl⟩
  rw [hRP]
  obtain ⟨e0, at0, ts, hTT⟩ : ∃ e0 at0 ts, Lx.tokens l = (e0, at0, ts) := ⟨_, _, _, rfl⟩
  rw [hTT] at HTK
  have H2W := Lib.hid h2w
  clear h2w
  go_enter Tryd.func10, Tryd.ntmps10
  go_wp2_with fail
  refine Calls.mono HTK.out ?_
  intro e w1 hGP
  obtain ⟨a, n, c, vs, rfl, hTO, hC1⟩ := hGP
  have HTO := Lib.hid hTO
  have HC1 := Lib.hid (HC0.out.then0 hC1)
  have HS1 := Lib.hid (hC1.obj HS0.out (by simp))
  clear hTO hC1 HTK HC0 HS0
  by_cases he : e0 = 0
  · subst he
    have hnt : n = ts.length := by obtain ⟨_, _, hv, _⟩ := HTO.out.row.shape; cases hv; rfl
    subst hnt
    have hll : ¬ 2048 < l.length := by
      intro h
      rw [tokens_long h] at hTT
      cases hTT
    have hok := tokens_okR hll hTT
    have hfew := hok.2
    have hgotc : Chg [] w1 (w1.alloc (.cells #[.slice a ts.length c, .int .i64 at0, .int .i64 0] 68)) := (Chg.refl [] w1).alloc _
    have h2w1 : 2 < w1.heap.size := Nat.lt_of_lt_of_le H2W.out HC1.out.size
    have HPB := Lib.hid (obj_alloc_new (w1.alloc (.cells #[.slice a ts.length c, .int .i64 at0, .int .i64 0] 68)) (.cells #[.slice a ts.length c, .int .i64 0, .int .i64 l.length, .int .i64 0, .int .i64 0, .int .i64 0] 72))
    have hsz1 : (w1.alloc (.cells #[.slice a ts.length c, .int .i64 at0, .int .i64 0] 68)).heap.size = w1.heap.size + 1 := by simp
    have hal : Chg [] w1 ((w1.alloc (.cells #[.slice a ts.length c, .int .i64 at0, .int .i64 0] 68)).alloc (.cells #[.slice a ts.length c, .int .i64 0, .int .i64 l.length, .int .i64 0, .int .i64 0, .int .i64 0] 72)) := hgotc.alloc _
    rw [hsz1] at HPB
    have HTN := Lib.hid (HTO.out.tb_ne HS1.out (by decide) (by decide) (by have := H2W.out; omega))
    have HP2 := Lib.hid (show ROk ((w1.alloc (.cells #[.slice a ts.length c, .int .i64 at0, .int .i64 0] 68)).alloc (.cells #[.slice a ts.length c, .int .i64 0, .int .i64 l.length, .int .i64 0, .int .i64 0, .int .i64 0] 72)) (w1.heap.size + 1) a c ts vs l.length 0 0 from
      ⟨{ p := HPB.out
         toks := HTO.out.kept0 hal
         out := fun hk => by
           rcases hk with h1 | h1 | ⟨u, hu, h1⟩
           · omega
           · have := Row.block_lt HTO.out.row _ h1; omega
           · obtain ⟨i, hi⟩ := List.mem_iff_getElem?.1 hu
             have hlt : i < ts.length := by rw [← HTO.out.len]; exact (List.getElem?_eq_some_iff.1 hi).1
             have := Row.block_lt (HTO.out.parts i _ u (List.getElem?_eq_getElem hlt) hi).1 _ h1
             omega
         few := by omega
         lnf := by omega
         good := hok.1
         two := Nat.lt_of_lt_of_le h2w1 hal.size }, Nat.zero_le _, by decide⟩)
    have HC2 := Lib.hid (HC1.out.then0 hal)
    have HS2 := Lib.hid (hal.obj HS1.out (by simp))
    have HLT := Lib.hid (show w.heap.size < w1.heap.size + 1 from by have := lt_of_obj HS1.out; omega)
    go_upto_region 5 with (fail)
    generalize (w1.alloc (.cells #[.slice a ts.length c, .int .i64 at0, .int .i64 0] 68)).alloc (.cells #[.slice a ts.length c, .int .i64 0, .int .i64 l.length, .int .i64 0, .int .i64 0, .int .i64 0] 72) = w2 at *
    generalize w1.heap.size + 1 = pb at *
    clear hal hgotc HPB HS1 HC1 HTO hsz1 h2w1
    have HLI := Lib.hid (slist pb a c ts vs l.length 0 (Ps.cmdP ts 16) (scommand pb a c ts vs l.length 16 0 rfl) (cmdP_moves 16) true (.ok 0 0) w2 rfl HP2.out)
    obtain ⟨S, hS⟩ : ∃ S, (St.ok 0 0).step ts l.length (listQ ts (Ps.cmdP ts 16) (!true)) = S := ⟨_, rfl⟩
    rw [hS] at HLI
    replace hS : toS ts l.length 0 (listQ ts (Ps.cmdP ts 16) false 0) = S := hS
    go_wp2_with fail
    refine Calls.mono HLI.out ?_
    rintro e w3 ⟨cs, ⟨kk, s1, ka, wa, sa, ra, kn, kc, wn, wc, sn, sc, rn, rc, rfl⟩, rfl, hC6, hP6, hN6⟩
    have hal : Chg [] w3 (w3.alloc (.cells #[.int .i64 kk, .slice ka kn kc, .string (Lx.strB s1), .slice wa wn wc, .slice sa sn sc, .slice ra rn rc] 42)) := (Chg.refl [] w3).alloc _
    have HAL := Lib.hid hal
    have HC6 := Lib.hid hC6
    have HP6 := Lib.hid hP6
    have HN6 := Lib.hid hN6
    have HOT := Lib.hid (obj_alloc_new w3 (.cells #[.int .i64 kk, .slice ka kn kc, .string (Lx.strB s1), .slice wa wn wc, .slice sa sn sc, .slice ra rn rc] 42))
    have HC4 := Lib.hid (show Chg [] w (w3.alloc (.cells #[.int .i64 kk, .slice ka kn kc, .string (Lx.strB s1), .slice wa wn wc, .slice sa sn sc, .slice ra rn rc] 42)) from (HC2.out.trans hC6 (fun x hx => .inr (by simp at hx; have := HLT.out; omega))).then0 hal)
    have HS4 := Lib.hid (hal.obj (hC6.obj HS2.out (by have := HLT.out; simp; omega)) (by simp))
    have HTB := Lib.hid (show w3.heap.size ≠ pb from by have := HP2.out.lt; have := hC6.size; omega)
    clear hC6 hP6 hN6 HLI hal
    go_upto_region 6 with (fail)
    generalize w3.alloc (.cells #[.int .i64 kk, .slice ka kn kc, .string (Lx.strB s1), .slice wa wn wc, .slice sa sn sc, .slice ra rn rc] 42) = w4 at *
    generalize w3.heap.size = tb at *
    cases hQ : listQ ts (Ps.cmdP ts 16) false 0 with
    | bad er q =>
      rw [hQ] at hS
      subst hS
      have HR := Lib.hid (hRP.symm.trans (programR_bad hTT hQ))
      have HP4 := Lib.hid (show RS w4 pb a c ts vs l.length (.bad er (posR ts l.length q)) from HP6.out.chg0 HAL.out)
      clear hTT hQ hRP HN6 HP6 HAL HP2 HOT
      have x1 := (show ∃ z d, RW w4 pb a c ts vs l.length z er (posR ts l.length q) d from by obtain ⟨_, z, d, hw⟩ := HP4.out; exact ⟨z, d, hw⟩)
      obtain ⟨z, d, hw⟩ := x1
      have x0 := hw.c0
      have x1 := hw.c1
      clear hw
      obtain ⟨pq, hpq⟩ : ∃ pq, posR ts l.length q = pq := ⟨_, rfl⟩
      rw [hpq] at HR HP4
      clear hpq
      by_cases hz : z < (ts.length : Int)
      · have hd : decide (z < (ts.length : Int)) = true := decide_eq_true hz
        clear hz
        go_quiet (fail)
        all_goals
          have hq9 := (Chg.refl [] w4).drewN nq
          have HC5 := Lib.hid (HC4.out.then0 hq9)
          have HS5 := Lib.hid (hq9.obj HS4.out (by simp))
          have HP5 := Lib.hid (HP4.out.chg0 hq9)
          clear hq9 HP4 HS4 HC4 x1 x0
          generalize w4.drewN nq = w5 at *
          go_wp2_with fail
          refine (sfail pb a c ts vs l.length (.bad er pq) w5 10 (by decide) HP5.out).mono ?_
          rintro e wX ⟨rfl, hPX, hCX⟩
          have HX := Lib.hid (show RS wX pb a c ts vs l.length (.bad er pq) from hPX)
          have HCX := Lib.hid (HC5.out.trans hCX (fun x hx => .inr (by simp at hx; have := HLT.out; omega)))
          have HSX := Lib.hid (hCX.obj HS5.out (by have := HLT.out; simp; omega))
          clear hPX hCX HP5 HS5 HC5
          obtain ⟨x3, e3, e4⟩ := HX.out.bad3
          have x4 := (show ∃ z d, RW wX pb a c ts vs l.length z er pq d from by obtain ⟨_, z, d, hw⟩ := HX.out; exact ⟨z, d, hw⟩)
          obtain ⟨z9, d9, hw9⟩ := x4
          have x4 := hw9.c4
          obtain ⟨r0, r1, r2, r3, r4, r5, r6, r7, rf⟩ := eight_cells HSX.out
          clear hw9
          go_upto_region 9 with (fail)
          go_region
          all_goals
            go_wp2_with fail
            refine bodyPost_ret (v := .agg #[.int .i64 0, .slice none 0 0, .string ⟨#[]⟩, .slice none 0 0, .slice none 0 0, .slice none 0 0, .int .i64 (pq : Nat), .int .i64 er]) (by simp [results, Tryd.results10, go_sem, r0, r1, r2, r3, r4, r5, r6, r7]) rfl ?_
            rw [HR.out]
            refine gotR_bad ?_ er pq
            first
              | exact (HCX.out.eight w.heap.size (.int .i64 0) (.slice none 0 0) (.string ⟨#[]⟩) (.slice none 0 0) (.slice none 0 0) (.slice none 0 0) (.int .i64 (pq : Nat)) (.int .i64 er) (.inr (Nat.le_refl _))).drew
              | exact HCX.out.drew.eight w.heap.size (.int .i64 0) (.slice none 0 0) (.string ⟨#[]⟩) (.slice none 0 0) (.slice none 0 0) (.slice none 0 0) (.int .i64 (pq : Nat)) (.int .i64 er) (.inr (Nat.le_refl _))
      · have hd : decide (z < (ts.length : Int)) = false := decide_eq_false hz
        clear hz
        go_quiet (fail)
        all_goals
          have hq9 := (Chg.refl [] w4).drewN nq
          have HC5 := Lib.hid (HC4.out.then0 hq9)
          have HS5 := Lib.hid (hq9.obj HS4.out (by simp))
          have HP5 := Lib.hid (HP4.out.chg0 hq9)
          clear hq9 HP4 HS4 HC4 x1 x0
          generalize w4.drewN nq = w5 at *
          have HX := HP5
          have HCX := HC5
          have HSX := HS5
          clear HP5 HC5 HS5
          obtain ⟨x3, e3, e4⟩ := HX.out.bad3
          have x4 := (show ∃ z d, RW w5 pb a c ts vs l.length z er pq d from by obtain ⟨_, z, d, hw⟩ := HX.out; exact ⟨z, d, hw⟩)
          obtain ⟨z9, d9, hw9⟩ := x4
          have x4 := hw9.c4
          obtain ⟨r0, r1, r2, r3, r4, r5, r6, r7, rf⟩ := eight_cells HSX.out
          clear hw9
          go_upto_region 9 with (fail)
          go_region
          all_goals
            go_wp2_with fail
            refine bodyPost_ret (v := .agg #[.int .i64 0, .slice none 0 0, .string ⟨#[]⟩, .slice none 0 0, .slice none 0 0, .slice none 0 0, .int .i64 (pq : Nat), .int .i64 er]) (by simp [results, Tryd.results10, go_sem, r0, r1, r2, r3, r4, r5, r6, r7]) rfl ?_
            rw [HR.out]
            refine gotR_bad ?_ er pq
            first
              | exact (HCX.out.eight w.heap.size (.int .i64 0) (.slice none 0 0) (.string ⟨#[]⟩) (.slice none 0 0) (.slice none 0 0) (.slice none 0 0) (.int .i64 (pq : Nat)) (.int .i64 er) (.inr (Nat.le_refl _))).drew
              | exact HCX.out.drew.eight w.heap.size (.int .i64 0) (.slice none 0 0) (.string ⟨#[]⟩) (.slice none 0 0) (.slice none 0 0) (.slice none 0 0) (.int .i64 (pq : Nat)) (.int .i64 er) (.inr (Nat.le_refl _))
    | ok x q =>
      rw [hQ] at hS
      subst hS
      have HP4 := Lib.hid (show RS w4 pb a c ts vs l.length (.ok q 0) from HP6.out.chg0 HAL.out)
      have x0 := HP4.out.1.c0
      have x1 := HP4.out.1.c1
      have hle := HP4.out.2.1
      have q0 : (0 : Int) ≤ (q : Int) := by omega
      have q9 : (q : Int) ≤ 100000 := by omega
      by_cases hq : q < ts.length
      · have hd : decide (q < ts.length) = true := decide_eq_true hq
        have HR := Lib.hid (hRP.symm.trans (program_more hTT (listQ_of hQ).1 hq))
        have HR := Lib.hid (show RP = (10, posR ts l.length q, Ps.node 0 []) from HR.out)
        clear hTT hQ hRP HN6 HP6 HAL HP2 HOT hq
        obtain ⟨pq, hpq⟩ : ∃ pq, posR ts l.length q = pq := ⟨_, rfl⟩
        rw [hpq] at HR
        go_quiet (fail)
        all_goals
          have hq9 := (Chg.refl [] w4).drewN nq
          have HC5 := Lib.hid (HC4.out.then0 hq9)
          have HS5 := Lib.hid (hq9.obj HS4.out (by simp))
          have HP5 := Lib.hid (HP4.out.chg0 hq9)
          clear hq9 HP4 HS4 HC4 x1 x0
          generalize w4.drewN nq = w5 at *
          go_wp2_with fail
          refine (sfail pb a c ts vs l.length (.ok q 0) w5 10 (by decide) HP5.out).mono ?_
          rintro e wX ⟨rfl, hPX, hCX⟩
          have HX := Lib.hid (show RS wX pb a c ts vs l.length (.bad 10 pq) from by rw [← hpq]; exact hPX)
          have HCX := Lib.hid (HC5.out.trans hCX (fun x hx => .inr (by simp at hx; have := HLT.out; omega)))
          have HSX := Lib.hid (hCX.obj HS5.out (by have := HLT.out; simp; omega))
          clear hPX hCX HP5 HS5 HC5
          obtain ⟨x3, e3, e4⟩ := HX.out.bad3
          have x4 := (show ∃ z d, RW wX pb a c ts vs l.length z 10 pq d from by obtain ⟨_, z, d, hw⟩ := HX.out; exact ⟨z, d, hw⟩)
          obtain ⟨z9, d9, hw9⟩ := x4
          have x4 := hw9.c4
          obtain ⟨r0, r1, r2, r3, r4, r5, r6, r7, rf⟩ := eight_cells HSX.out
          clear hw9
          go_upto_region 9 with (fail)
          go_region
          all_goals
            go_wp2_with fail
            refine bodyPost_ret (v := .agg #[.int .i64 0, .slice none 0 0, .string ⟨#[]⟩, .slice none 0 0, .slice none 0 0, .slice none 0 0, .int .i64 (pq : Nat), .int .i64 10]) (by simp [results, Tryd.results10, go_sem, r0, r1, r2, r3, r4, r5, r6, r7]) rfl ?_
            rw [HR.out]
            refine gotR_bad ?_ 10 pq
            first
              | exact (HCX.out.eight w.heap.size (.int .i64 0) (.slice none 0 0) (.string ⟨#[]⟩) (.slice none 0 0) (.slice none 0 0) (.slice none 0 0) (.int .i64 (pq : Nat)) (.int .i64 10) (.inr (Nat.le_refl _))).drew
              | exact HCX.out.drew.eight w.heap.size (.int .i64 0) (.slice none 0 0) (.string ⟨#[]⟩) (.slice none 0 0) (.slice none 0 0) (.slice none 0 0) (.int .i64 (pq : Nat)) (.int .i64 10) (.inr (Nat.le_refl _))
      · have hd : decide (q < ts.length) = false := decide_eq_false hq
        have HR := Lib.hid (hRP.symm.trans (program_ok hTT (listQ_of hQ).1 hq))
        have HN4 := Lib.hid (hold0 (HN6.out x rfl) HAL.out)
        have HR2 := HOT.out
        clear hTT hQ hRP HN6 HP6 HAL hq
        go_quiet (fail)
        all_goals
          have hq9 := (Chg.refl [] w4).drewN nq
          have HC5 := Lib.hid (HC4.out.then0 hq9)
          have HS5 := Lib.hid (hq9.obj HS4.out (by simp))
          have HP5 := Lib.hid (HP4.out.chg0 hq9)
          have HN5 := Lib.hid (hold0 HN4.out hq9)
          have HO5 := Lib.hid (hq9.obj HOT.out (by simp))
          clear hq9 HP4 HS4 HC4 HN4 HOT HR2 x0 x1
          generalize w4.drewN nq = w5 at *
          have x3 := HP5.out.1.c3
          obtain ⟨r0, r1, r2, r3, r4, r5, r6, r7, rf⟩ := eight_cells HS5.out
          obtain ⟨t0, t1, t2, t3, t4, t5, tf⟩ := six_cells HO5.out
          go_wp2_with fail
          refine bodyPost_ret (v := .agg #[.int .i64 kk, .slice ka kn kc, .string (Lx.strB s1), .slice wa wn wc, .slice sa sn sc, .slice ra rn rc, .int .i64 0, .int .i64 0]) (by simp [results, Tryd.results10, go_sem, r0, r1, r2, r3, r4, r5, r6, r7]) rfl ?_
          rw [HR.out]
          have hc9 := (Chg.refl [w.heap.size] w5).eight w.heap.size (.int .i64 kk) (.slice ka kn kc) (.string (Lx.strB s1)) (.slice wa wn wc) (.slice sa sn sc) (.slice ra rn rc) (.int .i64 0) (.int .i64 0) (.inl (by simp))
          refine ⟨HC5.out.trans hc9 (fun x hx => .inr (by simp at hx; omega)), kk, s1, ka, wa, sa, ra, kn, kc, wn, wc, sn, sc, rn, rc, rfl, NodeAt.mono (fun j hj => trivial) _ _ (NodeAt.kept hc9 (fun j hj hS => ?_) _ _ HN5.out)⟩
          simp at hj
          subst hj
          rcases hS with h1 | h1
          · exact HTN.out h1
          · have := HP2.out.lt; have := HLT.out; omega
  · have hne : (e0 != 0) = true := by simpa using he
    have HR := Lib.hid (hRP.symm.trans (program_lex hTT he))
    clear hTT he hRP
    have hal : Chg [] w1 (w1.alloc (.cells #[.slice a n c, .int .i64 at0, .int .i64 e0] 68)) := (Chg.refl [] w1).alloc _
    have HC2 := Lib.hid (HC1.out.then0 hal)
    obtain ⟨r0, r1, r2, r3, r4, r5, r6, r7, rf⟩ := eight_cells (hal.obj HS1.out (by simp))
    have hgo := obj_alloc_new w1 (.cells #[.slice a n c, .int .i64 at0, .int .i64 e0] 68)
    have g0 := cell_of_obj hgo (j := 0) rfl
    have g1 := cell_of_obj hgo (j := 1) rfl
    have g2 := cell_of_obj hgo (j := 2) rfl
    go_upto_region 2 with (fail)
    generalize w1.alloc (.cells #[.slice a n c, .int .i64 at0, .int .i64 e0] 68) = w2 at *
    clear hal hgo
    go_wp2_with fail
    refine bodyPost_ret (v := .agg #[.int .i64 0, .slice none 0 0, .string ⟨#[]⟩, .slice none 0 0, .slice none 0 0, .slice none 0 0, .int .i64 at0, .int .i64 e0]) (by simp [results, Tryd.results10, go_sem, r0, r1, r2, r3, r4, r5, r6, r7]) rfl ?_
    rw [HR.out]
    refine gotR_bad ?_ e0 at0
    exact HC2.out.eight w.heap.size (.int .i64 0) (.slice none 0 0) (.string ⟨#[]⟩) (.slice none 0 0) (.slice none 0 0) (.slice none 0 0) (.int .i64 at0) (.int .i64 e0) (.inr (Nat.le_refl _))

end Go.Proofs.YtfgbbmnmblchiaaDoor

namespace Go.Proofs.YtfgbbmnmblchiaaDoor
set_option linter.unusedVariables false

mutual
def SmN : Ps.Node → Prop
  | .mk _ kids _ words sets reds => SmNs kids ∧ (∀ p ∈ words, p.length ≤ 4096) ∧ (∀ s ∈ sets, s.word.length ≤ 4096) ∧ (∀ r ∈ reds, r.word.length ≤ 4096)
def SmNs : List Ps.Node → Prop
  | [] => True
  | n :: ns => SmN n ∧ SmNs ns
end

theorem SmNs.of : ∀ {l : List Ps.Node}, (∀ n ∈ l, SmN n) → SmNs l
  | [], _ => by unfold SmNs; trivial
  | n :: ns, h => by unfold SmNs; exact ⟨h n (by simp), SmNs.of (fun m hm => h m (by simp [hm]))⟩
theorem SmNs.mem : ∀ {l : List Ps.Node}, SmNs l → ∀ n ∈ l, SmN n
  | [], _, n, h => by simp at h
  | m :: ns, h, n, hn => by
    unfold SmNs at h
    rcases List.mem_cons.1 hn with rfl | hn
    · exact h.1
    · exact SmNs.mem h.2 n hn
theorem SmN.node {k : Int} {l : List Ps.Node} (h : ∀ n ∈ l, SmN n) : SmN (Ps.node k l) := by
  unfold Ps.node SmN
  exact ⟨SmNs.of h, by simp, by simp, by simp⟩

def SmF (f : Nat → Ps.Res Ps.Node) : Prop := ∀ a n b, f a = .ok n b → SmN n

section
variable {ts : List Lx.Tok} {cmd : Nat → Ps.Res Ps.Node} (hc : SmF cmd)
include hc

theorem pipeL_sm : ∀ (f a : Nat) (acc l : List Ps.Node) (b : Nat), (∀ n ∈ acc, SmN n) → Ps.pipeL ts cmd f a acc = .ok l b → ∀ n ∈ l, SmN n
  | 0, a, acc, l, b, ha, h => by unfold Ps.pipeL at h; cases h; exact ha
  | f + 1, a, acc, l, b, ha, h => by
    have snoc : ∀ k q, cmd a = .ok k q → ∀ n ∈ acc ++ [k], SmN n := fun k q hk n hn => by
      rcases List.mem_append.1 hn with hn | hn
      · exact ha n hn
      · simp at hn; subst hn; exact hc _ _ _ hk
    cases hk : cmd a with
    | bad e q => rw [pipeL_bad hk] at h; cases h
    | ok k q =>
      cases hb : Ps.isT ts q 2 [124] with
      | true => rw [pipeL_more hk hb] at h; exact pipeL_sm f _ _ _ _ (snoc k q hk) h
      | false => rw [pipeL_end hk hb] at h; cases h; exact snoc k _ hk
theorem pipe_sm : SmF (Ps.pipeP ts cmd) := by
  intro a n b h
  rw [pipeP_eq] at h
  cases hl : Ps.pipeL ts cmd (ts.length + 1) a [] with
  | bad e q => rw [hl] at h; cases h
  | ok l q =>
    rw [hl] at h
    cases h
    have hm := pipeL_sm hc _ _ _ _ _ (by simp) hl
    match l, hm with
    | [], hm => exact SmN.node (by simp)
    | [k], hm => exact hm k (by simp)
    | x :: y :: l, hm => exact SmN.node hm
theorem chainL_sm : ∀ (f a : Nat) (n m : Ps.Node) (b : Nat), SmN n → Ps.chainL ts cmd f a n = .ok m b → SmN m
  | 0, a, n, m, b, ha, h => by unfold Ps.chainL at h; cases h; exact ha
  | f + 1, a, n, m, b, ha, h => by
    by_cases h0 : Ps.linkK ts a = 0
    · rw [chainL_end h0] at h; cases h; exact ha
    · rw [chainL_more rfl h0] at h
      cases hp : Ps.pipeP ts cmd (Ps.endsP ts (a + 1)) with
      | bad e q => rw [hp] at h; cases h
      | ok k q =>
        rw [hp] at h
        replace h : Ps.chainL ts cmd f q (Ps.node (Ps.linkK ts a) [n, k]) = .ok m b := h
        refine chainL_sm f _ _ _ _ (SmN.node (fun x hx => ?_)) h
        simp only [List.mem_cons, List.not_mem_nil, or_false] at hx
        rcases hx with rfl | rfl
        · exact ha
        · exact pipe_sm hc _ _ _ hp
theorem chain_sm : SmF (Ps.chainP ts cmd) := by
  intro a n b h
  rw [chainP_eq] at h
  cases hp : Ps.pipeP ts cmd a with
  | bad e q => rw [hp] at h; cases h
  | ok k q =>
    rw [hp] at h
    exact chainL_sm hc _ _ _ _ _ (pipe_sm hc _ _ _ hp) h
theorem listL_sm : ∀ (f a : Nat) (acc l : List Ps.Node) (b : Nat), (∀ n ∈ acc, SmN n) → Ps.listL ts cmd f a acc = .ok l b → ∀ n ∈ l, SmN n
  | 0, a, acc, l, b, ha, h => by unfold Ps.listL at h; cases h; exact ha
  | f + 1, a, acc, l, b, ha, h => by
    cases hb : Ps.closing ts a with
    | true => rw [listL_end hb] at h; cases h; exact ha
    | false =>
      rw [listL_more hb] at h
      cases hk : Ps.chainP ts cmd a with
      | bad e q => rw [hk] at h; cases h
      | ok k q =>
        rw [hk] at h
        have snoc : ∀ n ∈ acc ++ [k], SmN n := fun n hn => by
          rcases List.mem_append.1 hn with hn | hn
          · exact ha n hn
          · simp at hn; subst hn; exact chain_sm hc _ _ _ hk
        replace h : (if Ps.isT ts q 3 [] = true then Ps.listL ts cmd f (Ps.endsP ts q) (acc ++ [k]) else .ok (acc ++ [k]) q) = .ok l b := h
        split at h
        · exact listL_sm f _ _ _ _ snoc h
        · cases h; exact snoc
theorem list_sm (sm : Bool) : SmF (Ps.listP ts cmd sm) := by
  intro a n b h
  rw [listP_eq] at h
  cases hl : Ps.listL ts cmd (ts.length + 1) (Ps.endsP ts a) [] with
  | bad e q => rw [hl] at h; cases h
  | ok l q =>
    rw [hl] at h
    replace h : (if sm = true ∧ l = [] then Ps.Res.bad 10 q else .ok (Ps.node 1 l) q) = .ok n b := h
    split at h
    · cases h
    · cases h
      exact SmN.node (listL_sm hc _ _ _ _ _ (by simp) hl)
theorem group_sm : SmF (Ps.groupP ts cmd) := by
  intro a n b h
  unfold Ps.groupP at h
  split at h
  · cases h
  · rename_i l q hl
    split at h
    · cases h
    · cases h
      exact SmN.node (fun x hx => by simp at hx; subst hx; exact list_sm hc true _ _ _ hl)
theorem body_sm : SmF (Ps.bodyP ts cmd) := by
  intro a n b h
  unfold Ps.bodyP at h
  split at h
  · cases h
  · split at h
    · cases h
    · rename_i x q hl
      split at h
      · cases h
      · cases h
        exact list_sm hc true _ _ _ hl
theorem loop_sm : SmF (Ps.loopP ts cmd) := by
  intro a n b h
  unfold Ps.loopP at h
  split at h
  · cases h
  · rename_i x q hl
    split at h
    · cases h
    · rename_i y q2 hl2
      cases h
      refine SmN.node (fun z hz => ?_)
      simp only [List.mem_cons, List.not_mem_nil, or_false] at hz
      rcases hz with rfl | rfl
      · exact list_sm hc true _ _ _ hl
      · exact body_sm hc _ _ _ hl2
theorem branch_sm : SmF (Ps.branchP ts cmd) := by
  intro a n b h
  unfold Ps.branchP at h
  split at h
  · cases h
  · rename_i x q hl
    split at h
    · cases h
    · split at h
      · cases h
      · rename_i y q2 hl2
        split at h
        · split at h
          · cases h
          · rename_i z q3 hl3
            split at h
            · cases h
            · cases h
              refine SmN.node (fun u hu => ?_)
              simp only [List.mem_cons, List.not_mem_nil, or_false] at hu
              rcases hu with rfl | rfl | rfl
              · exact list_sm hc true _ _ _ hl
              · exact list_sm hc true _ _ _ hl2
              · exact list_sm hc true _ _ _ hl3
        · split at h
          · cases h
          · cases h
            refine SmN.node (fun u hu => ?_)
            simp only [List.mem_cons, List.not_mem_nil, or_false] at hu
            rcases hu with rfl | rfl
            · exact list_sm hc true _ _ _ hl
            · exact list_sm hc true _ _ _ hl2
theorem each_sm (ht : ∀ t ∈ ts, t.parts.length ≤ 4096) : SmF (Ps.eachP ts cmd) := by
  intro a n b h
  unfold Ps.eachP at h
  split at h
  · cases h
  · split at h
    · split at h
      · cases h
      · split at h
        · cases h
        · split at h
          · cases h
          · rename_i x q hl
            cases h
            unfold SmN
            refine ⟨SmNs.of (fun m hm => by simp at hm; subst hm; exact body_sm hc _ _ _ hl), fun p hp => ?_, by simp, by simp⟩
            unfold Ps.wordsAt at hp
            obtain ⟨t, ht1, rfl⟩ := List.mem_map.1 hp
            exact ht t (List.drop_subset _ _ ((List.takeWhile_sublist _).subset ht1))
    · cases h
end

def SmC (c : Ps.Cmd) : Prop := (∀ p ∈ c.words, p.length ≤ 4096) ∧ (∀ s ∈ c.sets, s.word.length ≤ 4096) ∧ (∀ r ∈ c.reds, r.word.length ≤ 4096)
theorem setP_sm {t : Lx.Tok} (ht : t.parts.length ≤ 4096) {s : Ps.SetP} (h : Ps.setP t = some s) : s.word.length ≤ 4096 := by
  unfold Ps.setP at h
  split at h
  · cases h
  · split at h
    · split at h
      · cases h
      · rename_i hp
        cases h
        rw [hp, List.length_cons] at ht
        show (if _ then _ else _ : List Lx.Part).length ≤ 4096
        split
        · omega
        · rw [List.length_cons]; omega
    · cases h
theorem simpleL_sm {ts : List Lx.Tok} (ht : ∀ t ∈ ts, t.parts.length ≤ 4096) : ∀ (f a : Nat) (c d : Ps.Cmd) (b : Nat), SmC c → Ps.simpleL ts f a c = .ok d b → SmC d
  | 0, a, c, d, b, hc, h => by unfold Ps.simpleL at h; cases h; exact hc
  | f + 1, a, c, d, b, hc, h => by
    cases ha : ts[a]? with
    | none => rw [simpleL_none ha] at h; cases h; exact hc
    | some t =>
      have hta := ht t (List.mem_of_getElem? ha)
      by_cases h2 : t.kind = 2 ∧ 0 < Ps.redK t.text
      · cases hu : ts[a + 1]? with
        | none =>
          rw [simpleL_red0 ha h2 (isT_none (by intro hlt; rw [List.getElem?_eq_getElem hlt] at hu; cases hu) _ _)] at h
          cases h
        | some u =>
          by_cases hk : u.kind = 1
          · rw [simpleL_red ha h2 hu hk] at h
            refine simpleL_sm ht f _ { c with reds := c.reds ++ [⟨Ps.redK t.text, u.parts⟩] } _ _ ⟨hc.1, hc.2.1, fun r hr => ?_⟩ h
            rcases List.mem_append.1 hr with hr | hr
            · exact hc.2.2 r hr
            · simp at hr; subst hr; exact ht u (List.mem_of_getElem? hu)
          · rw [simpleL_red0 ha h2 (by rw [isT_some hu]; simpa using hk)] at h
            cases h
      · by_cases hk : t.kind = 1
        · rw [simpleL_word ha hk] at h
          refine simpleL_sm ht f _ _ _ _ ?_ h
          have hw : SmC { c with words := c.words ++ [t.parts] } := ⟨fun p hp => by
            rcases List.mem_append.1 hp with hp | hp
            · exact hc.1 p hp
            · simp at hp; subst hp; exact hta, hc.2.1, hc.2.2⟩
          unfold Ps.Cmd.put
          split
          · rename_i s hs
            split
            · exact ⟨hc.1, fun x hx => by
                rcases List.mem_append.1 hx with hx | hx
                · exact hc.2.1 x hx
                · simp at hx; subst hx; exact setP_sm hta hs, hc.2.2⟩
            · exact hw
          · exact hw
        · rw [simpleL_stop ha h2 hk] at h
          cases h
          exact hc
theorem simple_sm {ts : List Lx.Tok} (ht : ∀ t ∈ ts, t.parts.length ≤ 4096) : SmF (Ps.simpleP ts) := by
  intro a n b h
  unfold Ps.simpleP at h
  split at h
  · cases h
  · rename_i c q hl
    split at h
    · cases h
    · cases h
      have := simpleL_sm ht _ _ _ _ _ ⟨by simp, by simp, by simp⟩ hl
      unfold SmN
      exact ⟨by unfold SmNs; trivial, this.1, this.2.1, this.2.2⟩
theorem cmd_sm {ts : List Lx.Tok} (ht : ∀ t ∈ ts, t.parts.length ≤ 4096) (d : Nat) : SmF (Ps.cmdP ts d) := by
  induction d with
  | zero =>
    intro a n b h
    cases hcl : Ps.closing ts a with
    | true => rw [cmdP_closing hcl] at h; cases h
    | false =>
      cases ha : ts[a]? with
      | none => unfold Ps.closing at hcl; rw [ha] at hcl; cases hcl
      | some t =>
        by_cases hk : Ps.readK t.text = 0
        · rw [cmdP_simple hcl ha hk] at h
          exact simple_sm ht _ _ _ h
        · rw [cmdP_deep hcl ha hk] at h; cases h
  | succ d ih =>
    intro a n b h
    cases hcl : Ps.closing ts a with
    | true => rw [cmdP_closing hcl] at h; cases h
    | false =>
      cases ha : ts[a]? with
      | none => unfold Ps.closing at hcl; rw [ha] at hcl; cases hcl
      | some t =>
        by_cases hk : Ps.readK t.text = 0
        · rw [cmdP_simple hcl ha hk] at h
          exact simple_sm ht _ _ _ h
        · rw [cmdP_read hcl ha hk] at h
          unfold Ps.readP at h
          split at h
          · exact group_sm ih _ _ _ h
          · split at h
            · exact branch_sm ih _ _ _ h
            · split at h
              · exact loop_sm ih _ _ _ h
              · exact each_sm ih ht _ _ _ h
theorem program_sm (l : List UInt8) : SmN (Ps.program l).2.2 := by
  have h0 : SmN (Ps.node 0 []) := SmN.node (by simp)
  unfold Ps.program
  split
  rename_i e at_ ts hT
  split
  · exact h0
  · rename_i he
    have he : e = 0 := by simpa using he
    subst he
    have hll : ¬ 2048 < l.length := by
      intro h
      rw [tokens_long h] at hT
      cases hT
    have hok := (tokens_ok hll hT).1
    split
    · exact h0
    · rename_i n a hl
      split
      · exact h0
      · exact list_sm (cmd_sm (fun t ht => by have := (hok t ht).2.2; omega) 16) false _ _ _ hl

end Go.Proofs.YtfgbbmnmblchiaaDoor

namespace Go.Proofs.YtfgbbmnmblchiaaDoor
open Go.RowKit
set_option linter.unusedVariables false

theorem PartsAt.cells2 {w : World} {a : Option Addr} {n c : Nat} {ps : List Lx.Part} (h : PartsAt w (.slice a n c) ps) (k : Nat) (p : Lx.Part) (hk : ps[k]? = some p) :
    ∃ g, a = some ⟨g, 0, none⟩ ∧ w.cell? ⟨g, k * 2, none⟩ = some (.int .i64 p.kind) ∧ w.cell? ⟨g, k * 2 + 1, none⟩ = some (.string (Lx.strB p.text)) := by
  obtain ⟨g, rfl, _, _, hc⟩ := h.cells (by have := (List.getElem?_eq_some_iff.1 hk).1; omega)
  have := hc k p hk
  exact ⟨g, rfl, by rw [Nat.mul_comm]; exact this.kind, by rw [Nat.mul_comm]; exact this.text⟩

theorem PartsR.cells2 {w : World} {a : Option Addr} {n c : Nat} {ps : List Lx.Part} (h : PartsR w (.slice a n c) ps) (k : Nat) (p : Lx.Part) (hk : ps[k]? = some p) :
    ∃ g, a = some ⟨g, 0, none⟩ ∧ w.cell? ⟨g, k * 2, none⟩ = some (.int .i64 p.kind) ∧ w.cell? ⟨g, k * 2 + 1, none⟩ = some (.string (Lx.strB p.text)) := by
  obtain ⟨g, rfl, _, _, hc⟩ := h.cells (by have := (List.getElem?_eq_some_iff.1 hk).1; omega)
  have := hc k p hk
  exact ⟨g, rfl, by rw [Nat.mul_comm]; exact this.kind, by rw [Nat.mul_comm]; exact this.text⟩

theorem pcells_snoc (ps : List Lx.Part) (k : Nat) (p : Lx.Part) (h : ps[k]? = some p) : pcells (ps.take (k + 1)) = pcells (ps.take k) ++ partCells p := by
  obtain ⟨hl, he⟩ := List.getElem?_eq_some_iff.1 h
  rw [List.take_succ_eq_append_getElem hl, he, pcells_append]
  simp [pcells]

set_option maxHeartbeats 2000000 in
theorem parts_any (a : Option Addr) (n c : Nat) (ps : List Lx.Part) (w : World) (h : PartsAt w (.slice a n c) ps) (hn : ps.length ≤ 1000000) :
    Calls Tryd.prog 20 #[.slice a n c] w fun e w' => ∃ a' n' c', e = .returned (.slice a' n' c') ∧ PartsR w' (.slice a' n' c') ps ∧ Chg [] w w' := by
  obtain ⟨i0, hi, hz0, hz1, hz2⟩ := info_parts Tryd.infoPartR
  have hnl := h.len.1
  have n0 : (n : Int) ≤ 1000000 := by omega
  have n1 : n ≤ 1000000 := by omega
  have HP := Lib.hid h
  have HNL := Lib.hid hnl
  clear h hn hnl
  go_enter Tryd.func20, Tryd.ntmps20
  go_wp2_with fail
  go_loopg [3, 4] (n + 1) (fun g c3 c4 wr => ∃ k : Nat, n < k + g ∧ k ≤ n ∧ c4 = .int .i64 k ∧ Row wr 103 2 c3 k (pcells (ps.take k)) ∧ Chg [] w wr ∧ ∀ x ∈ rowBlock c3, w.heap.size ≤ x)
  case atStart => exact ⟨0, by omega, by omega, rfl, by simpa [pcells] using Row.nil w _ 2 none, Chg.refl _ _, by simp [rowBlock]⟩
  case round =>
    obtain ⟨k, hg, hk, rfl, hrow, hch, hnew⟩ := hrel
    obtain ⟨a3, cap3, rfl, _⟩ := hrow.shape
    have HR := Lib.hid hrow
    have HC := Lib.hid hch
    have HN := Lib.hid hnew
    clear hrow hch hnew
    have k0 : (0 : Int) ≤ (k : Int) := by omega
    by_cases hlt : k < n
    · cases gk with
      | zero => omega
      | succ g =>
        have hd : decide (k < n) = true := decide_eq_true hlt
        have k1 : (k : Int) < (n : Int) := by omega
        have k2 : 0 < n := by omega
        obtain ⟨p, hp⟩ : ∃ p, ps[k]? = some p := ⟨_, List.getElem?_eq_getElem (by have := HNL.out; omega)⟩
        obtain ⟨g1, rfl, x0, x1⟩ := (HP.out.kept0 HC.out).cells2 k p hp
        have HSN := Lib.hid (pcells_snoc ps k p hp)
        have HG := Lib.hid hg
        have HLT := Lib.hid hlt
        clear hg hp hlt
        go_wp2_with fail
        go_region_law ((refine step_append_row (by rfl) _ _ 78 (by rfl) 103 i0 _ 2 24 Tryd.underlying78 hi hz0 hz1 hz2 (by rfl) (by decide) _ k (pcells (ps.take k)) (by rfl) (HR.out.kept0 ((Chg.refl [] _).drew.alloc _)) _ 1 1 (partCells p) (by rfl) (by simp [partCells]) (srcNew _ _ _ _) (one_part _) (by unfold maxLen; omega) (by omega) ?_; intro v' w5 r5 q5 g5; have FIN := Lib.hid (And.intro r5 (And.intro q5 g5)); clear r5 q5 g5))
        all_goals
          go_wp2
          go_roundg g
          case measure => omega
          case rel => exact ⟨k + 1, by have := HG.out; omega, by have := HLT.out; omega, by go_num, by rw [HSN.out]; exact FIN.out.1, (HC.out.then0 ((Chg.refl [] _).drew.alloc _)).trans FIN.out.2.1 (fun x hx => .inr (HN.out x hx)), fun x hx => by
              rcases FIN.out.2.2 x hx with h1 | h1
              · exact HN.out x h1
              · have := HC.out.size
                have h1 : wr.heap.size + 1 ≤ x := by simpa using h1
                omega⟩
    · obtain rfl : k = n := by omega
      have hd : decide (k < k) = false := decide_eq_false (by omega)
      have hfin := HR.out
      rw [List.take_of_length_le (by have := HNL.out; omega)] at hfin
      have HF := Lib.hid (show PartsR wr (.slice a3 k cap3) ps from by unfold PartsR; rw [← HNL.out]; exact hfin)
      clear hfin hg
      go_wp2
      go_ret
      exact ⟨a3, k, cap3, rfl, HF.out, HC.out⟩

set_option maxHeartbeats 2000000 in
theorem same_any (a a2 : Option Addr) (n c n2 c2 : Nat) (ps : List Lx.Part) (w : World) (h : PartsR w (.slice a n c) ps) (h2 : PartsR w (.slice a2 n2 c2) ps) (hn : ps.length ≤ 1000000) :
    Calls Tryd.prog 19 #[.slice a n c, .slice a2 n2 c2] w fun e w' => e = .returned (.bool true) ∧ Chg [] w w' := by
  have hnl := h.len.1
  obtain rfl : n2 = n := by rw [hnl, h2.len.1]
  have n0 : (n2 : Int) ≤ 1000000 := by omega
  have n1 : n2 ≤ 1000000 := by omega
  have HP := Lib.hid h
  have HP2 := Lib.hid h2
  have HNL := Lib.hid hnl
  clear h h2 hn hnl
  go_enter Tryd.func19, Tryd.ntmps19
  go_wp2_with fail
  go_loopg [5] (n2 + 1) (fun g c5 wr => ∃ k : Nat, n2 < k + g ∧ k ≤ n2 ∧ c5 = .int .i64 k ∧ Chg [] w wr)
  case atStart => exact ⟨0, by omega, by omega, rfl, Chg.refl _ _⟩
  case round =>
    obtain ⟨k, hg, hk, rfl, hch⟩ := hrel
    have HC := Lib.hid hch
    clear hch
    have k0 : (0 : Int) ≤ (k : Int) := by omega
    by_cases hlt : k < n2
    · cases gk with
      | zero => omega
      | succ g =>
        have hd : decide (k < n2) = true := decide_eq_true hlt
        have k1 : (k : Int) < (n2 : Int) := by omega
        have k2 : 0 < n2 := by omega
        obtain ⟨p, hp⟩ : ∃ p, ps[k]? = some p := ⟨_, List.getElem?_eq_getElem (by have := HNL.out; omega)⟩
        obtain ⟨g1, rfl, x0, x1⟩ := (HP.out.kept0 HC.out).cells2 k p hp
        obtain ⟨g2, rfl, y0, y1⟩ := (HP2.out.kept0 HC.out).cells2 k p hp
        have HG := Lib.hid hg
        clear hg hp
        go_wp2_with fail
        go_quiet (fail)
        all_goals
          go_wp2
          go_roundg g
          case measure => omega
          case rel => exact ⟨k + 1, by have := HG.out; omega, by omega, by go_num, HC.out.drewN _⟩
    · obtain rfl : k = n2 := by omega
      have hd : decide (k < k) = false := decide_eq_false (by omega)
      clear hg
      go_wp2
      go_ret
      exact ⟨rfl, HC.out⟩

end Go.Proofs.YtfgbbmnmblchiaaDoor

namespace Go.Proofs.YtfgbbmnmblchiaaDoor
open Go.RowKit
set_option linter.unusedVariables false

theorem WordIn.at2 {w : World} {S : Nat → Prop} {off n c : Nat} {a : Option Addr} {ps : List Lx.Part} (h : WordIn w S off (.slice a n c) ps) (k : Nat) (p : Lx.Part) (hk : ps[k]? = some p) :
    ∃ g, a = some ⟨g, off, none⟩ ∧ w.cell? ⟨g, off + k * 2, none⟩ = some (.int .i64 p.kind) ∧ w.cell? ⟨g, off + (k * 2 + 1), none⟩ = some (.string (Lx.strB p.text)) := by
  obtain ⟨a', c', hv, hn, hc, hx⟩ := h
  cases hv
  have hlt := (List.getElem?_eq_some_iff.1 hk).1
  have hne : pcells ps ≠ [] := by
    intro e
    have := pcells_len ps
    rw [e] at this
    simp at this
    omega
  obtain ⟨g, rfl, _, hcell⟩ := hx hne
  have hg : ∀ j, j < 2 → (pcells ps)[k * 2 + j]? = (partCells p)[j]? := fun j hj => by
    have h1 := pcells_snoc ps k p hk
    have h2 := pcells_len (ps.take k)
    rw [List.length_take, Nat.min_eq_left (Nat.le_of_lt hlt)] at h2
    have h3 : pcells ps = pcells (ps.take (k + 1)) ++ pcells (ps.drop (k + 1)) := by rw [← pcells_append, List.take_append_drop]
    rw [h3, h1, List.append_assoc, List.getElem?_append_right (by omega), h2, List.getElem?_append_left (by simp [partCells]; omega)]
    congr 1
    omega
  exact ⟨g, rfl, hcell _ _ ((hg 0 (by omega)).trans rfl), hcell _ _ ((hg 1 (by omega)).trans rfl)⟩
theorem WordIn.kept0 {w w' : World} {S : Nat → Prop} {off : Nat} {v : Value} {ps : List Lx.Part} (h : WordIn w S off v ps) (hc : Chg [] w w') : WordIn w' S off v ps := Sl.kept h hc (by simp)
theorem WordIn.len {w : World} {S : Nat → Prop} {off n c : Nat} {a : Option Addr} {ps : List Lx.Part} (h : WordIn w S off (.slice a n c) ps) : n = ps.length := by
  obtain ⟨a', c', hv, _⟩ := h
  cases hv
  rfl

set_option maxHeartbeats 2000000 in
theorem parts_in (S : Nat → Prop) (off : Nat) (a : Option Addr) (n c : Nat) (ps : List Lx.Part) (w : World) (h : WordIn w S off (.slice a n c) ps) (hn : ps.length ≤ 1000000) :
    Calls Tryd.prog 20 #[.slice a n c] w fun e w' => ∃ a' n' c', e = .returned (.slice a' n' c') ∧ WordIn w' (fun _ => True) 0 (.slice a' n' c') ps ∧ Chg [] w w' := by
  obtain ⟨i0, hi, hz0, hz1, hz2⟩ := info_parts Tryd.infoPartR
  have hnl := h.len
  have n0 : (n : Int) ≤ 1000000 := by omega
  have n1 : n ≤ 1000000 := by omega
  have HP := Lib.hid h
  have HNL := Lib.hid hnl
  clear h hn hnl
  go_enter Tryd.func20, Tryd.ntmps20
  go_wp2_with fail
  go_loopg [3, 4] (n + 1) (fun g c3 c4 wr => ∃ k : Nat, n < k + g ∧ k ≤ n ∧ c4 = .int .i64 k ∧ Row wr 103 2 c3 k (pcells (ps.take k)) ∧ Chg [] w wr ∧ ∀ x ∈ rowBlock c3, w.heap.size ≤ x)
  case atStart => exact ⟨0, by omega, by omega, rfl, by simpa [pcells] using Row.nil w _ 2 none, Chg.refl _ _, by simp [rowBlock]⟩
  case round =>
    obtain ⟨k, hg, hk, rfl, hrow, hch, hnew⟩ := hrel
    obtain ⟨a3, cap3, rfl, _⟩ := hrow.shape
    have HR := Lib.hid hrow
    have HC := Lib.hid hch
    have HN := Lib.hid hnew
    clear hrow hch hnew
    have k0 : (0 : Int) ≤ (k : Int) := by omega
    by_cases hlt : k < n
    · cases gk with
      | zero => omega
      | succ g =>
        have hd : decide (k < n) = true := decide_eq_true hlt
        have k1 : (k : Int) < (n : Int) := by omega
        have k2 : 0 < n := by omega
        obtain ⟨p, hp⟩ : ∃ p, ps[k]? = some p := ⟨_, List.getElem?_eq_getElem (by have := HNL.out; omega)⟩
        obtain ⟨g1, rfl, x0, x1⟩ := (WordIn.kept0 HP.out HC.out).at2 k p hp
        have x1 : wr.cell? ⟨g1, off + k * 2 + 1, none⟩ = some (.string (Lx.strB p.text)) := x1
        have HSN := Lib.hid (pcells_snoc ps k p hp)
        have HG := Lib.hid hg
        have HLT := Lib.hid hlt
        clear hg hp hlt
        go_wp2_with fail
        go_region_law ((refine step_append_row (by rfl) _ _ 78 (by rfl) 103 i0 _ 2 24 Tryd.underlying78 hi hz0 hz1 hz2 (by rfl) (by decide) _ k (pcells (ps.take k)) (by rfl) (HR.out.kept0 ((Chg.refl [] _).drew.alloc _)) _ 1 1 (partCells p) (by rfl) (by simp [partCells]) (srcNew _ _ _ _) (one_part _) (by unfold maxLen; omega) (by omega) ?_; intro v' w5 r5 q5 g5; have FIN := Lib.hid (And.intro r5 (And.intro q5 g5)); clear r5 q5 g5))
        all_goals
          go_wp2
          go_roundg g
          case measure => omega
          case rel => exact ⟨k + 1, by have := HG.out; omega, by have := HLT.out; omega, by go_num, by rw [HSN.out]; exact FIN.out.1, (HC.out.then0 ((Chg.refl [] _).drew.alloc _)).trans FIN.out.2.1 (fun x hx => .inr (HN.out x hx)), fun x hx => by
              rcases FIN.out.2.2 x hx with h1 | h1
              · exact HN.out x h1
              · have := HC.out.size
                have h1 : wr.heap.size + 1 ≤ x := by simpa using h1
                omega⟩
    · obtain rfl : k = n := by omega
      have hd : decide (k < k) = false := decide_eq_false (by omega)
      have hfin := HR.out
      rw [List.take_of_length_le (by have := HNL.out; omega)] at hfin
      have HF := Lib.hid (show WordIn wr (fun _ => True) 0 (.slice a3 k cap3) ps from Row.sl (by rw [← HNL.out]; exact hfin) (fun _ _ => trivial))
      clear hfin hg
      go_wp2
      go_ret
      exact ⟨a3, k, cap3, rfl, HF.out, HC.out⟩

set_option maxHeartbeats 2000000 in
theorem same_in (S T : Nat → Prop) (off off2 : Nat) (a a2 : Option Addr) (n c n2 c2 : Nat) (ps : List Lx.Part) (w : World) (h : WordIn w S off (.slice a n c) ps) (h2 : WordIn w T off2 (.slice a2 n2 c2) ps) (hn : ps.length ≤ 1000000) :
    Calls Tryd.prog 19 #[.slice a n c, .slice a2 n2 c2] w fun e w' => e = .returned (.bool true) ∧ Chg [] w w' := by
  have hnl := h.len
  obtain rfl : n2 = n := by rw [hnl, h2.len]
  have n0 : (n2 : Int) ≤ 1000000 := by omega
  have n1 : n2 ≤ 1000000 := by omega
  have HP := Lib.hid h
  have HP2 := Lib.hid h2
  have HNL := Lib.hid hnl
  clear h h2 hn hnl
  go_enter Tryd.func19, Tryd.ntmps19
  go_wp2_with fail
  go_loopg [5] (n2 + 1) (fun g c5 wr => ∃ k : Nat, n2 < k + g ∧ k ≤ n2 ∧ c5 = .int .i64 k ∧ Chg [] w wr)
  case atStart => exact ⟨0, by omega, by omega, rfl, Chg.refl _ _⟩
  case round =>
    obtain ⟨k, hg, hk, rfl, hch⟩ := hrel
    have HC := Lib.hid hch
    clear hch
    have k0 : (0 : Int) ≤ (k : Int) := by omega
    by_cases hlt : k < n2
    · cases gk with
      | zero => omega
      | succ g =>
        have hd : decide (k < n2) = true := decide_eq_true hlt
        have k1 : (k : Int) < (n2 : Int) := by omega
        have k2 : 0 < n2 := by omega
        obtain ⟨p, hp⟩ : ∃ p, ps[k]? = some p := ⟨_, List.getElem?_eq_getElem (by have := HNL.out; omega)⟩
        obtain ⟨g1, rfl, x0, x1⟩ := (WordIn.kept0 HP.out HC.out).at2 k p hp
        obtain ⟨g2, rfl, y0, y1⟩ := (WordIn.kept0 HP2.out HC.out).at2 k p hp
        have x1 : wr.cell? ⟨g1, off + k * 2 + 1, none⟩ = some (.string (Lx.strB p.text)) := x1
        have y1 : wr.cell? ⟨g2, off2 + k * 2 + 1, none⟩ = some (.string (Lx.strB p.text)) := y1
        have HG := Lib.hid hg
        clear hg hp
        go_wp2_with fail
        go_quiet (fail)
        all_goals
          go_wp2
          go_roundg g
          case measure => omega
          case rel => exact ⟨k + 1, by have := HG.out; omega, by omega, by go_num, HC.out.drewN _⟩
    · obtain rfl : k = n2 := by omega
      have hd : decide (k < k) = false := decide_eq_false (by omega)
      clear hg
      go_wp2
      go_ret
      exact ⟨rfl, HC.out⟩

end Go.Proofs.YtfgbbmnmblchiaaDoor

namespace Go.Proofs.YtfgbbmnmblchiaaDoor
open Go.RowKit
set_option linter.unusedVariables false

theorem Sl.len {w : World} {S : Nat → Prop} {off m n c : Nat} {a : Option Addr} {xs : List Value} (h : Sl w S off (.slice a n c) m xs) : n = m := by
  obtain ⟨a', c', hv, _⟩ := h
  cases hv
  rfl
theorem Sl.cells {w : World} {S : Nat → Prop} {off m n c : Nat} {a : Option Addr} {xs : List Value} (h : Sl w S off (.slice a n c) m xs) (hne : xs ≠ []) : ∃ g, a = some ⟨g, off, none⟩ ∧ ∀ (j : Nat) (u : Value), xs[j]? = some u → w.cell? ⟨g, off + j, none⟩ = some u := by
  obtain ⟨a', c', hv, _, _, hx⟩ := h
  cases hv
  obtain ⟨g, rfl, _, hc⟩ := hx hne
  exact ⟨g, rfl, hc⟩
theorem Sl.kept0 {w w' : World} {S : Nat → Prop} {off m : Nat} {v : Value} {xs : List Value} (h : Sl w S off v m xs) (hc : Chg [] w w') : Sl w' S off v m xs := Sl.kept h hc (by simp)

/-- a word's slice in its row. -/
theorem WordsAt.nth {w : World} {S : Nat → Prop} : ∀ {ps : List (List Lx.Part)} {xs : List Value}, WordsAt w S ps xs → ∀ (k : Nat) (p : List Lx.Part), ps[k]? = some p → ∃ a n c, xs[k]? = some (.slice a n c) ∧ WordIn w S 0 (.slice a n c) p
  | [], _, _, k, p, hk => by simp at hk
  | q :: ps, _, ⟨u, ys, h1, h2, h3⟩, k, p, hk => by
    subst h1
    cases k with
    | zero =>
      simp at hk
      subst hk
      obtain ⟨a, c, rfl, h4⟩ := h2
      exact ⟨a, _, c, rfl, a, c, rfl, h4⟩
    | succ k => simpa using WordsAt.nth h3 k p (by simpa using hk)
theorem SetsAt.nth {w : World} {S : Nat → Prop} : ∀ {ps : List Ps.SetP} {xs : List Value}, SetsAt w S ps xs → ∀ (k : Nat) (p : Ps.SetP), ps[k]? = some p → ∃ a n c off, xs[k * 2]? = some (.string (Lx.strB p.name)) ∧ xs[k * 2 + 1]? = some (.slice a n c) ∧ WordIn w S off (.slice a n c) p.word
  | [], _, _, k, p, hk => by simp at hk
  | q :: ps, _, ⟨u, ys, off, h1, h2, h3⟩, k, p, hk => by
    subst h1
    cases k with
    | zero =>
      simp at hk
      subst hk
      obtain ⟨a, c, rfl, h4⟩ := h2
      exact ⟨a, _, c, off, rfl, rfl, a, c, rfl, h4⟩
    | succ k =>
      obtain ⟨a, n, c, off2, e1, e2, e3⟩ := SetsAt.nth h3 k p (by simpa using hk)
      exact ⟨a, n, c, off2, by rw [show (k + 1) * 2 = k * 2 + 1 + 1 by omega]; simpa using e1, by rw [show (k + 1) * 2 + 1 = k * 2 + 1 + 1 + 1 by omega]; simpa using e2, e3⟩
theorem RedsAt.nth {w : World} {S : Nat → Prop} : ∀ {ps : List Ps.RedP} {xs : List Value}, RedsAt w S ps xs → ∀ (k : Nat) (p : Ps.RedP), ps[k]? = some p → ∃ a n c, xs[k * 2]? = some (.int .i64 p.kind) ∧ xs[k * 2 + 1]? = some (.slice a n c) ∧ WordIn w S 0 (.slice a n c) p.word
  | [], _, _, k, p, hk => by simp at hk
  | q :: ps, _, ⟨u, ys, h1, h2, h3⟩, k, p, hk => by
    subst h1
    cases k with
    | zero =>
      simp at hk
      subst hk
      obtain ⟨a, c, rfl, h4⟩ := h2
      exact ⟨a, _, c, rfl, rfl, a, c, rfl, h4⟩
    | succ k =>
      obtain ⟨a, n, c, e1, e2, e3⟩ := RedsAt.nth h3 k p (by simpa using hk)
      exact ⟨a, n, c, by rw [show (k + 1) * 2 = k * 2 + 1 + 1 by omega]; simpa using e1, by rw [show (k + 1) * 2 + 1 = k * 2 + 1 + 1 + 1 by omega]; simpa using e2, e3⟩
theorem NodesAt.nth {w : World} {S : Nat → Prop} : ∀ {ns : List Ps.Node} {xs : List Value}, NodesAt w S ns xs → ∀ (k : Nat) (n : Ps.Node), ns[k]? = some n → ∃ cs, NodeAt w S n cs ∧ ∀ j, j < 6 → xs[k * 6 + j]? = cs[j]?
  | [], _, _, k, n, hk => by simp at hk
  | m :: ns, xs, h, k, n, hk => by
    unfold NodesAt at h
    obtain ⟨ds, ys, rfl, h3, h4⟩ := h
    have hl := h3.one.1
    cases k with
    | zero =>
      simp at hk
      subst hk
      exact ⟨ds, h3, fun j hj => by rw [Nat.zero_mul, Nat.zero_add, List.getElem?_append_left (by omega)]⟩
    | succ k =>
      obtain ⟨cs, h5, h6⟩ := NodesAt.nth h4 k n (by simpa using hk)
      exact ⟨cs, h5, fun j hj => by rw [List.getElem?_append_right (by omega), ← h6 j hj]; congr 1; omega⟩
theorem Ps.Node.induct {P : Ps.Node → Prop} (h : ∀ k kids name words sets reds, (∀ m ∈ kids, P m) → P (.mk k kids name words sets reds)) : ∀ n, P n
  | .mk k kids name words sets reds => h k kids name words sets reds (fun m hm => Ps.Node.induct h m)
termination_by n => SizeOf.sizeOf n
decreasing_by
  have := List.sizeOf_lt_of_mem hm
  simp
  omega

set_option maxHeartbeats 4000000 in
set_option maxRecDepth 10000 in
theorem words_in (S T : Nat → Prop) (words : List (List Lx.Part)) (wa xa : Option Addr) (wn wc xn xc : Nat) (wx xx : List Value) (k : Int) (s : List UInt8) (ka sa ra : Option Addr) (kn kc sn sc rn rc : Nat) (w : World) (hw : Sl w S 0 (.slice wa wn wc) words.length wx) (hw2 : WordsAt w S words wx) (hx : Sl w T 0 (.slice xa xn xc) words.length xx) (hx2 : WordsAt w T words xx) (hs : ∀ p ∈ words, p.length ≤ 4096) :
    Calls Tryd.prog 18 #[.slice wa wn wc, .agg #[.int .i64 k, .slice ka kn kc, .string (Lx.strB s), .slice xa xn xc, .slice sa sn sc, .slice ra rn rc]] w fun e w' => e = .returned (.bool true) ∧ Chg [] w w' := by
  have e1 := hw.len
  have e2 := hx.len
  subst e1
  subst e2
  have hmx : words.length ≤ maxLen := by obtain ⟨_, _, _, h1, h2, _⟩ := hw; omega
  have hm9 : (words.length : Int) ≤ 9223372036854775807 := by unfold maxLen at hmx; omega
  have HW := Lib.hid hw
  have HW2 := Lib.hid hw2
  have HX := Lib.hid hx
  have HX2 := Lib.hid hx2
  have HS := Lib.hid hs
  clear hw hw2 hx hx2 hs hmx
  go_enter Tryd.func18, Tryd.ntmps18
  go_upto_region 1 with (fail)
  have hB := obj_alloc_new w (.cells #[.int .i64 k, .slice ka kn kc, .string (Lx.strB s), .slice xa words.length xc, .slice sa sn sc, .slice ra rn rc] 42)
  have hal : Chg [] w (w.alloc (.cells #[.int .i64 k, .slice ka kn kc, .string (Lx.strB s), .slice xa words.length xc, .slice sa sn sc, .slice ra rn rc] 42)) := (Chg.refl [] w).alloc _
  have HAL := Lib.hid hal
  have HB := Lib.hid hB
  clear hal hB
  generalize w.alloc (.cells #[.int .i64 k, .slice ka kn kc, .string (Lx.strB s), .slice xa words.length xc, .slice sa sn sc, .slice ra rn rc] 42) = w2 at *
  generalize hnb : w.heap.size = nb at *
  have b3 := (six_cells HB.out).2.2.2.1
  go_wp2_with fail
  go_loopg [5] (words.length + 1) (fun g c5 wr => ∃ j : Nat, words.length < j + g ∧ j ≤ words.length ∧ c5 = .int .i64 j ∧ Hid (Chg [] w2 wr))
  case atStart => exact ⟨0, by omega, by omega, rfl, Lib.hid (Chg.refl _ _)⟩
  case round =>
    obtain ⟨j, hg, hj, rfl, HC⟩ := hrel
    have j0 : (0 : Int) ≤ (j : Int) := by omega
    by_cases hlt : j < words.length
    · cases gk with
      | zero => omega
      | succ g =>
      have hd : decide (j < words.length) = true := decide_eq_true hlt
      have j1 : (j : Int) < (words.length : Int) := by omega
      have j2 : 0 < words.length := by omega
      obtain ⟨p, hp⟩ : ∃ p, words[j]? = some p := ⟨_, List.getElem?_eq_getElem hlt⟩
      have hps : p.length ≤ 1000000 := by have := HS.out p (List.mem_of_getElem? hp); omega
      obtain ⟨a1, n1, c1, f1, i1⟩ := HW2.out.nth j p hp
      obtain ⟨a2, n2, c2, f2, i2⟩ := HX2.out.nth j p hp
      obtain ⟨g1, rfl, x1⟩ := HW.out.cells (by intro e; rw [e] at f1; simp at f1)
      obtain ⟨g2, rfl, x2⟩ := HX.out.cells (by intro e; rw [e] at f2; simp at f2)
      have hc2 := HAL.out.then0 HC.out
      have y1 := hc2.cell (x1 j _ f1) (by simp)
      have y2 := hc2.cell (x2 j _ f2) (by simp)
      rw [Nat.zero_add] at y1 y2
      have b3w := HC.out.cell b3 (by simp)
      have PI := Lib.hid (fun W (h : Chg [] wr W) => parts_in S 0 a1 n1 c1 p W ((i1.kept0 hc2).kept0 h) hps)
      have SI := Lib.hid (fun W a3 n3 c3 (h : Chg [] wr W) (h3 : WordIn W (fun _ => True) 0 (.slice a3 n3 c3) p) => same_in (fun _ => True) T 0 0 a3 a2 n3 c3 n2 c2 p W h3 ((i2.kept0 hc2).kept0 h) hps)
      have HG := Lib.hid hg
      clear hg hp f1 f2 x1 x2 i1 i2 hc2 hps
      go_upto_region 6 with (fail)
      go_region_law ((first | (go_simp; refine (SI.out _ _ _ _ HC5.out HW5.out).mono ?_; rintro e w6 ⟨rfl, hC6⟩; have HC6 := Lib.hid (HC5.out.then0 hC6); clear hC6) | (go_simp; refine (PI.out _ (Chg.refl [] wr).drew).mono ?_; rintro e w5 ⟨a5, n5, c5, rfl, hW5, hC5⟩; have HC5 := Lib.hid ((Chg.refl [] wr).drew.then0 hC5); have HW5 := Lib.hid hW5; have b5 := HC5.out.cell b3w (by simp); have z2 := HC5.out.cell y2 (by simp); clear hW5 hC5)))
      all_goals
        go_wp2
        go_roundg g
        case measure => omega
        case rel => exact ⟨j + 1, by have := HG.out; omega, by omega, by go_num, Lib.hid (HC.out.then0 HC6.out)⟩
    · obtain rfl : j = words.length := by omega
      have hd : decide (words.length < words.length) = false := decide_eq_false (by omega)
      clear hg
      go_wp2
      go_ret
      exact ⟨rfl, HAL.out.then0 HC.out⟩

end Go.Proofs.YtfgbbmnmblchiaaDoor
