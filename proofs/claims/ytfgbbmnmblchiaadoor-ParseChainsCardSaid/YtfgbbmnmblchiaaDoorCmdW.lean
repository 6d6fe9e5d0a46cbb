/-
  A command: the walk, by the depth that is left.
-/
import Derived.Test.YtfgbbmnmblchiaaDoorCmd
namespace Go.Proofs.YtfgbbmnmblchiaaDoor
open Go.RowKit
set_option linter.unusedVariables false

section
variable {w wr w' : World} {pb : Nat} {a : Option Addr} {c : Nat} {ts : List Lx.Tok} {vs : List Value} {q deep : Nat}
theorem Base.callD (h : Base w pb a c ts vs q deep wr) (hc : Chg [pb] wr w') {q' deep' : Nat} (hp : PS w' pb a c ts vs q' deep' 0) : Base w pb a c ts vs q' deep' w' :=
  { h with ps := hp, rs := hc.obj h.rs (by have := h.old.1; simp; omega), chg := h.chg.trans hc (fun x hx => .inl hx) }
theorem Base.badD (h : Base w pb a c ts vs q deep wr) (hc : Chg [pb] wr w') {q' deep' : Nat} {er : Int} (hp : PS w' pb a c ts vs q' deep' er) : BadB w pb a c ts vs w.heap.size q' deep' er w' :=
  { ps := hp, rs := hc.obj h.rs (by have := h.old.1; simp; omega), chg := h.chg.trans hc (fun x hx => .inl hx), rb0 := Nat.le_refl _, old := h.old }
theorem Got.ps {r : Ps.Res Ps.Node} {cs : List Value} {b : Bool} (h : Got w pb a c ts vs deep r cs b w') : ∃ q er, PS w' pb a c ts vs q deep er := by
  cases r with
  | bad er q => exact ⟨q, er, h.2⟩
  | ok n q => exact ⟨q, 0, h.2.2⟩
end

theorem eqIn_nil (d : Nat) (w : World) : (Op.equalIn (d + 1) 131 .nilFunc .nilFunc).run Tryd.prog w = .ok true w := by
  simp [Op.equalIn, run_underlying Tryd.underlying131]
theorem eqIn_func (d : Nat) (f : FuncId) (w : World) : (Op.equalIn (d + 1) 131 (.func (.func f) #[] #[]) .nilFunc).run Tryd.prog w = .ok false w := by
  simp [Op.equalIn, run_underlying Tryd.underlying131]
theorem neq_nil (w : World) : (binOp .neq 131 .nilFunc .nilFunc).run Tryd.prog w = .ok (.bool false) w := by
  simp only [binOp]
  simp [Op.equal, Op.maxDepth, eqIn_nil 9999]
theorem neq_func (f : FuncId) (w : World) : (binOp .neq 131 (.func (.func f) #[] #[]) .nilFunc).run Tryd.prog w = .ok (.bool true) w := by
  simp only [binOp]
  simp [Op.equal, Op.maxDepth, eqIn_func 9999]

set_option maxHeartbeats 8000000 in
set_option maxRecDepth 10000 in
theorem command_step (pb : Nat) (a : Option Addr) (c : Nat) (ts : List Lx.Tok) (vs : List Value) (deep d : Nat) (hd : deep + d = 16) (ih : ∀ d', d = d' + 1 → CmdOk pb a c ts vs (deep + 1) (Ps.cmdP ts d')) : CmdOk pb a c ts vs deep (Ps.cmdP ts d) := by
  intro p w h
  have HB0 := Lib.hid (Base.start h)
  have hfew := h.few
  have hle := h.le
  have IH := Lib.hid ih
  have HD := Lib.hid hd
  clear h ih hd
  obtain ⟨b, hb⟩ : ∃ b, Ps.closing ts p = b := ⟨_, rfl⟩
  have HC := Lib.hid (closing_any pb a c ts vs p deep 0 _ HB0.out.ps)
  rw [hb] at HC
  go_enter Tryd.func60, Tryd.ntmps60
  go_wp2_with fail
  refine HC.out.mono ?_
  rintro e w1 ⟨rfl, hC1⟩
  have HB1 := Lib.hid (HB0.out.kept0 hC1)
  clear hC1 HC
  cases b with
  | true =>
    have HR := Lib.hid (cmdP_closing (d := d) hb)
    clear hb
    have hF := Lib.hid (fail_any pb a c ts vs p deep 10 w1 HB1.out.ps)
    go_wp2_with fail
    refine hF.out.mono ?_
    rintro e w5 ⟨rfl, hP4, hC4⟩
    have HBD := Lib.hid (HB1.out.bad hC4 hP4)
    obtain ⟨r0, r1, r2, r3, r4, r5, rf⟩ := node_cells HBD.out.rs
    clear hP4 hC4
    go_wp2_with fail
    refine bodyPost_ret (v := .tuple #[.agg (nodeC 0 (.slice none 0 0)), .bool false]) (by simp [results, Tryd.results60, go_sem, nodeC, r0, r1, r2, r3, r4, r5]) rfl ?_
    rw [HR.out]
    refine HBD.out.fin ?_
    exact (Chg.refl _ _).six _ _ _ _ _ _ _ (.inl (by simp))
  | false =>
    have hlt := closing_lt hb
    obtain ⟨t, ht⟩ : ∃ t, ts[p]? = some t := ⟨_, List.getElem?_eq_getElem hlt⟩
    have HT := Lib.hid ht
    have HCL := Lib.hid hb
    have p0 : (0 : Int) ≤ (p : Int) := by omega
    have p2 : (p : Int) < (ts.length : Int) := by omega
    have p3 : 0 < ts.length := by omega
    clear ht hb
    go_upto_region 3 with (fail)
    obtain ⟨g1, a3, n3, rfl, y0, y1, y2, y3, hW⟩ := HB1.out.ps.toks.cell4 p t HT.out
    have k0 := HB1.out.ps.c0
    have k1 := HB1.out.ps.c1
    have RD := Lib.hid (fun (W : World) => readings_any t.text W)
    clear y0 y2 y3 hW
    go_quiet ((go_at_call 66; exact Calls.quiet_of_same (RD.out _)))
    all_goals
      go_upto_region 4 with (fail)
      have HB2 := Lib.hid (HB1.out.kept0 ((Chg.refl [] w1).drewN nq))
      generalize w1.drewN nq = w2 at *
      clear HB1 k0 k1 y1 RD
      by_cases hk : Ps.readK t.text = 0
      · have HR := Lib.hid (cmdP_simple (d := d) HCL.out HT.out hk)
        have hv : readV (Ps.readK t.text) = .nilFunc := by rw [hk]; rfl
        rw [hv]
        clear hk hv
        have hnq := neq_nil w2
        go_wp2_with fail
        refine Calls.mono (simple_any pb _ c ts vs p deep w2 HB2.out.ps) ?_
        intro e w3 hRD
        obtain ⟨C, hC⟩ : ∃ C, Ps.simpleP ts p = C := ⟨_, rfl⟩
        rw [hC] at hRD
        rw [hC] at HR
        obtain ⟨cs, b, ⟨kk, s1, ka, wa, sa, ra, kn, kc, wn, wc, sn, sc, rn, rc, rfl⟩, rfl, hC6, hGot⟩ := hRD.got
        have HGot := Lib.hid hGot
        have HC6 := Lib.hid hC6
        have hrs := hC6.obj HB2.out.rs (by have := HB2.out.old.1; simp; omega)
        obtain ⟨r0, r1, r2, r3, r4, r5, rf⟩ := node_cells hrs
        clear hRD hC6 hGot hrs
        go_wp2_with fail
        refine bodyPost_ret (v := .tuple #[.agg #[.int .i64 kk, .slice ka kn kc, .string (Lx.strB s1), .slice wa wn wc, .slice sa sn sc, .slice ra rn rc], .bool b]) (by simp [results, Tryd.results60, go_sem, r0, r1, r2, r3, r4, r5]) rfl ?_
        rw [HR.out]
        cases C with
        | bad er q3 =>
          obtain ⟨hb, hP6⟩ := HGot.out
          subst hb
          refine (HB2.out.bad HC6.out hP6).fin6 ⟨_, _, _, _, _, _, _, _, _, _, _, _, _, _, rfl⟩ ?_
          exact (Chg.refl _ _).six _ _ _ _ _ _ _ (.inl (by simp))
        | ok x q3 =>
          obtain ⟨hb, hN, hP6⟩ := HGot.out
          subst hb
          have hsz : w.heap.size + 1 ≤ w2.heap.size := lt_of_obj HB2.out.rs
          refine (HB2.out.call HC6.out hP6).finT (Sn.up (lo' := w.heap.size + 1) hN hsz (Nat.le_refl _)) ?_
          exact (Chg.refl _ _).six _ _ _ _ _ _ _ (.inl (by simp))
      · have h4 := readK_le t.text
        have k2 := HB2.out.ps.c2
        rw [readV_some hk h4]
        have hnq := fun f => neq_func f w2
        cases d with
        | zero =>
          have HR := Lib.hid (cmdP_deep HCL.out HT.out hk)
          have hdp : deep = 16 := by have := HD.out; omega
          subst hdp
          clear hk h4
          have hF := Lib.hid (fail_any pb _ c ts vs p 16 12 w2 HB2.out.ps)
          go_wp2_with fail
          refine hF.out.mono ?_
          rintro e w5 ⟨rfl, hP4, hC4⟩
          have HBD := Lib.hid (HB2.out.bad hC4 hP4)
          obtain ⟨r0, r1, r2, r3, r4, r5, rf⟩ := node_cells HBD.out.rs
          clear hP4 hC4
          go_wp2_with fail
          refine bodyPost_ret (v := .tuple #[.agg (nodeC 0 (.slice none 0 0)), .bool false]) (by simp [results, Tryd.results60, go_sem, nodeC, r0, r1, r2, r3, r4, r5]) rfl ?_
          rw [HR.out]
          refine HBD.out.fin ?_
          exact (Chg.refl _ _).six _ _ _ _ _ _ _ (.inl (by simp))
        | succ d =>
          have HR := Lib.hid (cmdP_read (d := d) HCL.out HT.out hk)
          have hd2 : decide ((16 : Int) ≤ (deep : Int)) = false := decide_eq_false (by have := HD.out; omega)
          have hdl : (deep : Int) ≤ 15 := by have := HD.out; omega
          have hd0 : (0 : Int) ≤ (deep : Int) := by omega
          have hcall := call_fn hk h4
          have HRA := Lib.hid (fun (W : World) (h : PS W pb (some ⟨g1, 0, none⟩) c ts vs (p + 1) (deep + 1) 0) => read_any pb _ c ts vs (p + 1) (deep + 1) (Ps.cmdP ts d) (IH.out d rfl) (cmdP_moves d) hk h4 W h)
          obtain ⟨C, hC⟩ : ∃ C, Ps.readP ts (Ps.cmdP ts d) (Ps.readK t.text) (p + 1) = C := ⟨_, rfl⟩
          rw [hC] at HRA HR
          generalize readF (Ps.readK t.text) = fn at *
          clear hk h4
          have k1 := HB2.out.ps.c1
          have kf := HB2.out.ps.free
          go_upto_region 9 with (fail)
          have HP3 := Lib.hid ((HB2.out.ps.setAt (p + 1) ((p : Int) + 1) (by omega) (by omega)).setDeep (deep + 1) ((deep : Int) + 1) (by omega) (by have := HD.out; omega))
          have HC3 := Lib.hid (show Chg [pb] w2 ((w2.setCell ⟨pb, 1, none⟩ (.int .i64 ((p : Int) + 1))).setCell ⟨pb, 2, none⟩ (.int .i64 ((deep : Int) + 1))) from ((Chg.refl [pb] w2).setCell _ _ (.inl (by simp))).setCell _ _ (.inl (by simp)))
          generalize (w2.setCell ⟨pb, 1, none⟩ (.int .i64 ((p : Int) + 1))).setCell ⟨pb, 2, none⟩ (.int .i64 ((deep : Int) + 1)) = w3 at *
          have HB3 := Lib.hid (HB2.out.callD HC3.out HP3.out)
          clear k1 k2 kf HP3 HC3 HB2 hd2
          go_wp2_with fail
          refine Calls.mono (HRA.out w3 HB3.out.ps) ?_
          intro e w4 hRD
          obtain ⟨cs, b, ⟨kk, s1, ka, wa, sa, ra, kn, kc, wn, wc, sn, sc, rn, rc, rfl⟩, rfl, hC6, hGot⟩ := hRD.got
          have hal : Chg [] w4 (w4.alloc (.cells #[.int .i64 kk, .slice ka kn kc, .string (Lx.strB s1), .slice wa wn wc, .slice sa sn sc, .slice ra rn rc] 30)) := (Chg.refl [] w4).alloc _
          have HAL := Lib.hid hal
          have HC6 := Lib.hid hC6
          have HGot := Lib.hid hGot
          have hot := obj_alloc_new w4 (.cells #[.int .i64 kk, .slice ka kn kc, .string (Lx.strB s1), .slice wa wn wc, .slice sa sn sc, .slice ra rn rc] 30)
          obtain ⟨q4, er4, hP4⟩ := hGot.ps
          have HP4 := Lib.hid (hP4.chg0 hal)
          clear hRD hC6 hGot hal hP4 hcall HRA
          go_upto_region 10 with (fail)
          generalize w4.alloc (.cells #[.int .i64 kk, .slice ka kn kc, .string (Lx.strB s1), .slice wa wn wc, .slice sa sn sc, .slice ra rn rc] 30) = w5 at *
          have k2 := HP4.out.c2
          have kf := HP4.out.free 2
          have HTB := Lib.hid (show w4.heap.size ≠ pb from by have := lt_of_obj HB3.out.rs; have := HB3.out.old.1; have := HC6.out.size; omega)
          go_upto_region 11 with (fail)
          have HC7 := Lib.hid (show Chg [pb] w5 (w5.setCell ⟨pb, 2, none⟩ (.int .i64 (deep : Int))) from (Chg.refl [pb] w5).setCell _ _ (.inl (by simp)))
          have HPD := Lib.hid (fun (q : Nat) (er : Int) (h : PS w5 pb (some ⟨g1, 0, none⟩) c ts vs q (deep + 1) er) => h.setDeep deep (deep : Int) rfl (by have := HD.out; omega))
          have hot7 := HC7.out.obj hot (by simp; exact HTB.out)
          clear kf k2
          obtain ⟨t0, t1, t2, t3, t4, t5, tf⟩ := six_cells hot7
          clear hot hot7
          generalize w5.setCell ⟨pb, 2, none⟩ (.int .i64 (deep : Int)) = w6 at *
          have HRS := Lib.hid (HC7.out.obj (HAL.out.obj (HC6.out.obj HB3.out.rs (by have := HB3.out.old.1; simp; omega)) (by simp)) (by have := HB3.out.old.1; simp; omega))
          obtain ⟨r0, r1, r2, r3, r4, r5, rf⟩ := node_cells HRS.out
          go_wp2_with fail
          refine bodyPost_ret (v := .tuple #[.agg #[.int .i64 kk, .slice ka kn kc, .string (Lx.strB s1), .slice wa wn wc, .slice sa sn sc, .slice ra rn rc], .bool b]) (by simp [results, Tryd.results60, go_sem, r0, r1, r2, r3, r4, r5]) rfl ?_
          rw [HR.out]
          have HC46 : Chg [pb] w4 w6 := (HAL.out.mono (by simp)).trans HC7.out (fun x hx => .inl hx)
          have HC36 : Chg [pb] w3 w6 := HC6.out.trans HC46 (fun x hx => .inl hx)
          cases C with
          | bad er q3 =>
            obtain ⟨hb, hP6⟩ := HGot.out
            subst hb
            refine (HB3.out.badD HC36 (HPD.out q3 er (hP6.chg0 HAL.out))).fin6 ⟨_, _, _, _, _, _, _, _, _, _, _, _, _, _, rfl⟩ ?_
            exact (Chg.refl _ _).six _ _ _ _ _ _ _ (.inl (by simp))
          | ok x q3 =>
            obtain ⟨hb, hN, hP6⟩ := HGot.out
            subst hb
            have hsz : w.heap.size + 1 ≤ w3.heap.size := lt_of_obj HB3.out.rs
            have hN6 : NodeAt w6 (Sn (.slice (some ⟨g1, 0, none⟩) ts.length c) vs w3.heap.size w4.heap.size) x _ := NodeAt.kept HC46 (fun j hj hS => by
              simp at hj; subst hj
              rcases hS with h1 | h1
              · exact HB3.out.ps.out h1
              · have := HB3.out.old.1; omega) _ _ hN
            refine (HB3.out.callD HC36 (HPD.out q3 0 (hP6.chg0 HAL.out))).finT (Sn.up (lo' := w.heap.size + 1) (hi' := w6.heap.size) hN6 hsz HC46.size) ?_
            exact (Chg.refl _ _).six _ _ _ _ _ _ _ (.inl (by simp))

/-- a command, from any depth on. -/
theorem command_any (pb : Nat) (a : Option Addr) (c : Nat) (ts : List Lx.Tok) (vs : List Value) : ∀ (d deep : Nat), deep + d = 16 → CmdOk pb a c ts vs deep (Ps.cmdP ts d)
  | 0, deep, h => command_step pb a c ts vs deep 0 h (fun d' hd => by cases hd)
  | d + 1, deep, h => command_step pb a c ts vs deep (d + 1) h (fun d' hd => by cases hd; exact command_any pb a c ts vs d (deep + 1) (by omega))

end Go.Proofs.YtfgbbmnmblchiaaDoor
