/-
  A command: plain steps; what is read moves on; the function values.
  A command: the walk, by the depth that is left.
  Tokens are such as the reader of commands wants them: short, a word that begins with 'name=' begins with a piece that holds it.
  A text is read: walked.
  awake of the commands' layer: true.
  The document's reader of commands: its block; what stands there, errors: walked.
  The document's reader: errors, ends, where a list ends, what must be, one deeper: walked.
  The document's reader: ends behind an error; one deeper; where a list stops: walked.
  The document's reader: a redirection's sign: walked.
  Tokens are such as the document's reader of commands wants them, plain.
  A list that ends before a token that is no closer, as the document has it: an error there; its callers answer the same. Plain.
-/
import Derived.Test.YtfgbbmnmblchiaaDoorSimpW
import Derived.Test.YtfgbbmnmblchiaaDoorEachW
import Derived.Test.YtfgbbmnmblchiaaDoorPm04
import Derived.Test.YtfgbbmnmblchiaaDoorRTok
import Derived.KernelRfl
namespace Go.Proofs.YtfgbbmnmblchiaaDoor
open Go.RowKit
set_option linter.unusedVariables false

section
variable {ts : List Lx.Tok} {cmd : Nat → Ps.Res Ps.Node} {p q d : Nat} {t : Lx.Tok} {n : Ps.Node}
theorem cmdP_closing (h : Ps.closing ts p = true) : Ps.cmdP ts d p = .bad 10 p := by
  unfold Ps.cmdP
  rw [if_pos h]
theorem cmdP_simple (h : Ps.closing ts p = false) (ht : ts[p]? = some t) (hk : Ps.readK t.text = 0) : Ps.cmdP ts d p = Ps.simpleP ts p := by
  unfold Ps.cmdP
  rw [if_neg (by rw [h]; decide), ht]
  show (if _ then _ else _) = _
  rw [if_pos hk]
theorem cmdP_deep (h : Ps.closing ts p = false) (ht : ts[p]? = some t) (hk : ¬ Ps.readK t.text = 0) : Ps.cmdP ts 0 p = .bad 12 p := by
  unfold Ps.cmdP
  rw [if_neg (by rw [h]; decide), ht]
  show (if _ then _ else _) = _
  rw [if_neg hk]
theorem cmdP_read (h : Ps.closing ts p = false) (ht : ts[p]? = some t) (hk : ¬ Ps.readK t.text = 0) : Ps.cmdP ts (d + 1) p = Ps.readP ts (Ps.cmdP ts d) (Ps.readK t.text) (p + 1) := by
  conv => lhs; unfold Ps.cmdP
  rw [if_neg (by rw [h]; decide), ht]
  show (if _ then _ else _) = _
  rw [if_neg hk]

theorem closing_lt (h : Ps.closing ts p = false) : p < ts.length := by
  apply Decidable.byContradiction
  intro hn
  rw [closing_none hn] at h
  cases h

theorem simpleL_mono : ∀ (f p : Nat) (cm cm' : Ps.Cmd) (b : Nat), Ps.simpleL ts f p cm = .ok cm' b → p ≤ b
  | 0, p, cm, cm', b, h => by
    unfold Ps.simpleL at h
    cases h
    exact Nat.le_refl _
  | f + 1, p, cm, cm', b, h => by
    cases ht : ts[p]? with
    | none => rw [simpleL_none ht] at h; cases h; exact Nat.le_refl _
    | some t =>
      by_cases hA : t.kind = 2 ∧ 0 < Ps.redK t.text
      · cases hb : Ps.isT ts (p + 1) 1 [] with
        | false => rw [simpleL_red0 ht hA hb] at h; cases h
        | true =>
          have hlt := isT_lt hb
          have hu : ts[p + 1]? = some ts[p + 1] := List.getElem?_eq_getElem hlt
          rw [isT_some hu] at hb
          rw [simpleL_red ht hA hu (by simpa using hb)] at h
          have := simpleL_mono f _ _ _ _ h
          omega
      · by_cases hK : t.kind = 1
        · rw [simpleL_word ht hK] at h
          have := simpleL_mono f _ _ _ _ h
          omega
        · rw [simpleL_stop ht hA hK] at h; cases h; exact Nat.le_refl _

theorem simpleP_moves (h : Ps.simpleP ts p = .ok n q) : p < q := by
  unfold Ps.simpleP at h
  cases hl : Ps.simpleL ts (ts.length + 1) p ⟨[], [], []⟩ with
  | bad e b => rw [hl] at h; cases h
  | ok cm b =>
    rw [hl] at h
    have h2 : (if b = p then Ps.Res.bad 10 b else Ps.Res.ok (.mk 5 [] [] cm.words cm.sets cm.reds) b) = Ps.Res.ok n q := h
    have hm := simpleL_mono _ _ _ _ _ hl
    split at h2
    · cases h2
    · cases h2; omega

theorem eachP_mono (hmv : Moves cmd) (h : Ps.eachP ts cmd p = .ok n q) : p ≤ q := by
  cases hb : Ps.isT ts p 1 [] with
  | false => rw [eachP_1 hb] at h; cases h
  | true =>
    have hlt := isT_lt hb
    have ht : ts[p]? = some ts[p] := List.getElem?_eq_getElem hlt
    have hk : ts[p].kind = 1 := by rw [isT_some ht] at hb; simpa using hb
    cases hn : Lx.isName ts[p].text with
    | false => rw [eachP_2 ht hn] at h; cases h
    | true =>
      cases h1 : Ps.wantP ts (p + 1) 1 Ps.kwIn with
      | bad e b => rw [eachP_3 ht hk hn h1] at h; cases h
      | ok u b =>
        have m1 := wantP_ok h1
        cases h2 : Ps.wantP ts (b + (Ps.wordsAt ts b).length) 3 [] with
        | bad e c => rw [eachP_4 ht hk hn h1 h2] at h; cases h
        | ok v c =>
          have m2 := wantP_ok h2
          have hc : c ≤ ts.length := by
            unfold Ps.wantP at h2
            split at h2
            · rename_i h3
              have := isT_lt h3
              cases h2
              omega
            · cases h2
          have m3 := (endsP_le hc).1
          cases h3 : Ps.bodyP ts cmd (Ps.endsP ts c) with
          | bad e s => rw [eachP_5 ht hk hn h1 h2 h3] at h; cases h
          | ok x s =>
            have m4 := bodyP_mono hmv h3
            rw [eachP_6 ht hk hn h1 h2 h3] at h
            cases h
            omega

theorem readP_mono (hmv : Moves cmd) {k : Nat} (h : Ps.readP ts cmd k p = .ok n q) : p ≤ q := by
  unfold Ps.readP at h
  split at h
  · exact groupP_mono hmv h
  · split at h
    · exact branchP_mono hmv h
    · split at h
      · exact loopP_mono hmv h
      · exact eachP_mono hmv h

theorem cmdP_moves : ∀ d, Moves (Ps.cmdP ts d)
  | d, p, n, q, h => by
    cases hc : Ps.closing ts p with
    | true => rw [cmdP_closing hc] at h; cases h
    | false =>
      have hlt := closing_lt hc
      have ht : ts[p]? = some ts[p] := List.getElem?_eq_getElem hlt
      by_cases hk : Ps.readK ts[p].text = 0
      · rw [cmdP_simple hc ht hk] at h
        exact simpleP_moves h
      · cases d with
        | zero => rw [cmdP_deep hc ht hk] at h; cases h
        | succ d =>
          rw [cmdP_read hc ht hk] at h
          have := readP_mono (cmdP_moves d) h
          omega
end

theorem call_one {P : Program} {f : FuncId} {fn : Func} (hf : P.funcs[f]? = some fn) (hn : (fn.name == "runtime.NumGoroutine") = false) (hb : fn.body.isNone = false) (args : Array Value) (w : World) :
    Sem.run P (callFunc f args) w = .ok (.enter f args) w := by
  obtain ⟨b, hb'⟩ : ∃ b, fn.body = some b := by
    cases h : fn.body with
    | none => rw [h] at hb; cases hb
    | some b => exact ⟨b, rfl⟩
  simp at hn
  simp [callFunc, go_sem, hf, hb', hn]

def readF (k : Nat) : FuncId := if k = 1 then 78 else if k = 2 then 79 else if k = 3 then 80 else 81

theorem readK_le (x : List UInt8) : Ps.readK x ≤ 4 := by
  unfold Ps.readK
  repeat' split
  all_goals omega
theorem readV_some {k : Nat} (h : ¬ k = 0) (h4 : k ≤ 4) : readV k = .func (.func (readF k)) #[] #[] := by
  rcases (show k = 1 ∨ k = 2 ∨ k = 3 ∨ k = 4 from by omega) with rfl | rfl | rfl | rfl <;> rfl
theorem call_fn {k : Nat} (h : ¬ k = 0) (h4 : k ≤ 4) (args : Array Value) (w : World) : Sem.run Tryd.prog (callFunc (readF k) args) w = .ok (.enter (readF k) args) w := by
  rcases (show k = 1 ∨ k = 2 ∨ k = 3 ∨ k = 4 from by omega) with rfl | rfl | rfl | rfl
  · exact call_one Tryd.func78 (by decide +kernel) (by kernel_rfl) args w
  · exact call_one Tryd.func79 (by decide +kernel) (by kernel_rfl) args w
  · exact call_one Tryd.func80 (by decide +kernel) (by kernel_rfl) args w
  · exact call_one Tryd.func81 (by decide +kernel) (by kernel_rfl) args w

/-- a reading by its number. -/
theorem read_any (pb : Nat) (a : Option Addr) (c : Nat) (ts : List Lx.Tok) (vs : List Value) (p deep : Nat) (cmd : Nat → Ps.Res Ps.Node) (hcmd : CmdOk pb a c ts vs deep cmd) (hmv : Moves cmd) {k : Nat} (hk : ¬ k = 0) (h4 : k ≤ 4) (w : World) (h : PS w pb a c ts vs p deep 0) :
    Calls Tryd.prog (readF k) #[.pointer (some ⟨pb, 0, none⟩)] w fun e w' => RdPost w pb a c ts vs deep (Ps.readP ts cmd k p) e w' := by
  have hli : ListOk pb a c ts vs deep cmd := fun sm p W h => list_any pb a c ts vs p deep cmd hcmd hmv sm W h
  rcases (show k = 1 ∨ k = 2 ∨ k = 3 ∨ k = 4 from by omega) with rfl | rfl | rfl | rfl
  · exact group_any pb a c ts vs p deep cmd hli w h
  · exact branch_any pb a c ts vs p deep cmd hli w h
  · exact loop_any pb a c ts vs p deep cmd hli w h
  · exact each_any pb a c ts vs p deep cmd hli hmv w h

end Go.Proofs.YtfgbbmnmblchiaaDoor

namespace Go.Proofs.YtfgbbmnmblchiaaDoor
open Go.RowKit
set_option linter.unusedVariables false

section
variable {w wr w' : World} {pb : Nat} {a : Option Addr} {c : Nat} {ts : List Lx.Tok} {vs : List Value} {q deep : Nat}
theorem Base.callD (h : Base w pb a c ts vs q deep wr) (hc : Chg [pb] wr w') {q' deep' : Nat} (hp : PS w' pb a c ts vs q' deep' 0) : Base w pb a c ts vs q' deep' w' :=
  { h with ps := hp, rs := hc.obj h.rs (by have := h.old.1; simp; omega), chg := h.chg.trans hc (fun x hx => .inl hx) }
theorem Base.badD (h : Base w pb a c ts vs q deep wr) (hc : Chg [pb] wr w') {q' deep' : Nat} {er : Int} (hp : PS w' pb a c ts vs q' deep' er) : BadB w pb a c ts vs w.heap.size q' deep' er w' :=
  { ps := hp, rs := hc.obj h.rs (by have := h.old.1; simp; omega), chg := h.chg.trans hc (fun x hx => .inl hx), rb0 := Nat.le_refl _, old := h.old }
theorem Got.ps {r : Ps.Res Ps.Node} {cs : List Value} {b : Bool} (h : Got w pb a c ts vs deep r cs b w') : ∃ q er, PS w' pb a c ts vs q deep er := by
  cases r with
  | bad er q => exact ⟨q, er, h.2⟩
  | ok n q => exact ⟨q, 0, h.2.2⟩
end

theorem eqIn_nil (d : Nat) (w : World) : (Op.equalIn (d + 1) 131 .nilFunc .nilFunc).run Tryd.prog w = .ok true w := by
  simp [Op.equalIn, run_underlying Tryd.underlying131]
theorem eqIn_func (d : Nat) (f : FuncId) (w : World) : (Op.equalIn (d + 1) 131 (.func (.func f) #[] #[]) .nilFunc).run Tryd.prog w = .ok false w := by
  simp [Op.equalIn, run_underlying Tryd.underlying131]
theorem neq_nil (w : World) : (binOp .neq 131 .nilFunc .nilFunc).run Tryd.prog w = .ok (.bool false) w := by
  simp only [binOp]
  simp [Op.equal, Op.maxDepth, eqIn_nil 9999]
theorem neq_func (f : FuncId) (w : World) : (binOp .neq 131 (.func (.func f) #[] #[]) .nilFunc).run Tryd.prog w = .ok (.bool true) w := by
  simp only [binOp]
  simp [Op.equal, Op.maxDepth, eqIn_func 9999]

set_option maxHeartbeats 8000000 in
set_option maxRecDepth 10000 in
theorem command_step (pb : Nat) (a : Option Addr) (c : Nat) (ts : List Lx.Tok) (vs : List Value) (deep d : Nat) (hd : deep + d = 16) (ih : ∀ d', d = d' + 1 → CmdOk pb a c ts vs (deep + 1) (Ps.cmdP ts d')) : CmdOk pb a c ts vs deep (Ps.cmdP ts d) := by
  intro p w h
  have HB0 := Lib.hid (Base.start h)
  have hfew := h.few
  have hle := h.le
  have IH := Lib.hid ih
  have HD := Lib.hid hd
  clear h ih hd
  obtain ⟨b, hb⟩ : ∃ b, Ps.closing ts p = b := ⟨_, rfl⟩
  have HC := Lib.hid (closing_any pb a c ts vs p deep 0 _ HB0.out.ps)
  rw [hb] at HC
  go_enter Tryd.func60, Tryd.ntmps60
  go_wp2_with fail
  refine HC.out.mono ?_
  rintro e w1 ⟨rfl, hC1⟩
  have HB1 := Lib.hid (HB0.out.kept0 hC1)
  clear hC1 HC
  cases b with
  | true =>
    have HR := Lib.hid (cmdP_closing (d := d) hb)
    clear hb
    have hF := Lib.hid (fail_any pb a c ts vs p deep 10 w1 HB1.out.ps)
    go_wp2_with fail
    refine hF.out.mono ?_
    rintro e w5 ⟨rfl, hP4, hC4⟩
    have HBD := Lib.hid (HB1.out.bad hC4 hP4)
    obtain ⟨r0, r1, r2, r3, r4, r5, rf⟩ := node_cells HBD.out.rs
    clear hP4 hC4
    go_wp2_with fail
    refine bodyPost_ret (v := .tuple #[.agg (nodeC 0 (.slice none 0 0)), .bool false]) (by simp [results, Tryd.results60, go_sem, nodeC, r0, r1, r2, r3, r4, r5]) rfl ?_
    rw [HR.out]
    refine HBD.out.fin ?_
    exact (Chg.refl _ _).six _ _ _ _ _ _ _ (.inl (by simp))
  | false =>
    have hlt := closing_lt hb
    obtain ⟨t, ht⟩ : ∃ t, ts[p]? = some t := ⟨_, List.getElem?_eq_getElem hlt⟩
    have HT := Lib.hid ht
    have HCL := Lib.hid hb
    have p0 : (0 : Int) ≤ (p : Int) := by omega
    have p2 : (p : Int) < (ts.length : Int) := by omega
    have p3 : 0 < ts.length := by omega
    clear ht hb
    go_upto_region 3 with (fail)
    obtain ⟨g1, a3, n3, rfl, y0, y1, y2, y3, hW⟩ := HB1.out.ps.toks.cell4 p t HT.out
    have k0 := HB1.out.ps.c0
    have k1 := HB1.out.ps.c1
    have RD := Lib.hid (fun (W : World) => readings_any t.text W)
    clear y0 y2 y3 hW
    go_quiet ((go_at_call 66; exact Calls.quiet_of_same (RD.out _)))
    all_goals
      go_upto_region 4 with (fail)
      have HB2 := Lib.hid (HB1.out.kept0 ((Chg.refl [] w1).drewN nq))
      generalize w1.drewN nq = w2 at *
      clear HB1 k0 k1 y1 RD
      by_cases hk : Ps.readK t.text = 0
      · have HR := Lib.hid (cmdP_simple (d := d) HCL.out HT.out hk)
        have hv : readV (Ps.readK t.text) = .nilFunc := by rw [hk]; rfl
        rw [hv]
        clear hk hv
        have hnq := neq_nil w2
        go_wp2_with fail
        refine Calls.mono (simple_any pb _ c ts vs p deep w2 HB2.out.ps) ?_
        intro e w3 hRD
        obtain ⟨C, hC⟩ : ∃ C, Ps.simpleP ts p = C := ⟨_, rfl⟩
        rw [hC] at hRD
        rw [hC] at HR
        obtain ⟨cs, b, ⟨kk, s1, ka, wa, sa, ra, kn, kc, wn, wc, sn, sc, rn, rc, rfl⟩, rfl, hC6, hGot⟩ := hRD.got
        have HGot := Lib.hid hGot
        have HC6 := Lib.hid hC6
        have hrs := hC6.obj HB2.out.rs (by have := HB2.out.old.1; simp; omega)
        obtain ⟨r0, r1, r2, r3, r4, r5, rf⟩ := node_cells hrs
        clear hRD hC6 hGot hrs
        go_wp2_with fail
        refine bodyPost_ret (v := .tuple #[.agg #[.int .i64 kk, .slice ka kn kc, .string (Lx.strB s1), .slice wa wn wc, .slice sa sn sc, .slice ra rn rc], .bool b]) (by simp [results, Tryd.results60, go_sem, r0, r1, r2, r3, r4, r5]) rfl ?_
        rw [HR.out]
        cases C with
        | bad er q3 =>
          obtain ⟨hb, hP6⟩ := HGot.out
          subst hb
          refine (HB2.out.bad HC6.out hP6).fin6 ⟨_, _, _, _, _, _, _, _, _, _, _, _, _, _, rfl⟩ ?_
          exact (Chg.refl _ _).six _ _ _ _ _ _ _ (.inl (by simp))
        | ok x q3 =>
          obtain ⟨hb, hN, hP6⟩ := HGot.out
          subst hb
          have hsz : w.heap.size + 1 ≤ w2.heap.size := lt_of_obj HB2.out.rs
          refine (HB2.out.call HC6.out hP6).finT (Sn.up (lo' := w.heap.size + 1) hN hsz (Nat.le_refl _)) ?_
          exact (Chg.refl _ _).six _ _ _ _ _ _ _ (.inl (by simp))
      · have h4 := readK_le t.text
        have k2 := HB2.out.ps.c2
        rw [readV_some hk h4]
        have hnq := fun f => neq_func f w2
        cases d with
        | zero =>
          have HR := Lib.hid (cmdP_deep HCL.out HT.out hk)
          have hdp : deep = 16 := by have := HD.out; omega
          subst hdp
          clear hk h4
          have hF := Lib.hid (fail_any pb _ c ts vs p 16 12 w2 HB2.out.ps)
          go_wp2_with fail
          refine hF.out.mono ?_
          rintro e w5 ⟨rfl, hP4, hC4⟩
          have HBD := Lib.hid (HB2.out.bad hC4 hP4)
          obtain ⟨r0, r1, r2, r3, r4, r5, rf⟩ := node_cells HBD.out.rs
          clear hP4 hC4
          go_wp2_with fail
          refine bodyPost_ret (v := .tuple #[.agg (nodeC 0 (.slice none 0 0)), .bool false]) (by simp [results, Tryd.results60, go_sem, nodeC, r0, r1, r2, r3, r4, r5]) rfl ?_
          rw [HR.out]
          refine HBD.out.fin ?_
          exact (Chg.refl _ _).six _ _ _ _ _ _ _ (.inl (by simp))
        | succ d =>
          have HR := Lib.hid (cmdP_read (d := d) HCL.out HT.out hk)
          have hd2 : decide ((16 : Int) ≤ (deep : Int)) = false := decide_eq_false (by have := HD.out; omega)
          have hdl : (deep : Int) ≤ 15 := by have := HD.out; omega
          have hd0 : (0 : Int) ≤ (deep : Int) := by omega
          have hcall := call_fn hk h4
          have HRA := Lib.hid (fun (W : World) (h : PS W pb (some ⟨g1, 0, none⟩) c ts vs (p + 1) (deep + 1) 0) => read_any pb _ c ts vs (p + 1) (deep + 1) (Ps.cmdP ts d) (IH.out d rfl) (cmdP_moves d) hk h4 W h)
          obtain ⟨C, hC⟩ : ∃ C, Ps.readP ts (Ps.cmdP ts d) (Ps.readK t.text) (p + 1) = C := ⟨_, rfl⟩
          rw [hC] at HRA HR
          generalize readF (Ps.readK t.text) = fn at *
          clear hk h4
          have k1 := HB2.out.ps.c1
          have kf := HB2.out.ps.free
          go_upto_region 9 with (fail)
          have HP3 := Lib.hid ((HB2.out.ps.setAt (p + 1) ((p : Int) + 1) (by omega) (by omega)).setDeep (deep + 1) ((deep : Int) + 1) (by omega) (by have := HD.out; omega))
          have HC3 := Lib.hid (show Chg [pb] w2 ((w2.setCell ⟨pb, 1, none⟩ (.int .i64 ((p : Int) + 1))).setCell ⟨pb, 2, none⟩ (.int .i64 ((deep : Int) + 1))) from ((Chg.refl [pb] w2).setCell _ _ (.inl (by simp))).setCell _ _ (.inl (by simp)))
          generalize (w2.setCell ⟨pb, 1, none⟩ (.int .i64 ((p : Int) + 1))).setCell ⟨pb, 2, none⟩ (.int .i64 ((deep : Int) + 1)) = w3 at *
          have HB3 := Lib.hid (HB2.out.callD HC3.out HP3.out)
          clear k1 k2 kf HP3 HC3 HB2 hd2
          go_wp2_with fail
          refine Calls.mono (HRA.out w3 HB3.out.ps) ?_
          intro e w4 hRD
          obtain ⟨cs, b, ⟨kk, s1, ka, wa, sa, ra, kn, kc, wn, wc, sn, sc, rn, rc, rfl⟩, rfl, hC6, hGot⟩ := hRD.got
          have hal : Chg [] w4 (w4.alloc (.cells #[.int .i64 kk, .slice ka kn kc, .string (Lx.strB s1), .slice wa wn wc, .slice sa sn sc, .slice ra rn rc] 30)) := (Chg.refl [] w4).alloc _
          have HAL := Lib.hid hal
          have HC6 := Lib.hid hC6
          have HGot := Lib.hid hGot
          have hot := obj_alloc_new w4 (.cells #[.int .i64 kk, .slice ka kn kc, .string (Lx.strB s1), .slice wa wn wc, .slice sa sn sc, .slice ra rn rc] 30)
          obtain ⟨q4, er4, hP4⟩ := hGot.ps
          have HP4 := Lib.hid (hP4.chg0 hal)
          clear hRD hC6 hGot hal hP4 hcall HRA
          go_upto_region 10 with (fail)
          generalize w4.alloc (.cells #[.int .i64 kk, .slice ka kn kc, .string (Lx.strB s1), .slice wa wn wc, .slice sa sn sc, .slice ra rn rc] 30) = w5 at *
          have k2 := HP4.out.c2
          have kf := HP4.out.free 2
          have HTB := Lib.hid (show w4.heap.size ≠ pb from by have := lt_of_obj HB3.out.rs; have := HB3.out.old.1; have := HC6.out.size; omega)
          go_upto_region 11 with (fail)
          have HC7 := Lib.hid (show Chg [pb] w5 (w5.setCell ⟨pb, 2, none⟩ (.int .i64 (deep : Int))) from (Chg.refl [pb] w5).setCell _ _ (.inl (by simp)))
          have HPD := Lib.hid (fun (q : Nat) (er : Int) (h : PS w5 pb (some ⟨g1, 0, none⟩) c ts vs q (deep + 1) er) => h.setDeep deep (deep : Int) rfl (by have := HD.out; omega))
          have hot7 := HC7.out.obj hot (by simp; exact HTB.out)
          clear kf k2
          obtain ⟨t0, t1, t2, t3, t4, t5, tf⟩ := six_cells hot7
          clear hot hot7
          generalize w5.setCell ⟨pb, 2, none⟩ (.int .i64 (deep : Int)) = w6 at *
          have HRS := Lib.hid (HC7.out.obj (HAL.out.obj (HC6.out.obj HB3.out.rs (by have := HB3.out.old.1; simp; omega)) (by simp)) (by have := HB3.out.old.1; simp; omega))
          obtain ⟨r0, r1, r2, r3, r4, r5, rf⟩ := node_cells HRS.out
          go_wp2_with fail
          refine bodyPost_ret (v := .tuple #[.agg #[.int .i64 kk, .slice ka kn kc, .string (Lx.strB s1), .slice wa wn wc, .slice sa sn sc, .slice ra rn rc], .bool b]) (by simp [results, Tryd.results60, go_sem, r0, r1, r2, r3, r4, r5]) rfl ?_
          rw [HR.out]
          have HC46 : Chg [pb] w4 w6 := (HAL.out.mono (by simp)).trans HC7.out (fun x hx => .inl hx)
          have HC36 : Chg [pb] w3 w6 := HC6.out.trans HC46 (fun x hx => .inl hx)
          cases C with
          | bad er q3 =>
            obtain ⟨hb, hP6⟩ := HGot.out
            subst hb
            refine (HB3.out.badD HC36 (HPD.out q3 er (hP6.chg0 HAL.out))).fin6 ⟨_, _, _, _, _, _, _, _, _, _, _, _, _, _, rfl⟩ ?_
            exact (Chg.refl _ _).six _ _ _ _ _ _ _ (.inl (by simp))
          | ok x q3 =>
            obtain ⟨hb, hN, hP6⟩ := HGot.out
            subst hb
            have hsz : w.heap.size + 1 ≤ w3.heap.size := lt_of_obj HB3.out.rs
            have hN6 : NodeAt w6 (Sn (.slice (some ⟨g1, 0, none⟩) ts.length c) vs w3.heap.size w4.heap.size) x _ := NodeAt.kept HC46 (fun j hj hS => by
              simp at hj; subst hj
              rcases hS with h1 | h1
              · exact HB3.out.ps.out h1
              · have := HB3.out.old.1; omega) _ _ hN
            refine (HB3.out.callD HC36 (HPD.out q3 0 (hP6.chg0 HAL.out))).finT (Sn.up (lo' := w.heap.size + 1) (hi' := w6.heap.size) hN6 hsz HC46.size) ?_
            exact (Chg.refl _ _).six _ _ _ _ _ _ _ (.inl (by simp))

/-- a command, from any depth on. -/
theorem command_any (pb : Nat) (a : Option Addr) (c : Nat) (ts : List Lx.Tok) (vs : List Value) : ∀ (d deep : Nat), deep + d = 16 → CmdOk pb a c ts vs deep (Ps.cmdP ts d)
  | 0, deep, h => command_step pb a c ts vs deep 0 h (fun d' hd => by cases hd)
  | d + 1, deep, h => command_step pb a c ts vs deep (d + 1) h (fun d' hd => by cases hd; exact command_any pb a c ts vs d (deep + 1) (by omega))

end Go.Proofs.YtfgbbmnmblchiaaDoor

namespace Go.Proofs.YtfgbbmnmblchiaaDoor
open Go.RowKit
set_option linter.unusedVariables false

def Big (k : Nat) (l : List Lx.Part) : Prop := ∃ p r, l = p :: r ∧ k ≤ p.text.length

theorem Big.add {k : Nat} {l : List Lx.Part} (h : Big k l) (q : Int) (t : List UInt8) : Big k (Lx.addP l q t) := by
  obtain ⟨p, r, rfl, hk⟩ := h
  rcases List.eq_nil_or_concat r with rfl | ⟨r', x, rfl⟩
  · have := addP_last [] p q t
    rw [List.nil_append] at this
    rw [this]
    split
    · exact ⟨_, [], rfl, by simp; omega⟩
    · split
      · exact ⟨p, [], rfl, hk⟩
      · exact ⟨p, _, rfl, hk⟩
  · have := addP_last (p :: r') x q t
    rw [List.concat_eq_append, ← List.cons_append, this]
    split
    · exact ⟨p, _, rfl, hk⟩
    · split
      · exact ⟨p, _, rfl, hk⟩
      · exact ⟨p, _, rfl, hk⟩

theorem Big.var {k : Nat} {l l' : List Lx.Part} (h : Big k l) {q : Int} {r : List UInt8} {n : Nat} (hv : Lx.varP l q r = some (l', n)) : Big k l' := by
  unfold Lx.varP at hv
  split at hv
  · cases hv
  · cases hv
    split
    · exact h.add _ _
    · exact h.add _ _

theorem Big.quot {k : Nat} (q : Nat) : ∀ (f : Nat) (r : List UInt8) (p : Nat) (l l' : List Lx.Part) (p' : Nat), Big k l → Lx.quotP q f r p l = .ok (l', p') → Big k l'
  | 0, _, _, _, _, _, _, h => by simp [Lx.quotP] at h
  | f + 1, [], _, _, _, _, _, h => by simp [Lx.quotP] at h
  | f + 1, b :: t, p, l, l', p', hb, h => by
    rw [quotP_cons] at h
    split at h
    · cases h; exact hb
    · split at h
      · split at h
        · cases h
        · rename_i hv
          exact Big.quot q f _ _ _ _ _ (hb.var hv) h
      · split at h
        · exact Big.quot q f _ _ _ _ _ (hb.add _ _) h
        · exact Big.quot q f _ _ _ _ _ (hb.add _ _) h

theorem Big.word {k : Nat} : ∀ (f : Nat) (r : List UInt8) (p : Nat) (l l' : List Lx.Part) (p' : Nat), Big k l → Lx.wordP f r p l = .ok (l', p') → Big k l'
  | 0, _, _, _, _, _, hb, h => by cases h; exact hb
  | f + 1, [], _, _, _, _, hb, h => by cases h; exact hb
  | f + 1, c :: t, p, l, l', p', hb, h => by
    rw [wordP_cons] at h
    split at h
    · cases h; exact hb
    · split at h
      · split at h
        · cases h
        · exact Big.word f _ _ _ _ _ (hb.add _ _) h
      · split at h
        · split at h
          · cases h
          · rename_i hq
            exact Big.word f _ _ _ _ _ (Big.quot _ _ _ _ _ _ _ hb hq) h
        · split at h
          · split at h
            · cases h
            · rename_i hv
              exact Big.word f _ _ _ _ _ (hb.var hv) h
          · split at h
            · split at h
              · cases h
              · refine Big.word f _ _ _ _ _ ?_ h
                split
                · exact hb
                · exact hb.add _ _
            · exact Big.word f _ _ _ _ _ (hb.add _ _) h

theorem later_spec (c : UInt8) (h : Lx.laterB c = true) : Lx.specB c = false := by
  cases hs : Lx.specB c with
  | false => rfl
  | true =>
    exfalso
    unfold Lx.specB at hs
    rw [List.contains_iff_mem] at hs
    simp only [List.mem_cons, List.not_mem_nil, or_false] at hs
    rcases hs with rfl | rfl | rfl | rfl | rfl | rfl | rfl | rfl | rfl | rfl | rfl | rfl | rfl | rfl <;> exact absurd h (by decide)

theorem isName_later {l : List UInt8} (h : Lx.isName l = true) : ∀ c ∈ l, Lx.laterB c = true := by
  unfold Lx.isName at h
  simp only [Bool.and_eq_true, decide_eq_true_eq] at h
  obtain ⟨hne, hn⟩ := h
  rw [nameLen_eq] at hn
  have hl : l.length ≠ 0 := fun h => hne (List.eq_nil_of_length_eq_zero h)
  split at hn
  · have h1 := (List.takeWhile_sublist Lx.laterB (l := l)).length_le
    have h2 : (l.takeWhile Lx.laterB).length = l.length := by omega
    have h3 : l.takeWhile Lx.laterB = l := (List.takeWhile_sublist Lx.laterB (l := l)).eq_of_length h2
    intro c hc
    rw [← h3] at hc
    exact List.all_eq_true.1 (List.all_takeWhile (p := Lx.laterB) (l := l)) c hc
  · omega

theorem idx_at : ∀ (l : List UInt8) (c : UInt8) (k : Nat), Lx.idx c l = some k → l[k]? = some c
  | [], c, k, h => by simp [Lx.idx] at h
  | b :: t, c, k, h => by
    unfold Lx.idx at h
    rw [List.findIdx?_cons] at h
    split at h
    · rename_i hb
      cases h
      have : b = c := by simpa using hb
      simp [this]
    · cases hk : t.findIdx? (· == c) with
      | none => rw [hk] at h; cases h
      | some j =>
        rw [hk] at h
        cases h
        simpa using idx_at t c j hk

/-- a word that begins with 'name=' begins with a piece that holds it. -/
theorem word_good {r : List UInt8} {p : Nat} {l : List Lx.Part} {p' : Nat} (h : Lx.wordP (r.length + 1) r p [] = .ok (l, p')) (n k : Nat) (hi : Lx.idx 61 (r.take n) = some k) (hn : Lx.isName ((r.take n).take k) = true) : Big (k + 1) l := by
  have hk := idx_lt _ _ _ hi
  rw [List.length_take] at hk
  have ha := idx_at _ _ _ hi
  have hlat := isName_later hn
  have hw := wordP_plain (k + 1) (r.length - k) r p [] (by omega) (fun j hj => by
    by_cases hjk : j = k
    · subst hjk
      rw [List.getElem?_take] at ha
      split at ha
      · rw [List.getD_eq_getElem?_getD, ha]
        decide
      · cases ha
    · refine later_spec _ (hlat _ ?_)
      rw [List.take_take, List.getD_eq_getElem?_getD]
      have hj2 : j < r.length := by omega
      rw [List.getElem?_eq_getElem hj2]
      refine List.mem_take_iff_getElem.2 ⟨j, by omega, rfl⟩)
  rw [show r.length - k + (k + 1) = r.length + 1 from by omega] at hw
  rw [hw] at h
  refine Big.word _ _ _ _ _ _ ?_ h
  unfold addRun
  rw [if_neg (fun e => by have := congrArg List.length e; rw [List.length_take, List.length_nil] at this; omega)]
  unfold Lx.addP
  simp only [List.getLast?_nil]
  rw [if_neg (fun e => by have := congrArg List.length e.2; rw [List.length_take, List.length_nil] at this; omega)]
  exact ⟨_, [], rfl, by rw [List.length_take]; omega⟩

theorem word_sm : ∀ (f : Nat) (r : List UInt8) (p : Nat) (l l' : List Lx.Part) (p' : Nat), Sm l p → Lx.wordP f r p l = .ok (l', p') → Sm l' p' ∧ p ≤ p' ∧ p' ≤ p + r.length
  | 0, _, _, _, _, _, hs, h => by cases h; exact ⟨hs, by omega, by omega⟩
  | f + 1, [], _, _, _, _, hs, h => by cases h; exact ⟨hs, by omega, by omega⟩
  | f + 1, c :: t, p, l, l', p', hs, h => by
    rw [wordP_cons] at h
    rw [List.length_cons]
    split at h
    · cases h; exact ⟨hs, by omega, by omega⟩
    · split at h
      · split at h
        · cases h
        · rename_i k hk
          have hlt := idx_lt _ _ _ hk
          obtain ⟨h1, h2, h3⟩ := word_sm f _ _ _ _ _ (hs.add 1 _ (M := k + 2) (by rw [List.length_take]; omega) (by omega)) h
          rw [List.length_drop] at h3
          exact ⟨h1, by omega, by omega⟩
      · split at h
        · split at h
          · cases h
          · rename_i hq
            obtain ⟨q1, q2, q3⟩ := quotP_ok _ _ _ _ _ _ _ (hs.mono (by omega)) hq
            obtain ⟨h1, h2, h3⟩ := word_sm f _ _ _ _ _ q3 h
            rw [List.length_drop, List.length_cons] at h3
            exact ⟨h1, by omega, by omega⟩
        · split at h
          · split at h
            · cases h
            · rename_i hv
              have hv2 := varP_some hv
              obtain ⟨h1, h2, h3⟩ := word_sm f _ _ _ _ _ (hs.var hv) h
              rw [List.length_drop, List.length_cons] at h3
              exact ⟨h1, by omega, by omega⟩
          · split at h
            · split at h
              · cases h
              · rename_i hne
                have hw := Lx.wid_le t hne
                obtain ⟨h1, h2, h3⟩ := word_sm f _ _ _ _ _ (by
                  split
                  · exact hs.mono (by omega)
                  · rw [Nat.add_assoc]
                    exact hs.add 1 _ (M := 1 + Lx.wid t) (by rw [List.length_take]; omega) (by omega)) h
                rw [List.length_drop] at h3
                exact ⟨h1, by omega, by omega⟩
            · obtain ⟨h1, h2, h3⟩ := word_sm f _ _ _ _ _ (hs.add 1 [c] (M := 1) (by simp) (by omega)) h
              exact ⟨h1, by omega, by omega⟩

theorem tokP_good : ∀ (f : Nat) (r : List UInt8) (p : Nat) (acc ts : List Lx.Tok), (∀ t ∈ acc, GoodT t) → p + r.length ≤ 2048 → Lx.tokP f r p acc = .ok ts → (∀ t ∈ ts, GoodT t) ∧ ts.length ≤ acc.length + r.length
  | 0, _, _, _, _, ha, _, h => by cases h; exact ⟨ha, by omega⟩
  | f + 1, [], _, _, _, ha, _, h => by cases h; exact ⟨ha, by omega⟩
  | f + 1, c :: t, p, acc, ts, ha, hl, h => by
    rw [List.length_cons] at hl
    have snoc : ∀ x : Lx.Tok, GoodT x → ∀ y ∈ acc ++ [x], GoodT y := by
      intro x hx y hy
      rcases List.mem_append.1 hy with hy | hy
      · exact ha y hy
      · simp at hy; subst hy; exact hx
    rw [tokP_cons] at h
    rw [List.length_cons]
    split at h
    · obtain ⟨h1, h2⟩ := tokP_good f _ _ _ _ ha (by omega) h
      exact ⟨h1, by omega⟩
    · split at h
      · have := noteLen_le (c :: t)
        rw [List.length_cons] at this
        obtain ⟨h1, h2⟩ := tokP_good f _ _ _ _ ha (by rw [List.length_drop, List.length_cons]; omega) h
        rw [List.length_drop, List.length_cons] at h2
        exact ⟨h1, by omega⟩
      · split at h
        · obtain ⟨h1, h2⟩ := tokP_good f _ _ _ _ (snoc _ ⟨by simp, by simp, by simp⟩) (by omega) h
          rw [List.length_append, List.length_singleton] at h2
          exact ⟨h1, by omega⟩
        · split at h
          · rename_i hsg
            have := signOf_len (c :: t)
            rw [List.length_cons] at this
            have hs0 : (Lx.signOf (c :: t)).length ≠ 0 := fun e => hsg (List.eq_nil_of_length_eq_zero e)
            obtain ⟨h1, h2⟩ := tokP_good f _ _ _ _ (snoc _ ⟨by simp; omega, by simp, by simp⟩) (by rw [List.length_drop, List.length_cons]; omega) h
            rw [List.length_append, List.length_singleton, List.length_drop, List.length_cons] at h2
            exact ⟨h1, by omega⟩
          · split at h
            · cases h
            · rename_i n1 n2 n3 n4 n5
              split at h
              · cases h
              · rename_i l' p' hw
                have hc : Lx.endB c = false := sign_end c t (by simpa using n4) n5 n1 n3
                have h0 := wordP_gt _ _ _ _ _ _ _ hc hw
                obtain ⟨s1, s2, s3⟩ := word_sm _ _ _ _ _ _ (Sm.nil p) hw
                rw [List.length_cons] at s3
                obtain ⟨h1, h2⟩ := tokP_good f _ _ _ _ (snoc ⟨1, (c :: t).take (p' - p), l', p⟩ ⟨by rw [List.length_take, List.length_cons]; omega, fun _ k hi hn => word_good hw _ k hi hn, by have := s1.len; show l'.length ≤ 2048; omega⟩) (by rw [List.length_drop, List.length_cons]; omega) h
                rw [List.length_append, List.length_singleton, List.length_drop, List.length_cons] at h2
                exact ⟨h1, by omega⟩

theorem tokens_ok {l : List UInt8} (hl : ¬ 2048 < l.length) {e : Int} {a : Nat} {ts : List Lx.Tok} (h : Lx.tokens l = (e, a, ts)) : (∀ t ∈ ts, GoodT t) ∧ ts.length ≤ 2048 := by
  unfold Lx.tokens at h
  rw [if_neg hl] at h
  split at h
  · cases h; exact ⟨by simp, by simp⟩
  · split at h
    · cases h; exact ⟨by simp, by simp⟩
    · rename_i hr
      cases h
      obtain ⟨h1, h2⟩ := tokP_good _ _ _ _ _ (by simp) (by omega) hr
      exact ⟨h1, by simp at h2; omega⟩

end Go.Proofs.YtfgbbmnmblchiaaDoor

namespace Go.Proofs.YtfgbbmnmblchiaaDoor
open Go.RowKit
set_option linter.unusedVariables false

/-- what reading a text leaves. -/
def ProgPost (w : World) (r : Int × Nat × Ps.Node) (e : Ending) (w' : World) : Prop :=
  Chg [] w w' ∧ ∃ cs, e = .returned (.tuple #[.agg cs.toArray, .int .i64 r.2.1, .int .i64 r.1]) ∧ NodeAt w' (fun _ => True) r.2.2 cs

theorem node0_at (w : World) (S : Nat → Prop) : NodeAt w S (Ps.node 0 []) (nodeC 0 (.slice none 0 0)).toList := node_at (k := 0) (Sl.nil _ _ _ _) (by unfold NodesAt; rfl)

theorem prog_bad {w w4 : World} (h : Chg [] w w4) (e : Int) (n : Nat) : ProgPost w (e, n, Ps.node 0 []) (.returned (.tuple #[.agg (nodeC 0 (.slice none 0 0)), .int .i64 n, .int .i64 e])) (sixW w4 w.heap.size (.int .i64 0) (.slice none 0 0) (.string ⟨#[]⟩) (.slice none 0 0) (.slice none 0 0) (.slice none 0 0)).drew :=
  ⟨(h.six w.heap.size (.int .i64 0) (.slice none 0 0) (.string ⟨#[]⟩) (.slice none 0 0) (.slice none 0 0) (.slice none 0 0) (.inr (Nat.le_refl _))).drew, _, rfl, node0_at _ _⟩

theorem row_ne {w : World} {E E' : TypeId} {size n : Nat} {v : Value} {xs : List Value} {rb : Nat} {cur : Array Value} {f : Nat × Nat} (h : Row w E size v n xs) (hr : w.heap[rb]? = some (.cells cur E' f)) (hE : E ≠ E') : rb ∉ rowBlock v := by
  intro hk
  rcases h.2 with ⟨_, a, rfl⟩ | ⟨g, cap, cur', rfl, hg, _⟩
  · cases a <;> simp [rowBlock] at hk
  · simp only [rowBlock] at hk
    split at hk
    · simp at hk
    · simp at hk
      subst hk
      rw [hr] at hg
      injection hg with hg
      injection hg with h1 h2 h3
      exact hE h2.symm

theorem ToksAt.tb_ne {w : World} {v : Value} {ts : List Lx.Tok} {vs : List Value} (h : ToksAt w v ts vs) {rb : Nat} {cur : Array Value} {f : Nat × Nat} (hr : w.heap[rb]? = some (.cells cur 30 f)) (h2 : rb ≠ 2) : ¬ TB v vs rb := by
  rintro (h1 | h1 | ⟨u, hu, h1⟩)
  · exact h2 h1
  · exact row_ne h.row hr (by decide) h1
  · obtain ⟨i, hi⟩ := List.mem_iff_getElem?.1 hu
    have hlt : i < ts.length := by rw [← h.len]; exact (List.getElem?_eq_some_iff.1 hi).1
    exact row_ne (h.parts i _ u (List.getElem?_eq_getElem hlt) hi).1 hr (by decide) h1

section
variable {l : List UInt8} {ts : List Lx.Tok} {e : Int} {p q : Nat} {n : Ps.Node}
theorem program_lex (h : Lx.tokens l = (e, p, ts)) (he : e ≠ 0) : Ps.program l = (e, p, Ps.node 0 []) := by
  unfold Ps.program
  rw [h]
  exact if_pos he
theorem program_bad (h : Lx.tokens l = (0, p, ts)) (h2 : Ps.listP ts (Ps.cmdP ts 16) false 0 = .bad e q) : Ps.program l = (e, (ts[q]?.map (·.pos)).getD l.length, Ps.node 0 []) := by
  unfold Ps.program
  rw [h]
  show (if _ then _ else _) = _
  rw [if_neg (by decide), h2]
theorem program_more (h : Lx.tokens l = (0, p, ts)) (h2 : Ps.listP ts (Ps.cmdP ts 16) false 0 = .ok n q) (hq : q < ts.length) : Ps.program l = (10, (ts[q]?.map (·.pos)).getD l.length, Ps.node 0 []) := by
  unfold Ps.program
  rw [h]
  show (if _ then _ else _) = _
  rw [if_neg (by decide), h2]
  exact if_pos hq
theorem program_ok (h : Lx.tokens l = (0, p, ts)) (h2 : Ps.listP ts (Ps.cmdP ts 16) false 0 = .ok n q) (hq : ¬ q < ts.length) : Ps.program l = (0, 0, n) := by
  unfold Ps.program
  rw [h]
  show (if _ then _ else _) = _
  rw [if_neg (by decide), h2]
  exact if_neg hq
end

set_option maxHeartbeats 8000000 in
set_option maxRecDepth 10000 in
theorem program_any (l : List UInt8) (w : World) (hl9 : l.length ≤ 9223372036854775807) (hT : Hid (U8 w)) (m : Int) (hm : w.cell? ⟨2, 0, none⟩ = some (.int .i64 m)) :
    Calls Tryd.prog 7 #[.string (Lx.strB l)] w (ProgPost w (Ps.program l)) := by
  have hsz := Lx.strB_size l
  have HM := Lib.hid hm
  have HL9 := Lib.hid hl9
  have HC0 := Lib.hid ((Chg.refl [] w).alloc (.cells (nodeC 0 (.slice none 0 0)) 30))
  have HS0 := Lib.hid (obj_alloc_new w (.cells (nodeC 0 (.slice none 0 0)) 30))
  have HT0 := u8_kept hT HC0.out (by simp) (by simp)
  have HTK := Lib.hid (tokens_any l _ hl9 HT0)
  clear hm hl9 hT HT0
  obtain ⟨e0, at0, ts, hTT⟩ : ∃ e0 at0 ts, Lx.tokens l = (e0, at0, ts) := ⟨_, _, _, rfl⟩
  rw [hTT] at HTK
  go_enter Tryd.func7, Tryd.ntmps7
  go_wp2_with fail
  refine Calls.mono HTK.out ?_
  rintro e w1 ⟨a, n, vs, rfl, hTO, hC1⟩
  have HTO := Lib.hid hTO
  have HC1 := Lib.hid (HC0.out.then0 hC1)
  have HS1 := Lib.hid (hC1.obj HS0.out (by simp))
  clear hTO hC1 HTK
  by_cases he : e0 = 0
  · subst he
    have hnt : n = ts.length := by obtain ⟨_, _, hv, _⟩ := HTO.out.row.shape; cases hv; rfl
    subst hnt
    have hok : (∀ t ∈ ts, GoodT t) ∧ ts.length ≤ 2048 := by
      by_cases h : 2048 < l.length
      · rw [tokens_long h] at hTT; cases hTT
      · exact tokens_ok h hTT
    have hfew := hok.2
    have hm1 := HC1.out.cell HM.out (by simp)
    have h2w : 2 < w.heap.size := World.block_lt_of_cell? w _ HM.out
    have HS1b := HS1.out
    obtain ⟨R, hR⟩ : ∃ R, Ps.listP ts (Ps.cmdP ts 16) false 0 = R := ⟨_, rfl⟩
    have HPB := Lib.hid (obj_alloc_new w1 (.cells #[.slice a ts.length ts.length, .int .i64 0, .int .i64 0, .int .i64 0] 60))
    have hal : Chg [] w1 (w1.alloc (.cells #[.slice a ts.length ts.length, .int .i64 0, .int .i64 0, .int .i64 0] 60)) := (Chg.refl [] w1).alloc _
    have HTN := Lib.hid (HTO.out.tb_ne HS1.out (by omega))
    have HP2 := Lib.hid (show PS (w1.alloc (.cells #[.slice a ts.length ts.length, .int .i64 0, .int .i64 0, .int .i64 0] 60)) w1.heap.size a ts.length ts vs 0 0 0 from
      { p := HPB.out
        toks := HTO.out.kept0 hal
        out := fun hk => by
          rcases hk with h1 | h1 | ⟨u, hu, h1⟩
          · have := HC1.out.size; omega
          · exact Nat.lt_irrefl _ (Row.block_lt HTO.out.row _ h1)
          · obtain ⟨i, hi⟩ := List.mem_iff_getElem?.1 hu
            have hlt : i < ts.length := by rw [← HTO.out.len]; exact (List.getElem?_eq_some_iff.1 hi).1
            exact Nat.lt_irrefl _ (Row.block_lt (HTO.out.parts i _ u (List.getElem?_eq_getElem hlt) hi).1 _ h1)
        le := Nat.zero_le _
        few := by omega
        dp := by omega
        good := hok.1
        ml := ⟨m, hal.cell hm1 (by simp)⟩ })
    have HC2 := Lib.hid (HC1.out.then0 hal)
    have HS2 := Lib.hid (hal.obj HS1.out (by simp))
    have HLT := Lib.hid (show w.heap.size < w1.heap.size from lt_of_obj HS1.out)
    clear hm1 hok HS1b hal HPB HS1 HC1 HTO
    go_upto_region 5 with (fail)
    generalize w1.alloc (.cells #[.slice a ts.length ts.length, .int .i64 0, .int .i64 0, .int .i64 0] 60) = w2 at *
    generalize w1.heap.size = pb at *
    have HLI := Lib.hid (list_any pb a ts.length ts vs 0 0 (Ps.cmdP ts 16) (command_any pb a ts.length ts vs 16 0 rfl) (cmdP_moves 16) false w2 HP2.out)
    rw [hR] at HLI
    go_wp2_with fail
    refine Calls.mono HLI.out ?_
    intro e w3 hRD
    obtain ⟨cs, b, ⟨kk, s1, ka, wa, sa, ra, kn, kc, wn, wc, sn, sc, rn, rc, rfl⟩, rfl, hC6, hGot⟩ := hRD.got
    have hal : Chg [] w3 (w3.alloc (.cells #[.int .i64 kk, .slice ka kn kc, .string (Lx.strB s1), .slice wa wn wc, .slice sa sn sc, .slice ra rn rc] 30)) := (Chg.refl [] w3).alloc _
    have HAL := Lib.hid hal
    have HC6 := Lib.hid hC6
    have HGot := Lib.hid hGot
    have HOT := Lib.hid (obj_alloc_new w3 (.cells #[.int .i64 kk, .slice ka kn kc, .string (Lx.strB s1), .slice wa wn wc, .slice sa sn sc, .slice ra rn rc] 30))
    clear hRD hC6 hGot HLI
    go_upto_region 6 with (fail)
    generalize w3.alloc (.cells #[.int .i64 kk, .slice ka kn kc, .string (Lx.strB s1), .slice wa wn wc, .slice sa sn sc, .slice ra rn rc] 30) = w4 at *
    have HTB := Lib.hid (show w3.heap.size ≠ pb from by have := HP2.out.lt; have := HC6.out.size; omega)
    generalize w3.heap.size = tb at *
    have HC4 := Lib.hid (show Chg [] w w4 from (HC2.out.trans HC6.out (fun x hx => .inr (by simp at hx; have := HLT.out; omega))).then0 HAL.out)
    have HS4 := Lib.hid (HAL.out.obj (HC6.out.obj HS2.out (by have := HLT.out; simp; omega)) (by simp))
    cases R with
    | bad er q =>
      obtain ⟨hb, hP3⟩ := HGot.out
      subst hb
      have HP4 := Lib.hid (hP3.chg0 HAL.out)
      have HR := Lib.hid (program_bad hTT hR)
      clear hP3 HGot HP2 hal hTT hR
      have k1 := HP4.out.c1
      have k3 := HP4.out.c3
      obtain ⟨r0, r1, r2, r3, r4, r5, rf⟩ := node_cells HS4.out
      have hleq := HP4.out.le
      by_cases hq : q < ts.length
      · have hd : decide (q < ts.length) = true := decide_eq_true hq
        have q0 : (0 : Int) ≤ (q : Int) := by omega
        have q2 : (q : Int) < (ts.length : Int) := by omega
        have q3 : 0 < ts.length := by omega
        obtain ⟨t, ht⟩ : ∃ t, ts[q]? = some t := ⟨_, List.getElem?_eq_getElem hq⟩
        obtain ⟨g1, a3, n3, rfl, y0, y1, y2, y3, hW⟩ := HP4.out.toks.cell4 q t ht
        have HR2 := Lib.hid (HR.out.trans (show _ = (er, t.pos, Ps.node 0 []) from by rw [ht]; rfl))
        clear ht y0 y1 y2 hW hq HR
        have k3c := ((Chg.refl [w.heap.size] w4).six w.heap.size (.int .i64 0) (.slice none 0 0) (.string ⟨#[]⟩) (.slice none 0 0) (.slice none 0 0) (.slice none 0 0) (.inl (by simp))).cell k3 (by have := HLT.out; simp; omega)
        simp only [sixW] at k3c
        go_upto_region 12 with (fail)
        go_region
        all_goals
          go_wp2_with fail
          refine bodyPost_ret (v := .tuple #[.agg (nodeC 0 (.slice none 0 0)), .int .i64 t.pos, .int .i64 er]) (by simp [results, Tryd.results7, go_sem, nodeC, r0, r1, r2, r3, r4, r5]) rfl ?_
          rw [HR2.out]
          exact prog_bad HC4.out er t.pos
      · have hd : decide (q < ts.length) = false := decide_eq_false hq
        have HR2 := Lib.hid (HR.out.trans (show _ = (er, l.length, Ps.node 0 []) from by rw [List.getElem?_eq_none (by omega)]; rfl))
        clear hq HR
        have k3c := ((Chg.refl [w.heap.size] w4).six w.heap.size (.int .i64 0) (.slice none 0 0) (.string ⟨#[]⟩) (.slice none 0 0) (.slice none 0 0) (.slice none 0 0) (.inl (by simp))).cell k3 (by have := HLT.out; simp; omega)
        simp only [sixW] at k3c
        go_upto_region 12 with (fail)
        go_region
        all_goals
          go_wp2_with fail
          refine bodyPost_ret (v := .tuple #[.agg (nodeC 0 (.slice none 0 0)), .int .i64 l.length, .int .i64 er]) (by simp [results, Tryd.results7, go_sem, nodeC, r0, r1, r2, r3, r4, r5]) rfl ?_
          rw [HR2.out]
          exact prog_bad HC4.out er l.length
    | ok x q =>
      obtain ⟨hb, hN, hP3⟩ := HGot.out
      subst hb
      have HP4 := Lib.hid (hP3.chg0 HAL.out)
      have HN4 := Lib.hid (hold0 hN HAL.out)
      have k1 := HP4.out.c1
      have hleq := HP4.out.le
      have q0 : (0 : Int) ≤ (q : Int) := by omega
      by_cases hq : q < ts.length
      · have hd : decide (q < ts.length) = true := decide_eq_true hq
        have q2 : (q : Int) < (ts.length : Int) := by omega
        have q3 : 0 < ts.length := by omega
        have HR := Lib.hid (program_more hTT hR hq)
        obtain ⟨t, ht⟩ : ∃ t, ts[q]? = some t := ⟨_, List.getElem?_eq_getElem hq⟩
        have HR2 := Lib.hid (HR.out.trans (show _ = ((10 : Int), t.pos, Ps.node 0 []) from by rw [ht]; rfl))
        have HTT := Lib.hid ht
        have hF := Lib.hid (fail_any pb a ts.length ts vs q 0 10 w4 HP4.out)
        clear ht HR hTT hR hN hP3 HGot HP2 hal HN4
        go_wp2_with fail
        refine hF.out.mono ?_
        rintro e w5 ⟨rfl, hP5, hC5⟩
        have HP5 := Lib.hid hP5
        have HC5 := Lib.hid (HC4.out.trans hC5 (fun x hx => .inr (by simp at hx; have := HLT.out; omega)))
        have HS5 := Lib.hid (hC5.obj HS4.out (by have := HLT.out; simp; omega))
        clear hP5 hC5 k1 hF
        obtain ⟨r0, r1, r2, r3, r4, r5, rf⟩ := node_cells HS5.out
        have k1 := HP5.out.c1
        have k3 := HP5.out.c3
        obtain ⟨g1, a3, n3, rfl, y0, y1, y2, y3, hW⟩ := HP5.out.toks.cell4 q t HTT.out
        clear y0 y1 y2 hW hq
        have k3c := ((Chg.refl [w.heap.size] w5).six w.heap.size (.int .i64 0) (.slice none 0 0) (.string ⟨#[]⟩) (.slice none 0 0) (.slice none 0 0) (.slice none 0 0) (.inl (by simp))).cell k3 (by have := HLT.out; simp; omega)
        simp only [sixW] at k3c
        go_upto_region 12 with (fail)
        go_region
        all_goals
          go_wp2_with fail
          refine bodyPost_ret (v := .tuple #[.agg (nodeC 0 (.slice none 0 0)), .int .i64 t.pos, .int .i64 10]) (by simp [results, Tryd.results7, go_sem, nodeC, r0, r1, r2, r3, r4, r5]) rfl ?_
          rw [HR2.out]
          exact prog_bad HC5.out 10 t.pos
      · have hd : decide (q < ts.length) = false := decide_eq_false hq
        have HR := Lib.hid (program_ok hTT hR hq)
        clear hTT hR hN hP3 HGot HP2 hal hq
        obtain ⟨r0, r1, r2, r3, r4, r5, rf⟩ := node_cells HS4.out
        obtain ⟨t0, t1, t2, t3, t4, t5, tf⟩ := six_cells HOT.out
        go_wp2_with fail
        refine bodyPost_ret (v := .tuple #[.agg #[.int .i64 kk, .slice ka kn kc, .string (Lx.strB s1), .slice wa wn wc, .slice sa sn sc, .slice ra rn rc], .int .i64 0, .int .i64 0]) (by simp [results, Tryd.results7, go_sem, r0, r1, r2, r3, r4, r5]) rfl ?_
        rw [HR.out]
        refine ⟨HC4.out.six _ _ _ _ _ _ _ (.inr (by simp)), _, rfl, NodeAt.mono (fun j hj => trivial) _ _ (NodeAt.kept (Chg.six (Chg.refl [w.heap.size] w4) w.heap.size _ _ _ _ _ _ (.inl (by simp))) (fun j hj hS => ?_) _ _ HN4.out)⟩
        simp at hj
        subst hj
        rcases hS with h1 | h1
        · exact HTN.out h1
        · have := lt_of_obj HS2.out; omega
  · have hne : (e0 != 0) = true := by simpa using he
    have HR := Lib.hid (program_lex hTT he)
    clear hTT he
    obtain ⟨r0, r1, r2, r3, r4, r5, rf⟩ := node_cells HS1.out
    go_wp2_with fail
    refine bodyPost_ret (v := .tuple #[.agg (nodeC 0 (.slice none 0 0)), .int .i64 at0, .int .i64 e0]) (by simp [results, Tryd.results7, go_sem, nodeC, r0, r1, r2, r3, r4, r5]) rfl ?_
    rw [HR.out]
    exact ⟨HC1.out.six _ _ _ _ _ _ _ (.inr (by simp)), _, rfl, node0_at _ _⟩

end Go.Proofs.YtfgbbmnmblchiaaDoor

namespace Go.Proofs.YtfgbbmnmblchiaaDoor
open Go.RowKit
set_option linter.unusedVariables false

theorem NodesAt.get {w : World} {S : Nat → Prop} : ∀ {ns : List Ps.Node} {xs : List Value} {i : Nat} {k : Ps.Node}, NodesAt w S ns xs → ns[i]? = some k → ∃ cs, NodeAt w S k cs ∧ ∀ (j : Nat) (u : Value), cs[j]? = some u → xs[i * 6 + j]? = some u
  | [], xs, i, k, _, h2 => by simp at h2
  | n :: ns, xs, 0, k, h, h2 => by
    unfold NodesAt at h
    obtain ⟨cs, ys, rfl, h3, h4⟩ := h
    simp at h2
    subst h2
    refine ⟨cs, h3, fun j u hj => ?_⟩
    rw [Nat.zero_mul, Nat.zero_add]
    have hlt := (List.getElem?_eq_some_iff.1 hj).1
    rw [List.getElem?_append_left hlt]
    exact hj
  | n :: ns, xs, i + 1, k, h, h2 => by
    unfold NodesAt at h
    obtain ⟨cs, ys, rfl, h3, h4⟩ := h
    obtain ⟨ds, h5, h6⟩ := NodesAt.get h4 (by simpa using h2)
    refine ⟨ds, h5, fun j u hj => ?_⟩
    have hl := h3.one.1
    rw [List.getElem?_append_right (by omega), ← h6 j u hj]
    congr 1
    omega

/-- a node's kid. -/
theorem NodeAt.kid {w : World} {S : Nat → Prop} {n k : Ps.Node} {cs : List Value} {i : Nat} (h : NodeAt w S n cs) (hk : n.kids[i]? = some k) :
    ∃ b c ds, cs[1]? = some (.slice (some ⟨b, 0, none⟩) n.kids.length c) ∧ NodeAt w S k ds ∧ ∀ (j : Nat) (u : Value), ds[j]? = some u → w.cell? ⟨b, i * 6 + j, none⟩ = some u := by
  cases n with
  | mk kind kids name words sets reds =>
    unfold NodeAt at h
    obtain ⟨kv, wv, sv, rv, kx, wx, sx, rx, rfl, ⟨a, c, rfl, hle, hcm, hx⟩, h3, _⟩ := h
    obtain ⟨ds, h5, h6⟩ := NodesAt.get h3 hk
    have hne : kx ≠ [] := fun e => by
      have hl := NodesAt.len h3
      rw [e] at hl
      have := (List.getElem?_eq_some_iff.1 hk).1
      simp only [Ps.Node.kids] at this
      simp at hl
      omega
    obtain ⟨b, rfl, hS, hc⟩ := hx hne
    exact ⟨b, c, ds, rfl, h5, fun j u hj => by rw [← Nat.zero_add (i * 6 + j)]; exact hc _ u (h6 j u hj)⟩

/-- six cells, the text a letter. -/
theorem NodeAt.cells6 {w : World} {S : Nat → Prop} {n : Ps.Node} {cs : List Value} (h : NodeAt w S n cs) {z : Int} (hz : n.kind = z) :
    ∃ (s : ByteArray) (ka wa sa ra : Option Addr) (kn kc wn wc sn sc rn rc : Nat), cs = [.int .i64 z, .slice ka kn kc, .string s, .slice wa wn wc, .slice sa sn sc, .slice ra rn rc] ∧ kn = n.kids.length ∧ wn = n.words.length ∧ sn = n.sets.length ∧ rn = n.reds.length := by
  obtain ⟨ka, wa, sa, ra, kn, kc, wn, wc, sn, sc, rn, rc, rfl, h1, h2, h3, h4⟩ := h.six
  subst hz
  exact ⟨_, ka, wa, sa, ra, kn, kc, wn, wc, sn, sc, rn, rc, rfl, h1, h2, h3, h4⟩

def aw1 : List UInt8 := [97, 32, 38, 38, 32, 98, 32, 124, 32, 99]
def aw2 : List UInt8 := [105, 102, 32, 97, 59, 32, 116, 104, 101, 110, 32, 102, 105]
def cmd1 (x : List UInt8) : Ps.Node := .mk 5 [] [] [[⟨1, x⟩]] [] []
theorem awake_one : Ps.program aw1 = (0, 0, Ps.node 1 [Ps.node 2 [cmd1 [97], Ps.node 4 [cmd1 [98], cmd1 [99]]]]) := by kernel_rfl
theorem awake_two : Ps.program aw2 = (10, 11, Ps.node 0 []) := by kernel_rfl

theorem U8.chg {w w' : World} (h : Hid (U8 w)) (hc : Chg [] w w') : Hid (U8 w') := u8_kept (F := []) h hc (by simp) (by simp)

set_option maxHeartbeats 2000000 in
set_option maxRecDepth 10000 in
theorem awake_any (w : World) (hT : Hid (U8 w)) (m : Int) (hm : w.cell? ⟨2, 0, none⟩ = some (.int .i64 m)) : Calls Tryd.prog 9 #[] w fun e w' => e = .returned (.bool true) ∧ Chg [] w w' := by
  have HM := Lib.hid hm
  have h1 := program_any aw1 w (by decide) hT m hm
  rw [awake_one] at h1
  have H1 := Lib.hid h1
  have H2 := Lib.hid (fun (W : World) (hW : Chg [] w W) => program_any aw2 W (by decide) (U8.chg hT hW) m (hW.cell hm (by simp)))
  clear h1 hm hT
  go_enter Tryd.func9, Tryd.ntmps9
  go_wp2_with fail
  refine H1.out.mono ?_
  rintro e w1 ⟨hC1, cs, rfl, hN⟩
  obtain ⟨b0, c0, ds, hk0, hN0, hx0⟩ := hN.kid (i := 0) rfl
  obtain ⟨b1, c1, es, hk1, hN1, hx1⟩ := hN0.kid (i := 1) rfl
  obtain ⟨s, ka, wa, sa, ra, kn, kc, wn, wc, sn, sc, rn, rc, rfl, hkn, j1⟩ := hN.cells6 (z := 1) rfl
  obtain ⟨s0, ka0, wa0, sa0, ra0, kn0, kc0, wn0, wc0, sn0, sc0, rn0, rc0, rfl, hkn0, j2⟩ := hN0.cells6 (z := 2) rfl
  obtain ⟨s1, ka1, wa1, sa1, ra1, kn1, kc1, wn1, wc1, sn1, sc1, rn1, rc1, rfl, hkn1, j3⟩ := hN1.cells6 (z := 4) rfl
  have y0 := hx0 0 _ rfl
  have y1 := hx0 1 _ rfl
  have z0 := hx1 0 _ rfl
  obtain rfl : kn = 1 := hkn
  obtain rfl : kn0 = 2 := hkn0
  have e0 : Value.slice ka 1 kc = .slice (some ⟨b0, 0, none⟩) 1 c0 := Option.some.inj hk0
  have e1 : Value.slice ka0 2 kc0 = .slice (some ⟨b1, 0, none⟩) 2 c1 := Option.some.inj hk1
  cases e0
  cases e1
  clear j1 j2 j3 hx0 hx1 hk0 hk1 hkn1 hN hN0 hN1 H1
  have hal : Chg [] w1 (w1.alloc (.cells #[.int .i64 1, .slice (some ⟨b0, 0, none⟩) 1 c0, .string s, .slice wa wn wc, .slice sa sn sc, .slice ra rn rc] 30)) := (Chg.refl [] w1).alloc _
  have hob := obj_alloc_new w1 (.cells #[.int .i64 1, .slice (some ⟨b0, 0, none⟩) 1 c0, .string s, .slice wa wn wc, .slice sa sn sc, .slice ra rn rc] 30)
  have HC1 := Lib.hid (hC1.then0 hal)
  have HX := Lib.hid (And.intro (hal.cell y0 (by simp)) (And.intro (hal.cell y1 (by simp)) (hal.cell z0 (by simp))))
  clear hC1 hal y0 y1 z0
  go_upto_region 2 with (fail)
  generalize w1.alloc (.cells #[.int .i64 1, .slice (some ⟨b0, 0, none⟩) 1 c0, .string s, .slice wa wn wc, .slice sa sn sc, .slice ra rn rc] 30) = w2 at *
  generalize w1.heap.size = tb at *
  have h2 := H2.out w2 HC1.out
  rw [awake_two] at h2
  go_wp2_with fail
  refine h2.mono ?_
  clear h2 H2
  rintro e w3 ⟨hC3, cs3, rfl, hN3⟩
  obtain ⟨s3, ka3, wa3, sa3, ra3, kn3, kc3, wn3, wc3, sn3, sc3, rn3, rc3, rfl, j4⟩ := hN3.cells6 (z := 0) rfl
  clear j4
  have HC3 := Lib.hid (HC1.out.then0 hC3)
  have hob3 := hC3.obj hob (by simp)
  have y0 := hC3.cell HX.out.1 (by simp)
  have y1 := hC3.cell HX.out.2.1 (by simp)
  have z0 := hC3.cell HX.out.2.2 (by simp)
  obtain ⟨t0, t1, t2, t3, t4, t5, tf⟩ := six_cells_alloc hob3
  have y0a := fun (o : Obj) => ((Chg.refl [] w3).alloc o).cell y0 (by simp)
  have y1a := fun (o : Obj) => ((Chg.refl [] w3).alloc o).cell y1 (by simp)
  have z0a := fun (o : Obj) => ((Chg.refl [] w3).alloc o).cell z0 (by simp)
  clear hC3 hN3 hob hob3 HX HC1 t2 t3 t4 t5 tf y0 y1 z0
  go_wp2
  go_ret
  exact ⟨rfl, HC3.out.alloc _⟩

end Go.Proofs.YtfgbbmnmblchiaaDoor

namespace Go.Proofs.YtfgbbmnmblchiaaDoor
open Go.RowKit
set_option linter.unusedVariables false

/-- a word that begins with 'name=' begins with a piece of text. -/
def FirstK (t : Lx.Tok) : Prop := t.kind = 1 → ∀ k, Lx.idx 61 t.text = some k → Lx.isName (t.text.take k) = true → ∃ p r, t.parts = p :: r ∧ p.kind = 1
/-- a token such as texts give, for the document's reader. -/
def GoodR (t : Lx.Tok) : Prop := GoodT t ∧ (t.kind = 3 → t.text = [59]) ∧ (t.text = [40] → t.kind = 2) ∧ (t.text = Ps.kwIf ∨ t.text = Ps.kwWhile ∨ t.text = Ps.kwFor → t.kind = 1) ∧ FirstK t

/-- the document's reader. -/
structure RW (w : World) (pb : Nat) (a : Option Addr) (c : Nat) (ts : List Lx.Tok) (vs : List Value) (ln : Nat) (p e at_ deep : Int) : Prop where
  p : w.heap[pb]? = some (.cells #[.slice a ts.length c, .int .i64 p, .int .i64 ln, .int .i64 e, .int .i64 at_, .int .i64 deep] 72 (0, 0))
  toks : ToksR w (.slice a ts.length c) ts vs
  out : ¬ TB (.slice a ts.length c) vs pb
  few : ts.length ≤ 100000
  lnf : ln ≤ 100000
  good : ∀ t ∈ ts, GoodR t
  two : 2 < w.heap.size

section
variable {w w' : World} {pb : Nat} {a : Option Addr} {c : Nat} {ts : List Lx.Tok} {vs : List Value} {ln : Nat} {p e at_ deep : Int}

theorem ToksR.cell4 {n : Nat} (h : ToksR w (.slice a n c) ts vs) (k : Nat) (t : Lx.Tok) (hk : ts[k]? = some t) :
    ∃ g a' n' c', a = some ⟨g, 0, none⟩ ∧ w.cell? ⟨g, k * 4, none⟩ = some (.int .i64 t.kind) ∧ w.cell? ⟨g, k * 4 + 1, none⟩ = some (.string (Lx.strB t.text)) ∧ w.cell? ⟨g, k * 4 + 2, none⟩ = some (.slice a' n' c') ∧ w.cell? ⟨g, k * 4 + 3, none⟩ = some (.int .i64 t.pos) ∧ PartsR w (.slice a' n' c') t.parts ∧ WordIn w (TB (.slice a n c) vs) 0 (.slice a' n' c') t.parts := by
  have hlt := (List.getElem?_eq_some_iff.1 hk).1
  obtain ⟨u, hu⟩ : ∃ u, vs[k]? = some u := ⟨_, List.getElem?_eq_getElem (by rw [h.len]; exact hlt)⟩
  obtain ⟨hp, a', n', c', rfl⟩ := h.parts k t u hk hu
  obtain ⟨g, rfl, _, _, hx⟩ := Row.cells h.row (by omega)
  have hc := fun j hj v (hv : (tokCells t.kind t.text (.slice a' n' c') t.pos)[j]? = some v) => hx (4 * k + j) v ((tcells_get ts vs k t _ hk hu j hj).trans hv)
  refine ⟨g, a', n', c', rfl, ?_, ?_, ?_, ?_, hp, Row.sl hp (fun j hj => .inr (.inr ⟨_, List.mem_of_getElem? hu, hj⟩))⟩
  · rw [Nat.mul_comm]; exact hc 0 (by omega) _ rfl
  · rw [Nat.mul_comm]; exact hc 1 (by omega) _ rfl
  · rw [Nat.mul_comm]; exact hc 2 (by omega) _ rfl
  · rw [Nat.mul_comm]; exact hc 3 (by omega) _ rfl

theorem RW.c0 (h : RW w pb a c ts vs ln p e at_ deep) : w.cell? ⟨pb, 0, none⟩ = some (.slice a ts.length c) := cell_of_obj h.p rfl
theorem RW.c1 (h : RW w pb a c ts vs ln p e at_ deep) : w.cell? ⟨pb, 1, none⟩ = some (.int .i64 p) := cell_of_obj h.p rfl
theorem RW.c2 (h : RW w pb a c ts vs ln p e at_ deep) : w.cell? ⟨pb, 2, none⟩ = some (.int .i64 ln) := cell_of_obj h.p rfl
theorem RW.c3 (h : RW w pb a c ts vs ln p e at_ deep) : w.cell? ⟨pb, 3, none⟩ = some (.int .i64 e) := cell_of_obj h.p rfl
theorem RW.c4 (h : RW w pb a c ts vs ln p e at_ deep) : w.cell? ⟨pb, 4, none⟩ = some (.int .i64 at_) := cell_of_obj h.p rfl
theorem RW.c5 (h : RW w pb a c ts vs ln p e at_ deep) : w.cell? ⟨pb, 5, none⟩ = some (.int .i64 deep) := cell_of_obj h.p rfl
theorem RW.free (h : RW w pb a c ts vs ln p e at_ deep) (j : Nat) : w.frozen? ⟨pb, j, none⟩ = false := free_of_obj h.p j
theorem RW.lt (h : RW w pb a c ts vs ln p e at_ deep) : pb < w.heap.size := lt_of_obj h.p
theorem RW.tb_lt (h : RW w pb a c ts vs ln p e at_ deep) : ∀ k, TB (.slice a ts.length c) vs k → k < w.heap.size := by
  rintro k (rfl | hk | ⟨u, hu, hk⟩)
  · exact h.two
  · exact Row.block_lt h.toks.row k hk
  · obtain ⟨i, hi⟩ := List.mem_iff_getElem?.1 hu
    have hlt : i < ts.length := by rw [← h.toks.len]; exact (List.getElem?_eq_some_iff.1 hi).1
    exact Row.block_lt (h.toks.parts i _ u (List.getElem?_eq_getElem hlt) hi).1 k hk

theorem RW.chg (h : RW w pb a c ts vs ln p e at_ deep) {F : List Nat} (hc : Chg F w w') (hF : ∀ k ∈ F, k ≠ pb ∧ ¬ TB (.slice a ts.length c) vs k) : RW w' pb a c ts vs ln p e at_ deep :=
  { h with p := hc.obj h.p (fun hk => (hF pb hk).1 rfl), toks := h.toks.kept hc (fun k hk hF' => (hF k hF').2 (.inr (.inl hk))) (fun u hu k hk hF' => (hF k hF').2 (.inr (.inr ⟨u, hu, hk⟩))), two := Nat.lt_of_lt_of_le h.two hc.size }
theorem RW.chg0 (h : RW w pb a c ts vs ln p e at_ deep) (hc : Chg [] w w') : RW w' pb a c ts vs ln p e at_ deep := h.chg hc (by simp)
theorem RW.toksP (h : RW w pb a c ts vs ln p e at_ deep) (j : Nat) (v : Value) : ToksR (w.setCell ⟨pb, j, none⟩ v) (.slice a ts.length c) ts vs :=
  h.toks.kept (F := [pb]) ((Chg.refl [pb] w).setCell _ _ (.inl (by simp))) (fun k hk => by simp only [List.mem_singleton]; rintro rfl; exact h.out (.inr (.inl hk))) (fun u hu k hk => by simp only [List.mem_singleton]; rintro rfl; exact h.out (.inr (.inr ⟨u, hu, hk⟩)))
theorem RW.sz (h : RW w pb a c ts vs ln p e at_ deep) (j : Nat) (v : Value) : 2 < (w.setCell ⟨pb, j, none⟩ v).heap.size := Nat.lt_of_lt_of_le h.two (Chg.setP w pb j v).size
theorem RW.setP (h : RW w pb a c ts vs ln p e at_ deep) (z : Int) : RW (w.setCell ⟨pb, 1, none⟩ (.int .i64 z)) pb a c ts vs ln z e at_ deep := { h with p := obj_setCell h.p 1 _, toks := h.toksP 1 _, two := h.sz 1 _ }
theorem RW.setE (h : RW w pb a c ts vs ln p e at_ deep) (z : Int) : RW (w.setCell ⟨pb, 3, none⟩ (.int .i64 z)) pb a c ts vs ln p z at_ deep := { h with p := obj_setCell h.p 3 _, toks := h.toksP 3 _, two := h.sz 3 _ }
theorem RW.setA (h : RW w pb a c ts vs ln p e at_ deep) (z : Int) : RW (w.setCell ⟨pb, 4, none⟩ (.int .i64 z)) pb a c ts vs ln p e z deep := { h with p := obj_setCell h.p 4 _, toks := h.toksP 4 _, two := h.sz 4 _ }
theorem RW.setD (h : RW w pb a c ts vs ln p e at_ deep) (z : Int) : RW (w.setCell ⟨pb, 5, none⟩ (.int .i64 z)) pb a c ts vs ln p e at_ z := { h with p := obj_setCell h.p 5 _, toks := h.toksP 5 _, two := h.sz 5 _ }
end

/-- all is well so far. -/
def ROk (w : World) (pb : Nat) (a : Option Addr) (c : Nat) (ts : List Lx.Tok) (vs : List Value) (ln p deep : Nat) : Prop := RW w pb a c ts vs ln p 0 0 deep ∧ p ≤ ts.length ∧ deep ≤ 16
/-- something was wrong. -/
def RBad (w : World) (pb : Nat) (a : Option Addr) (c : Nat) (ts : List Lx.Tok) (vs : List Value) (ln : Nat) (e at_ : Int) : Prop := e ≠ 0 ∧ ∃ p d, RW w pb a c ts vs ln p e at_ d

/-- the place that an error at a token tells. -/
def posR (ts : List Lx.Tok) (ln p : Nat) : Nat := (ts[p]?.map (·.pos)).getD ln

set_option maxHeartbeats 4000000 in
set_option maxRecDepth 10000 in
theorem ris_bad (pb : Nat) (a : Option Addr) (c : Nat) (ts : List Lx.Tok) (vs : List Value) (ln : Nat) (er at_ : Int) (kind : Int) (x : List UInt8) (w : World) (h : RBad w pb a c ts vs ln er at_) :
    Calls Tryd.prog 52 #[.pointer (some ⟨pb, 0, none⟩), .int .i64 kind, .string (Lx.strB x)] w fun e w' => e = .returned (.bool false) ∧ ∃ n, w' = w.drewN n := by
  obtain ⟨he, p, d, hw⟩ := h
  have x3 := hw.c3
  have e1 : (er == 0) = false := by rw [beq_eq_false_iff_ne]; exact he
  clear hw he
  go_enter Tryd.func52, Tryd.ntmps52
  go_wp2_with fail
  go_quiet (fail)
  all_goals
    go_wp2
    go_ret
    exact ⟨rfl, nq, rfl⟩

set_option maxHeartbeats 4000000 in
set_option maxRecDepth 10000 in
theorem ris_ok (pb : Nat) (a : Option Addr) (c : Nat) (ts : List Lx.Tok) (vs : List Value) (ln p deep : Nat) (kind : Int) (x : List UInt8) (hx : x ≠ []) (w : World) (h : ROk w pb a c ts vs ln p deep) :
    Calls Tryd.prog 52 #[.pointer (some ⟨pb, 0, none⟩), .int .i64 kind, .string (Lx.strB x)] w fun e w' => e = .returned (.bool (Ps.isT ts p kind x)) ∧ ∃ n, w' = w.drewN n := by
  obtain ⟨hw, hle, hdp⟩ := h
  have x0 := hw.c0
  have x1 := hw.c1
  have x3 := hw.c3
  have p0 : (0 : Int) ≤ (p : Int) := by omega
  have hfew := hw.few
  have p1 : (p : Int) ≤ 100000 := by omega
  have l1 : (ts.length : Int) ≤ 100000 := by omega
  have HP := Lib.hid hw
  have hxe : x.isEmpty = false := by simpa using hx
  clear hw hfew
  by_cases hp : p < ts.length
  · have hd : decide (p < ts.length) = true := decide_eq_true hp
    have p2 : (p : Int) < (ts.length : Int) := by omega
    have p3 : 0 < ts.length := by omega
    obtain ⟨t, ht⟩ : ∃ t, ts[p]? = some t := ⟨_, List.getElem?_eq_getElem hp⟩
    have hr := Lib.hid (isT_some ht kind x)
    obtain ⟨g1, a3, n3, c3, rfl, y0, y1, y2, y3, hW, _⟩ := HP.out.toks.cell4 p t ht
    clear ht hW y2 y3
    by_cases hk : t.kind = kind
    · have e1 : (t.kind == kind) = true := by rw [beq_iff_eq]; exact hk
      obtain ⟨b, hb⟩ : ∃ b, (t.text == x) = b := ⟨_, rfl⟩
      have e3 : ((Lx.strB t.text).toList == (Lx.strB x).toList) = b := by rw [Lx.strB_toList, Lx.strB_toList]; exact hb
      have hr2 := Lib.hid (show Ps.isT ts p kind x = b from by rw [hr.out, e1, hxe, hb]; cases b <;> rfl)
      clear hk hx hr hb hxe
      go_enter Tryd.func52, Tryd.ntmps52
      go_wp2_with fail
      go_quiet (fail)
      all_goals
        go_wp2
        go_ret
        exact ⟨ret_b hr2.out.symm, nq, rfl⟩
    · have e1 : (t.kind == kind) = false := by rw [beq_eq_false_iff_ne]; exact hk
      have hr2 := Lib.hid (show Ps.isT ts p kind x = false from by rw [hr.out, e1]; rfl)
      clear hk hr
      go_enter Tryd.func52, Tryd.ntmps52
      go_wp2_with fail
      go_quiet (fail)
      all_goals
        go_wp2
        go_ret
        exact ⟨ret_b hr2.out.symm, nq, rfl⟩
  · have hd : decide (p < ts.length) = false := decide_eq_false hp
    have hr2 := Lib.hid (isT_none hp kind x)
    clear hp
    go_enter Tryd.func52, Tryd.ntmps52
    go_wp2_with fail
    go_quiet (fail)
    all_goals
      go_wp2
      go_ret
      exact ⟨ret_b hr2.out.symm, nq, rfl⟩

end Go.Proofs.YtfgbbmnmblchiaaDoor

namespace Go.Proofs.YtfgbbmnmblchiaaDoor
open Go.RowKit
set_option linter.unusedVariables false

section
variable {w w' : World} {pb : Nat} {a : Option Addr} {c : Nat} {ts : List Lx.Tok} {vs : List Value} {ln p deep : Nat} {er at_ : Int}
theorem ROk.chg0 (h : ROk w pb a c ts vs ln p deep) (hc : Chg [] w w') : ROk w' pb a c ts vs ln p deep := ⟨h.1.chg0 hc, h.2⟩
theorem ROk.drewN (h : ROk w pb a c ts vs ln p deep) (n : Nat) : ROk (w.drewN n) pb a c ts vs ln p deep := h.chg0 ((Chg.refl [] w).drewN n)
theorem ROk.setAt (h : ROk w pb a c ts vs ln p deep) (z : Int) (hz : z = ((p + 1 : Nat) : Int)) (hp : p + 1 ≤ ts.length) : ROk (w.setCell ⟨pb, 1, none⟩ (.int .i64 z)) pb a c ts vs ln (p + 1) deep := by
  subst hz
  exact ⟨h.1.setP _, hp, h.2.2⟩
theorem RBad.chg0 (h : RBad w pb a c ts vs ln er at_) (hc : Chg [] w w') : RBad w' pb a c ts vs ln er at_ := by
  obtain ⟨he, p, d, hw⟩ := h
  exact ⟨he, p, d, hw.chg0 hc⟩
end

set_option maxHeartbeats 4000000 in
set_option maxRecDepth 10000 in
theorem rfail_bad (pb : Nat) (a : Option Addr) (c : Nat) (ts : List Lx.Tok) (vs : List Value) (ln : Nat) (er at_ k : Int) (w : World) (h : RBad w pb a c ts vs ln er at_) :
    Calls Tryd.prog 17 #[.pointer (some ⟨pb, 0, none⟩), .int .i64 k] w fun e w' => e = .returned (.tuple #[]) ∧ w' = w := by
  obtain ⟨he, p, d, hw⟩ := h
  have x3 := hw.c3
  have e1 : (er != 0) = true := by simpa using he
  clear hw he
  go_enter Tryd.func17, Tryd.ntmps17
  go_wp2
  first | refine bodyPost_ret (results_none rfl _ _ _) rfl ?_ | refine bodyPost_end (results_none rfl _ _ _) rfl ?_
  exact ⟨rfl, rfl⟩

set_option maxHeartbeats 4000000 in
set_option maxRecDepth 10000 in
theorem rfail_ok (pb : Nat) (a : Option Addr) (c : Nat) (ts : List Lx.Tok) (vs : List Value) (ln p deep : Nat) (k : Int) (hk : k ≠ 0) (w : World) (h : ROk w pb a c ts vs ln p deep) :
    Calls Tryd.prog 17 #[.pointer (some ⟨pb, 0, none⟩), .int .i64 k] w fun e w' => e = .returned (.tuple #[]) ∧ RBad w' pb a c ts vs ln k (posR ts ln p) ∧ Chg [pb] w w' := by
  obtain ⟨hw, hle, hdp⟩ := h
  have x0 := hw.c0
  have x1 := hw.c1
  have x2 := hw.c2
  have x3 := hw.c3
  have x4 := hw.c4
  have xf := hw.free
  have p0 : (0 : Int) ≤ (p : Int) := by omega
  have hfew := hw.few
  have p1 : (p : Int) ≤ 100000 := by omega
  have l1 : (ts.length : Int) ≤ 100000 := by omega
  have HP := Lib.hid hw
  have HK := Lib.hid hk
  clear hw hk hfew
  by_cases hp : p < ts.length
  · have hd : decide (p < ts.length) = true := decide_eq_true hp
    have p2 : (p : Int) < (ts.length : Int) := by omega
    have p3 : 0 < ts.length := by omega
    obtain ⟨t, ht⟩ : ∃ t, ts[p]? = some t := ⟨_, List.getElem?_eq_getElem hp⟩
    have HR := Lib.hid (show posR ts ln p = t.pos from by unfold posR; rw [ht]; rfl)
    obtain ⟨g1, a3, n3, c3, rfl, y0, y1, y2, y3, hW, _⟩ := HP.out.toks.cell4 p t ht
    have hne : pb ≠ g1 := fun e => by
      obtain ⟨_, cap, hv, hle2, _⟩ := Row.shape HP.out.toks.row
      cases hv
      exact HP.out.out (.inr (.inl (by rw [e]; exact rowBlock_head g1 _ _ hle2 p3)))
    have y3b : ((w.setCell ⟨pb, 3, none⟩ (.int .i64 k)).setCell ⟨pb, 4, none⟩ (.int .i64 ln)).cell? ⟨g1, p * 4 + 3, none⟩ = some (.int .i64 t.pos) := (((Chg.refl [pb] w).setCell _ _ (.inl (by simp))).setCell _ _ (.inl (by simp))).cell y3 (by simp; exact fun e => hne e.symm)
    clear ht hW y0 y1 y2 y3 hp
    go_enter Tryd.func17, Tryd.ntmps17
    go_upto_region 3 with (fail)
    go_quiet (fail)
    all_goals
      go_upto_region 4 with (fail)
      go_region
      all_goals
        go_wp2
        first | refine bodyPost_ret (results_none rfl _ _ _) rfl ?_ | refine bodyPost_end (results_none rfl _ _ _) rfl ?_
        refine ⟨rfl, ⟨HK.out, (p : Int), (deep : Int), ?_⟩, ?_⟩
        · rw [HR.out]
          exact (((HP.out.setE k).setA ln).chg0 ((Chg.refl [] _).drewN (nq + 1))).setA t.pos
        · exact ((((Chg.refl [pb] w).setCell _ _ (.inl (by simp))).setCell _ _ (.inl (by simp))).drewN (nq + 1)).setCell _ _ (.inl (by simp))
  · have hd : decide (p < ts.length) = false := decide_eq_false hp
    have HR := Lib.hid (show posR ts ln p = ln from by unfold posR; rw [List.getElem?_eq_none (by omega)]; rfl)
    clear hp
    go_enter Tryd.func17, Tryd.ntmps17
    go_upto_region 3 with (fail)
    go_quiet (fail)
    all_goals
      go_wp2
      first | refine bodyPost_ret (results_none rfl _ _ _) rfl ?_ | refine bodyPost_end (results_none rfl _ _ _) rfl ?_
      refine ⟨rfl, ⟨HK.out, (p : Int), (deep : Int), ?_⟩, ?_⟩
      · rw [HR.out]
        exact ((HP.out.setE k).setA ln).chg0 ((Chg.refl [] _).drewN _)
      · exact (((Chg.refl [pb] w).setCell _ _ (.inl (by simp))).setCell _ _ (.inl (by simp))).drewN _

/-- what must be, of the document's. -/
def NeedPost (w : World) (pb : Nat) (a : Option Addr) (c : Nat) (ts : List Lx.Tok) (vs : List Value) (ln deep : Nat) (r : Ps.Res Unit) (e : Ending) (w' : World) : Prop :=
  e = .returned (.tuple #[]) ∧ Chg [pb] w w' ∧ match r with
  | .bad er q => RBad w' pb a c ts vs ln er (posR ts ln q)
  | .ok _ q => ROk w' pb a c ts vs ln q deep

set_option maxHeartbeats 4000000 in
set_option maxRecDepth 10000 in
theorem rneed_bad (pb : Nat) (a : Option Addr) (c : Nat) (ts : List Lx.Tok) (vs : List Value) (ln : Nat) (er at_ kind : Int) (x : List UInt8) (w : World) (h : RBad w pb a c ts vs ln er at_) :
    Calls Tryd.prog 70 #[.pointer (some ⟨pb, 0, none⟩), .int .i64 kind, .string (Lx.strB x)] w fun e w' => e = .returned (.tuple #[]) ∧ RBad w' pb a c ts vs ln er at_ ∧ Chg [] w w' := by
  have HP := Lib.hid h
  have H1 := Lib.hid (ris_bad pb a c ts vs ln er at_ kind x w h)
  clear h
  go_enter Tryd.func70, Tryd.ntmps70
  go_wp2_with fail
  refine H1.out.mono ?_
  rintro e w1 ⟨rfl, n1, rfl⟩
  have HP1 := Lib.hid (HP.out.chg0 ((Chg.refl [] w).drewN n1))
  go_wp2_with fail
  refine (rfail_bad pb a c ts vs ln er at_ 10 _ HP1.out).mono ?_
  rintro e w2 ⟨rfl, rfl⟩
  go_wp2
  first | refine bodyPost_ret (results_none rfl _ _ _) rfl ?_ | refine bodyPost_end (results_none rfl _ _ _) rfl ?_
  exact ⟨rfl, HP1.out, (Chg.refl [] w).drewN n1⟩

set_option maxHeartbeats 4000000 in
set_option maxRecDepth 10000 in
theorem rneed_ok (pb : Nat) (a : Option Addr) (c : Nat) (ts : List Lx.Tok) (vs : List Value) (ln p deep : Nat) (kind : Int) (x : List UInt8) (hx : x ≠ []) (w : World) (h : ROk w pb a c ts vs ln p deep) :
    Calls Tryd.prog 70 #[.pointer (some ⟨pb, 0, none⟩), .int .i64 kind, .string (Lx.strB x)] w fun e w' => NeedPost w pb a c ts vs ln deep (Ps.wantP ts p kind x) e w' := by
  have HP := Lib.hid h
  have H1 := Lib.hid (ris_ok pb a c ts vs ln p deep kind x hx w h)
  have hfew := h.1.few
  clear h
  cases hb : Ps.isT ts p kind x with
  | true =>
    have hlt := isT_lt hb
    have hr := Lib.hid (show Ps.wantP ts p kind x = .ok () (p + 1) from by unfold Ps.wantP; rw [if_pos hb])
    rw [hb] at H1
    clear hb
    go_enter Tryd.func70, Tryd.ntmps70
    go_wp2_with fail
    refine H1.out.mono ?_
    rintro e w1 ⟨rfl, n1, rfl⟩
    have HP1 := Lib.hid (HP.out.drewN n1)
    have x1 := HP1.out.1.c1
    have f1 := HP1.out.1.free 1
    go_wp2
    first | refine bodyPost_ret (results_none rfl _ _ _) rfl ?_ | refine bodyPost_end (results_none rfl _ _ _) rfl ?_
    rw [hr.out]
    exact ⟨rfl, ((Chg.refl _ _).drewN n1).trans (Chg.setP _ _ _ _) (fun k hk => .inl hk), HP1.out.setAt _ (by go_num) (by omega)⟩
  | false =>
    have hr := Lib.hid (show Ps.wantP ts p kind x = .bad 10 p from by unfold Ps.wantP; rw [if_neg (by rw [hb]; decide)])
    rw [hb] at H1
    clear hb
    go_enter Tryd.func70, Tryd.ntmps70
    go_wp2_with fail
    refine H1.out.mono ?_
    rintro e w1 ⟨rfl, n1, rfl⟩
    have HP1 := Lib.hid (HP.out.drewN n1)
    go_wp2_with fail
    refine (rfail_ok pb a c ts vs ln p deep 10 (by decide) _ HP1.out).mono ?_
    rintro e w2 ⟨rfl, P2, C2⟩
    go_wp2
    first | refine bodyPost_ret (results_none rfl _ _ _) rfl ?_ | refine bodyPost_end (results_none rfl _ _ _) rfl ?_
    rw [hr.out]
    exact ⟨rfl, ((Chg.refl _ _).drewN n1).trans C2 (fun k hk => .inl hk), P2⟩

/-- an end's text is one sign. -/
theorem isT_semi {ts : List Lx.Tok} (hg : ∀ t ∈ ts, GoodR t) (q : Nat) : Ps.isT ts q 3 [59] = Ps.isT ts q 3 [] := by
  cases ht : ts[q]? with
  | none => unfold Ps.isT; rw [ht]
  | some t =>
    rw [isT_some ht, isT_some ht]
    by_cases hk : t.kind = 3
    · rw [(hg t (List.mem_of_getElem? ht)).2.1 hk]
      rfl
    · have : (t.kind == 3) = false := by rw [beq_eq_false_iff_ne]; exact hk
      rw [this]
      rfl

set_option maxHeartbeats 4000000 in
set_option maxRecDepth 10000 in
theorem rends_ok (pb : Nat) (a : Option Addr) (c : Nat) (ts : List Lx.Tok) (vs : List Value) (ln p deep : Nat) (w : World) (h : ROk w pb a c ts vs ln p deep) :
    Calls Tryd.prog 34 #[.pointer (some ⟨pb, 0, none⟩)] w fun e w' => e = .returned (.int .i64 ((Ps.endsP ts p - p : Nat) : Int)) ∧ ROk w' pb a c ts vs ln (Ps.endsP ts p) deep ∧ Chg [pb] w w' := by
  have hfew := h.1.few
  have hgd := Lib.hid h.1.good
  have HP := Lib.hid h
  clear h
  go_enter Tryd.func34, Tryd.ntmps34
  go_wp2_with fail
  go_loopg [3] (ts.length + 1) (fun g c3 wr => ∃ q : Nat, ts.length < q + g ∧ p ≤ q ∧ c3 = .int .i64 ((q - p : Nat) : Int) ∧ ROk wr pb a c ts vs ln q deep ∧ Hid (Ps.endsP ts q = Ps.endsP ts p) ∧ Chg [pb] w wr)
  case atStart => exact ⟨p, by omega, Nat.le_refl _, by rw [Nat.sub_self]; rfl, HP.out, Lib.hid rfl, Chg.refl _ _⟩
  case round =>
    obtain ⟨q, hg, hpq, rfl, hP, hE, hC⟩ := hrel
    have hle := hP.2.1
    have HQ := Lib.hid hP
    have HC := Lib.hid hC
    have H1 := Lib.hid (ris_ok pb a c ts vs ln q deep 3 [59] (by decide) wr hP)
    rw [isT_semi hgd.out] at H1
    clear hP hC HP
    cases hb : Ps.isT ts q 3 [] with
    | true =>
      have hlt := isT_lt hb
      have hr := Lib.hid (hE.out.symm.trans (endsP_next hb))
      rw [hb] at H1
      clear hb hE
      cases gk with
      | zero => omega
      | succ g =>
        have HG := Lib.hid hg
        clear hg
        obtain ⟨d, hd⟩ : ∃ d, q - p = d := ⟨_, rfl⟩
        have HD := Lib.hid hd
        have d1 : (d : Int) ≤ 100000 := by omega
        have d0 : (0 : Int) ≤ (d : Int) := by omega
        rw [hd]
        clear hd
        go_wp2_with fail
        refine H1.out.mono ?_
        rintro e w1 ⟨rfl, n1, rfl⟩
        have HP1 := Lib.hid (HQ.out.drewN n1)
        have x1 := HP1.out.1.c1
        have f1 := HP1.out.1.free 1
        go_wp2
        go_roundg g
        case measure => omega
        case rel => exact ⟨q + 1, by have := HG.out; omega, by omega, by rw [show q + 1 - p = d + 1 from by have := HD.out; omega]; go_num, HP1.out.setAt _ (by go_num) (by omega), Lib.hid hr.out.symm, (HC.out.drewN n1).trans (Chg.setP _ _ _ _) (fun k hk => .inl hk)⟩
    | false =>
      have hr := Lib.hid (hE.out.symm.trans (endsP_here hb))
      rw [hb] at H1
      clear hb hE hg
      go_wp2_with fail
      refine H1.out.mono ?_
      rintro e w1 ⟨rfl, n1, rfl⟩
      have HP1 := Lib.hid (HQ.out.drewN n1)
      go_wp2
      go_ret
      rw [hr.out]
      exact ⟨rfl, HP1.out, HC.out.drewN n1⟩

end Go.Proofs.YtfgbbmnmblchiaaDoor

namespace Go.Proofs.YtfgbbmnmblchiaaDoor
open Go.RowKit
set_option linter.unusedVariables false

set_option maxHeartbeats 4000000 in
set_option maxRecDepth 10000 in
theorem rends_bad (pb : Nat) (a : Option Addr) (c : Nat) (ts : List Lx.Tok) (vs : List Value) (ln : Nat) (er at_ : Int) (w : World) (h : RBad w pb a c ts vs ln er at_) :
    Calls Tryd.prog 34 #[.pointer (some ⟨pb, 0, none⟩)] w fun e w' => e = .returned (.int .i64 0) ∧ RBad w' pb a c ts vs ln er at_ ∧ Chg [] w w' := by
  have HP := Lib.hid h
  have H1 := Lib.hid (fun W (h : RBad W pb a c ts vs ln er at_) => ris_bad pb a c ts vs ln er at_ 3 [59] W h)
  clear h
  go_enter Tryd.func34, Tryd.ntmps34
  go_wp2_with fail
  go_loopg [3] 1 (fun g c3 wr => c3 = .int .i64 0 ∧ wr = w)
  case atStart => exact ⟨rfl, rfl⟩
  case round =>
    obtain ⟨rfl, rfl⟩ := hrel
    go_wp2_with fail
    refine (H1.out _ HP.out).mono ?_
    rintro e w1 ⟨rfl, n1, rfl⟩
    go_wp2
    go_ret
    exact ⟨rfl, HP.out.chg0 ((Chg.refl [] _).drewN n1), (Chg.refl [] _).drewN n1⟩

set_option maxHeartbeats 4000000 in
set_option maxRecDepth 10000 in
theorem rdown_ok (pb : Nat) (a : Option Addr) (c : Nat) (ts : List Lx.Tok) (vs : List Value) (ln p deep : Nat) (w : World) (h : ROk w pb a c ts vs ln p deep) (hp : p < ts.length) :
    Calls Tryd.prog 69 #[.pointer (some ⟨pb, 0, none⟩)] w fun e w' => e = .returned (.tuple #[]) ∧ Chg [pb] w w' ∧ (if deep = 16 then RBad w' pb a c ts vs ln 12 (posR ts ln p) else ROk w' pb a c ts vs ln (p + 1) (deep + 1)) := by
  have HP := Lib.hid h
  have x5 := h.1.c5
  have x1 := h.1.c1
  have xf := h.1.free
  have hfew := h.1.few
  have hdp := h.2.2
  have HLT := Lib.hid hp
  clear h
  by_cases hd : deep = 16
  · subst hd
    go_enter Tryd.func69, Tryd.ntmps69
    go_wp2_with fail
    refine (rfail_ok pb a c ts vs ln p 16 12 (by decide) _ HP.out).mono ?_
    rintro e w2 ⟨rfl, P2, C2⟩
    go_wp2
    first | refine bodyPost_ret (results_none rfl _ _ _) rfl ?_ | refine bodyPost_end (results_none rfl _ _ _) rfl ?_
    exact ⟨rfl, C2, by first | exact P2 | (rw [if_pos rfl]; exact P2)⟩
  · have hd2 : decide ((16 : Int) ≤ (deep : Int)) = false := decide_eq_false (by omega)
    have d0 : (0 : Int) ≤ (deep : Int) := by omega
    have d1 : (deep : Int) ≤ 15 := by omega
    have p1 : (p : Int) ≤ 100000 := by omega
    have HD := Lib.hid hd
    clear hd hp
    go_enter Tryd.func69, Tryd.ntmps69
    go_wp2
    first | refine bodyPost_ret (results_none rfl _ _ _) rfl ?_ | refine bodyPost_end (results_none rfl _ _ _) rfl ?_
    refine ⟨rfl, ((Chg.refl [pb] w).setCell _ _ (.inl (by simp))).setCell _ _ (.inl (by simp)), ?_⟩
    first | rw [if_neg HD.out] | skip
    refine ⟨?_, HLT.out, by have := HD.out; omega⟩
    exact (HP.out.1.setD ((deep : Int) + 1)).setP ((p : Int) + 1)

/-- does a list stop here? -/
def stopsP (ts : List Lx.Tok) (p : Nat) : Bool := match ts[p]? with | none => false | some _ => Ps.closing ts p
theorem stops_word {ts : List Lx.Tok} {p : Nat} {x : List UInt8} (hx : x ∈ Ps.closers) (h0 : x ≠ []) (h : Ps.isT ts p 1 x = true) : stopsP ts p = true := by
  unfold stopsP
  cases ht : ts[p]? with
  | none => unfold Ps.isT at h; rw [ht] at h; cases h
  | some t =>
    rw [isT_some ht] at h
    show Ps.closing ts p = true
    rw [closing_some ht]
    have hxe : x.isEmpty = false := by simpa using h0
    rw [hxe] at h
    simp only [Bool.false_or, Bool.and_eq_true, beq_iff_eq] at h
    rw [h.1, h.2]
    have : Ps.closers.contains x = true := List.contains_iff_mem.2 hx
    rw [this]
    rfl
theorem stops_end {ts : List Lx.Tok} {p : Nat} (h : ∀ x ∈ Ps.closers, Ps.isT ts p 1 x = false) : stopsP ts p = Ps.isT ts p 2 [41] := by
  unfold stopsP
  cases ht : ts[p]? with
  | none => unfold Ps.isT; rw [ht]
  | some t =>
    show Ps.closing ts p = _
    rw [closing_some ht, isT_some ht]
    cases hc : (t.kind == 1 && Ps.closers.contains t.text) with
    | false => simp
    | true =>
      exfalso
      simp only [Bool.and_eq_true, beq_iff_eq] at hc
      have hm := List.contains_iff_mem.1 hc.2
      have := h _ hm
      rw [isT_some ht, hc.1] at this
      simp at this


theorem closer_at (w : World) (j : Nat) (hj : j < 5) : ∃ x, Ps.closers[j]? = some x ∧ x ≠ [] ∧ (w.alloc (.cells closersA 9)).cell? ⟨w.heap.size, j, none⟩ = some (.string (Lx.strB x)) := by
  have h := fun u (hu : closersA[j]? = some u) => cell_of_obj (obj_alloc_new w (.cells closersA 9)) hu
  rcases (show j = 0 ∨ j = 1 ∨ j = 2 ∨ j = 3 ∨ j = 4 from by omega) with rfl | rfl | rfl | rfl | rfl
  · exact ⟨_, rfl, by decide, h _ rfl⟩
  · exact ⟨_, rfl, by decide, h _ rfl⟩
  · exact ⟨_, rfl, by decide, h _ rfl⟩
  · exact ⟨_, rfl, by decide, h _ rfl⟩
  · exact ⟨_, rfl, by decide, h _ rfl⟩

set_option maxHeartbeats 4000000 in
set_option maxRecDepth 10000 in
theorem rstops_ok (pb : Nat) (a : Option Addr) (c : Nat) (ts : List Lx.Tok) (vs : List Value) (ln p deep : Nat) (w : World) (h : ROk w pb a c ts vs ln p deep) :
    Calls Tryd.prog 35 #[.pointer (some ⟨pb, 0, none⟩)] w fun e w' => e = .returned (.bool (stopsP ts p)) ∧ Chg [] w w' := by
  have HP := Lib.hid h
  clear h
  go_enter Tryd.func35, Tryd.ntmps35
  go_upto_region 2 with (fail)
  have HCL := Lib.hid (fun j hj => closer_at w j hj)
  have HA := Lib.hid (show Chg [] w (w.alloc (.cells closersA 9)) from (Chg.refl [] w).alloc _)
  unfold closersA at HCL HA
  generalize w.alloc (.cells #[.string ⟨#[116, 104, 101, 110]⟩, .string ⟨#[101, 108, 115, 101]⟩, .string ⟨#[102, 105]⟩, .string ⟨#[100, 111]⟩, .string ⟨#[100, 111, 110, 101]⟩] 9) = w1 at *
  generalize w.heap.size = lb at *
  go_wp2_with fail
  go_loopg [4] 6 (fun g c4 wr => ∃ j : Nat, 5 < j + g ∧ j ≤ 5 ∧ c4 = .int .i64 j ∧ Hid (∀ i x, i < j → Ps.closers[i]? = some x → Ps.isT ts p 1 x = false) ∧ Hid (Chg [] w1 wr))
  case atStart => exact ⟨0, by omega, by omega, rfl, Lib.hid (fun i x hi => absurd hi (Nat.not_lt_zero i)), Lib.hid (Chg.refl [] w1)⟩
  case round =>
    obtain ⟨j, hg, hj, rfl, HF, HC⟩ := hrel
    have j0 : (0 : Int) ≤ (j : Int) := by omega
    have HP2 := Lib.hid (HP.out.chg0 (HA.out.then0 HC.out))
    by_cases hlt : j < 5
    · cases gk with
      | zero => omega
      | succ g =>
        have hd : decide (j < 5) = true := decide_eq_true hlt
        have j5 : (j : Int) < 5 := by omega
        obtain ⟨x, hx, hxn, hxc⟩ := HCL.out j hlt
        have y := HC.out.cell hxc (by simp)
        have HX := Lib.hid hx
        have HXN := Lib.hid hxn
        have H1 := Lib.hid (ris_ok pb a c ts vs ln p deep 1 x hxn wr HP2.out)
        have HG := Lib.hid hg
        clear hx hxn hxc hg
        cases hb : Ps.isT ts p 1 x with
        | true =>
          have hr := Lib.hid (stops_word (List.mem_of_getElem? HX.out) HXN.out hb)
          rw [hb] at H1
          clear hb
          go_wp2_with fail
          refine H1.out.mono ?_
          rintro e w2 ⟨rfl, n1, rfl⟩
          go_wp2
          go_ret
          exact ⟨ret_b hr.out.symm, (HA.out.then0 HC.out).drewN n1⟩
        | false =>
          have HB := Lib.hid hb
          rw [hb] at H1
          clear hb
          go_wp2_with fail
          refine H1.out.mono ?_
          rintro e w2 ⟨rfl, n1, rfl⟩
          go_wp2
          go_roundg g
          case measure => omega
          case rel => exact ⟨j + 1, by have := HG.out; omega, by omega, by go_num, Lib.hid (fun i u hi hu => by
              by_cases e : i = j
              · subst e
                have := HX.out
                rw [hu] at this
                cases this
                exact HB.out
              · exact HF.out i u (by omega) hu), Lib.hid (HC.out.drewN n1)⟩
    · obtain rfl : j = 5 := by omega
      have H1 := Lib.hid (ris_ok pb a c ts vs ln p deep 2 [41] (by decide) wr HP2.out)
      have hr := Lib.hid (stops_end (ts := ts) (p := p) (fun x hx => by
        obtain ⟨i, hi⟩ := List.mem_iff_getElem?.1 hx
        exact HF.out i x (by have := (List.getElem?_eq_some_iff.1 hi).1; exact this) hi))
      clear hg hj hlt
      go_wp2_with fail
      refine H1.out.mono ?_
      rintro e w2 ⟨rfl, n1, rfl⟩
      go_wp2
      go_ret
      exact ⟨ret_b hr.out.symm, (HA.out.then0 HC.out).drewN n1⟩

set_option maxHeartbeats 4000000 in
set_option maxRecDepth 10000 in
theorem rstops_bad (pb : Nat) (a : Option Addr) (c : Nat) (ts : List Lx.Tok) (vs : List Value) (ln : Nat) (er at_ : Int) (w : World) (h : RBad w pb a c ts vs ln er at_) :
    Calls Tryd.prog 35 #[.pointer (some ⟨pb, 0, none⟩)] w fun e w' => e = .returned (.bool false) ∧ RBad w' pb a c ts vs ln er at_ ∧ Chg [] w w' := by
  have HP := Lib.hid h
  clear h
  go_enter Tryd.func35, Tryd.ntmps35
  go_upto_region 2 with (fail)
  have HCL := Lib.hid (fun j hj => closer_at w j hj)
  have HA := Lib.hid (show Chg [] w (w.alloc (.cells closersA 9)) from (Chg.refl [] w).alloc _)
  unfold closersA at HCL HA
  generalize w.alloc (.cells #[.string ⟨#[116, 104, 101, 110]⟩, .string ⟨#[101, 108, 115, 101]⟩, .string ⟨#[102, 105]⟩, .string ⟨#[100, 111]⟩, .string ⟨#[100, 111, 110, 101]⟩] 9) = w1 at *
  generalize w.heap.size = lb at *
  go_wp2_with fail
  go_loopg [4] 6 (fun g c4 wr => ∃ j : Nat, 5 < j + g ∧ j ≤ 5 ∧ c4 = .int .i64 j ∧ Hid (Chg [] w1 wr))
  case atStart => exact ⟨0, by omega, by omega, rfl, Lib.hid (Chg.refl [] w1)⟩
  case round =>
    obtain ⟨j, hg, hj, rfl, HC⟩ := hrel
    have j0 : (0 : Int) ≤ (j : Int) := by omega
    have HP2 := Lib.hid (HP.out.chg0 (HA.out.then0 HC.out))
    by_cases hlt : j < 5
    · cases gk with
      | zero => omega
      | succ g =>
        have hd : decide (j < 5) = true := decide_eq_true hlt
        have j5 : (j : Int) < 5 := by omega
        obtain ⟨x, hx, hxn, hxc⟩ := HCL.out j hlt
        have y := HC.out.cell hxc (by simp)
        have H1 := Lib.hid (ris_bad pb a c ts vs ln er at_ 1 x wr HP2.out)
        have HG := Lib.hid hg
        clear hx hxn hxc hg
        go_wp2_with fail
        refine H1.out.mono ?_
        rintro e w2 ⟨rfl, n1, rfl⟩
        go_wp2
        go_roundg g
        case measure => omega
        case rel => exact ⟨j + 1, by have := HG.out; omega, by omega, by go_num, Lib.hid (HC.out.drewN n1)⟩
    · obtain rfl : j = 5 := by omega
      have H1 := Lib.hid (ris_bad pb a c ts vs ln er at_ 2 [41] wr HP2.out)
      clear hg hj hlt
      go_wp2_with fail
      refine H1.out.mono ?_
      rintro e w2 ⟨rfl, n1, rfl⟩
      go_wp2
      go_ret
      exact ⟨rfl, HP2.out.chg0 ((Chg.refl [] _).drewN n1), (HA.out.then0 HC.out).drewN n1⟩

/-- the redirection that stands at a place: 0: none. -/
def redAt (ts : List Lx.Tok) (p : Nat) : Int := match ts[p]? with | none => 0 | some t => if t.kind = 2 then Ps.redK t.text else 0

end Go.Proofs.YtfgbbmnmblchiaaDoor

namespace Go.Proofs.YtfgbbmnmblchiaaDoor
open Go.RowKit
set_option linter.unusedVariables false

def signsR : List (List UInt8) := [[60], [62], [62, 62]]
def signsA : Array Value := #[.string ⟨#[60]⟩, .string ⟨#[62]⟩, .string ⟨#[62, 62]⟩]

theorem sign_at (w : World) (j : Nat) (hj : j < 3) : ∃ x, signsR[j]? = some x ∧ x ≠ [] ∧ (w.alloc (.cells signsA 9)).cell? ⟨w.heap.size, j, none⟩ = some (.string (Lx.strB x)) := by
  have h := fun u (hu : signsA[j]? = some u) => cell_of_obj (obj_alloc_new w (.cells signsA 9)) hu
  rcases (show j = 0 ∨ j = 1 ∨ j = 2 from by omega) with rfl | rfl | rfl
  · exact ⟨_, rfl, by decide, h _ rfl⟩
  · exact ⟨_, rfl, by decide, h _ rfl⟩
  · exact ⟨_, rfl, by decide, h _ rfl⟩

theorem red_hit {ts : List Lx.Tok} {p j : Nat} {x : List UInt8} (hx : signsR[j]? = some x) (h : Ps.isT ts p 2 x = true) : redAt ts p = ((j + 1 : Nat) : Int) := by
  have hlt := isT_lt h
  have ht : ts[p]? = some ts[p] := List.getElem?_eq_getElem hlt
  rw [isT_some ht] at h
  have hj : j < 3 := (List.getElem?_eq_some_iff.1 hx).1
  unfold redAt
  rw [ht]
  show (if _ then _ else _) = _
  rcases (show j = 0 ∨ j = 1 ∨ j = 2 from by omega) with rfl | rfl | rfl
  all_goals
    cases hx
    simp at h
    rw [if_pos h.1, h.2]
    rfl
theorem red_miss {ts : List Lx.Tok} {p : Nat} (h : ∀ i x, i < 3 → signsR[i]? = some x → Ps.isT ts p 2 x = false) : redAt ts p = 0 := by
  unfold redAt
  cases ht : ts[p]? with
  | none => rfl
  | some t =>
    show (if _ then _ else _) = _
    by_cases hk : t.kind = 2
    · rw [if_pos hk]
      have h0 := h 0 _ (by omega) rfl
      have h1 := h 1 _ (by omega) rfl
      have h2 := h 2 _ (by omega) rfl
      rw [isT_some ht, hk] at h0 h1 h2
      simp at h0 h1 h2
      unfold Ps.redK
      rw [if_neg h0, if_neg h1, if_neg h2]
    · rw [if_neg hk]

set_option maxHeartbeats 4000000 in
set_option maxRecDepth 10000 in
theorem rred_ok (pb : Nat) (a : Option Addr) (c : Nat) (ts : List Lx.Tok) (vs : List Value) (ln p deep : Nat) (w : World) (h : ROk w pb a c ts vs ln p deep) :
    Calls Tryd.prog 86 #[.pointer (some ⟨pb, 0, none⟩)] w fun e w' => e = .returned (.int .i64 (redAt ts p)) ∧ Chg [] w w' := by
  have HP := Lib.hid h
  clear h
  go_enter Tryd.func86, Tryd.ntmps86
  go_upto_region 2 with (fail)
  have HCL := Lib.hid (fun j hj => sign_at w j hj)
  have HA := Lib.hid (show Chg [] w (w.alloc (.cells signsA 9)) from (Chg.refl [] w).alloc _)
  unfold signsA at HCL HA
  generalize w.alloc (.cells #[.string ⟨#[60]⟩, .string ⟨#[62]⟩, .string ⟨#[62, 62]⟩] 9) = w1 at *
  generalize w.heap.size = lb at *
  go_wp2_with fail
  go_loopg [4] 4 (fun g c4 wr => ∃ j : Nat, 3 < j + g ∧ j ≤ 3 ∧ c4 = .int .i64 j ∧ Hid (∀ i x, i < j → signsR[i]? = some x → Ps.isT ts p 2 x = false) ∧ Hid (Chg [] w1 wr))
  case atStart => exact ⟨0, by omega, by omega, rfl, Lib.hid (fun i x hi => absurd hi (Nat.not_lt_zero i)), Lib.hid (Chg.refl [] w1)⟩
  case round =>
    obtain ⟨j, hg, hj, rfl, HF, HC⟩ := hrel
    have j0 : (0 : Int) ≤ (j : Int) := by omega
    have HP2 := Lib.hid (HP.out.chg0 (HA.out.then0 HC.out))
    by_cases hlt : j < 3
    · cases gk with
      | zero => omega
      | succ g =>
        have hd : decide (j < 3) = true := decide_eq_true hlt
        have j5 : (j : Int) < 3 := by omega
        obtain ⟨x, hx, hxn, hxc⟩ := HCL.out j hlt
        have y := HC.out.cell hxc (by simp)
        have HX := Lib.hid hx
        have H1 := Lib.hid (ris_ok pb a c ts vs ln p deep 2 x hxn wr HP2.out)
        have HG := Lib.hid hg
        clear hx hxn hxc hg
        cases hb : Ps.isT ts p 2 x with
        | true =>
          have hr := Lib.hid (red_hit HX.out hb)
          rw [hb] at H1
          clear hb
          go_wp2_with fail
          refine H1.out.mono ?_
          rintro e w2 ⟨rfl, n1, rfl⟩
          go_wp2
          go_ret
          exact ⟨ret_i64 (by rw [hr.out]; simp), (HA.out.then0 HC.out).drewN n1⟩
        | false =>
          have HB := Lib.hid hb
          rw [hb] at H1
          clear hb
          go_wp2_with fail
          refine H1.out.mono ?_
          rintro e w2 ⟨rfl, n1, rfl⟩
          go_wp2
          go_roundg g
          case measure => omega
          case rel => exact ⟨j + 1, by have := HG.out; omega, by omega, by go_num, Lib.hid (fun i u hi hu => by
              by_cases e : i = j
              · subst e
                have := HX.out
                rw [hu] at this
                cases this
                exact HB.out
              · exact HF.out i u (by omega) hu), Lib.hid (HC.out.drewN n1)⟩
    · obtain rfl : j = 3 := by omega
      have hr := Lib.hid (red_miss (ts := ts) (p := p) (fun i x hi hx => HF.out i x hi hx))
      clear hg hj hlt
      go_wp2
      go_ret
      exact ⟨ret_i64 hr.out.symm, HA.out.then0 HC.out⟩

end Go.Proofs.YtfgbbmnmblchiaaDoor

namespace Go.Proofs.YtfgbbmnmblchiaaDoor
open Go.RowKit
set_option linter.unusedVariables false

def KindR (t : Lx.Tok) : Prop := (t.kind = 3 → t.text = [59]) ∧ (t.text = [40] → t.kind = 2) ∧ (t.text = Ps.kwIf ∨ t.text = Ps.kwWhile ∨ t.text = Ps.kwFor → t.kind = 1) ∧ FirstK t

/-- pieces that begin with a text. -/
def HeadK (l : List Lx.Part) : Prop := ∃ p r, l = p :: r ∧ p.kind = 1
theorem HeadK.add {l : List Lx.Part} (h : HeadK l) (q : Int) (t : List UInt8) : HeadK (Lx.addP l q t) := by
  obtain ⟨p, r, rfl, hk⟩ := h
  rcases List.eq_nil_or_concat r with rfl | ⟨r', x, rfl⟩
  · have := addP_last [] p q t
    rw [List.nil_append] at this
    rw [this]
    split
    · exact ⟨_, [], rfl, hk⟩
    · split
      · exact ⟨p, [], rfl, hk⟩
      · exact ⟨p, _, rfl, hk⟩
  · have := addP_last (p :: r') x q t
    rw [List.concat_eq_append, ← List.cons_append, this]
    split
    · exact ⟨p, _, rfl, hk⟩
    · split
      · exact ⟨p, _, rfl, hk⟩
      · exact ⟨p, _, rfl, hk⟩
theorem HeadK.var {l l' : List Lx.Part} (h : HeadK l) {q : Int} {r : List UInt8} {n : Nat} (hv : Lx.varP l q r = some (l', n)) : HeadK l' := by
  unfold Lx.varP at hv
  split at hv
  · cases hv
  · cases hv
    split
    · exact h.add _ _
    · exact h.add _ _
theorem HeadK.quot (q : Nat) : ∀ (f : Nat) (r : List UInt8) (p : Nat) (l l' : List Lx.Part) (p' : Nat), HeadK l → Lx.quotP q f r p l = .ok (l', p') → HeadK l'
  | 0, _, _, _, _, _, _, h => by simp [Lx.quotP] at h
  | f + 1, [], _, _, _, _, _, h => by simp [Lx.quotP] at h
  | f + 1, b :: t, p, l, l', p', hb, h => by
    rw [quotP_cons] at h
    split at h
    · cases h; exact hb
    · split at h
      · split at h
        · cases h
        · rename_i hv
          exact HeadK.quot q f _ _ _ _ _ (hb.var hv) h
      · split at h
        · exact HeadK.quot q f _ _ _ _ _ (hb.add _ _) h
        · exact HeadK.quot q f _ _ _ _ _ (hb.add _ _) h
theorem HeadK.word : ∀ (f : Nat) (r : List UInt8) (p : Nat) (l l' : List Lx.Part) (p' : Nat), HeadK l → Lx.wordP f r p l = .ok (l', p') → HeadK l'
  | 0, _, _, _, _, _, hb, h => by cases h; exact hb
  | f + 1, [], _, _, _, _, hb, h => by cases h; exact hb
  | f + 1, c :: t, p, l, l', p', hb, h => by
    rw [wordP_cons] at h
    split at h
    · cases h; exact hb
    · split at h
      · split at h
        · cases h
        · exact HeadK.word f _ _ _ _ _ (hb.add _ _) h
      · split at h
        · split at h
          · cases h
          · rename_i hq
            exact HeadK.word f _ _ _ _ _ (HeadK.quot _ _ _ _ _ _ _ hb hq) h
        · split at h
          · split at h
            · cases h
            · rename_i hv
              exact HeadK.word f _ _ _ _ _ (hb.var hv) h
          · split at h
            · split at h
              · cases h
              · refine HeadK.word f _ _ _ _ _ ?_ h
                split
                · exact hb
                · exact hb.add _ _
            · exact HeadK.word f _ _ _ _ _ (hb.add _ _) h
theorem word_headK {r : List UInt8} {p : Nat} {l : List Lx.Part} {p' : Nat} (h : Lx.wordP (r.length + 1) r p [] = .ok (l, p')) (n k : Nat) (hi : Lx.idx 61 (r.take n) = some k) (hn : Lx.isName ((r.take n).take k) = true) : HeadK l := by
  have hk := idx_lt _ _ _ hi
  rw [List.length_take] at hk
  have ha := idx_at _ _ _ hi
  have hlat := isName_later hn
  have hw := wordP_plain (k + 1) (r.length - k) r p [] (by omega) (fun j hj => by
    by_cases hjk : j = k
    · subst hjk
      rw [List.getElem?_take] at ha
      split at ha
      · rw [List.getD_eq_getElem?_getD, ha]
        decide
      · cases ha
    · refine later_spec _ (hlat _ ?_)
      rw [List.take_take, List.getD_eq_getElem?_getD]
      have hj2 : j < r.length := by omega
      rw [List.getElem?_eq_getElem hj2]
      refine List.mem_take_iff_getElem.2 ⟨j, by omega, rfl⟩)
  rw [show r.length - k + (k + 1) = r.length + 1 from by omega] at hw
  rw [hw] at h
  refine HeadK.word _ _ _ _ _ _ ?_ h
  unfold addRun
  rw [if_neg (fun e => by have := congrArg List.length e; rw [List.length_take, List.length_nil] at this; omega)]
  unfold Lx.addP
  simp only [List.getLast?_nil]
  rw [if_neg (fun e => by have := congrArg List.length e.2; rw [List.length_take, List.length_nil] at this; omega)]
  exact ⟨_, [], rfl, rfl⟩

theorem sign_in (r : List UInt8) (h : Lx.signOf r ≠ []) : Lx.signOf r ∈ Lx.signs := by
  unfold Lx.signOf at h ⊢
  cases hf : Lx.signs.find? (fun x => x.isPrefixOf r) with
  | none => rw [hf] at h; exact absurd rfl h
  | some x => exact List.mem_of_find?_eq_some hf

theorem kind_sign (x : List UInt8) (h : x ∈ Lx.signs) (p : Nat) : KindR ⟨2, x, [], p⟩ := by
  refine ⟨fun h => absurd h (show ¬ (2 : Int) = 3 by decide), fun _ => rfl, fun h2 => ?_, fun h => absurd h (show ¬ (2 : Int) = 1 by decide)⟩
  exfalso
  simp only [Lx.signs, List.mem_cons, List.not_mem_nil, or_false] at h
  have h2' : x = Ps.kwIf ∨ x = Ps.kwWhile ∨ x = Ps.kwFor := h2
  rcases h with rfl | rfl | rfl | rfl | rfl | rfl | rfl | rfl <;> exact absurd h2' (by decide)

theorem tokP_kind : ∀ (f : Nat) (r : List UInt8) (p : Nat) (acc ts : List Lx.Tok), (∀ t ∈ acc, KindR t) → Lx.tokP f r p acc = .ok ts → ∀ t ∈ ts, KindR t
  | 0, _, _, _, _, ha, h => by cases h; exact ha
  | f + 1, [], _, _, _, ha, h => by cases h; exact ha
  | f + 1, c :: t, p, acc, ts, ha, h => by
    have snoc : ∀ x : Lx.Tok, KindR x → ∀ y ∈ acc ++ [x], KindR y := by
      intro x hx y hy
      rcases List.mem_append.1 hy with hy | hy
      · exact ha y hy
      · simp at hy; subst hy; exact hx
    rw [tokP_cons] at h
    split at h
    · exact tokP_kind f _ _ _ _ ha h
    · split at h
      · exact tokP_kind f _ _ _ _ ha h
      · split at h
        · exact tokP_kind f _ _ _ _ (snoc _ ⟨fun _ => rfl, fun h => absurd h (show ¬ ([59] : List UInt8) = [40] by decide), fun h => absurd h (show ¬ (([59] : List UInt8) = Ps.kwIf ∨ ([59] : List UInt8) = Ps.kwWhile ∨ ([59] : List UInt8) = Ps.kwFor) by decide), fun h => absurd h (show ¬ (3 : Int) = 1 by decide)⟩) h
        · split at h
          · rename_i hsg
            exact tokP_kind f _ _ _ _ (snoc _ (kind_sign _ (sign_in _ hsg) p)) h
          · split at h
            · cases h
            · rename_i n1 n2 n3 n4 n5
              split at h
              · cases h
              · rename_i l' p' hw
                have hs : Lx.signOf (c :: t) = [] := by simpa using n4
                refine tokP_kind f _ _ _ _ (snoc ⟨1, (c :: t).take (p' - p), l', p⟩ ⟨fun h => absurd h (show ¬ (1 : Int) = 3 by decide), fun h2 => ?_, fun _ => rfl, fun _ k hi hn => word_headK hw _ k hi hn⟩) h
                exfalso
                have h3 : (c :: t).take (p' - p) = [40] := h2
                cases hn : p' - p with
                | zero => rw [hn] at h3; cases h3
                | succ n =>
                  rw [hn, List.take_succ_cons] at h3
                  injection h3 with h4 h5
                  subst h4
                  simp [Lx.signOf, Lx.signs] at hs

theorem tokens_okR {l : List UInt8} (hl : ¬ 2048 < l.length) {e : Int} {a : Nat} {ts : List Lx.Tok} (h : Lx.tokens l = (e, a, ts)) : (∀ t ∈ ts, GoodR t) ∧ ts.length ≤ 2048 := by
  obtain ⟨h1, h2⟩ := tokens_ok hl h
  refine ⟨fun t ht => ⟨h1 t ht, ?_⟩, h2⟩
  unfold Lx.tokens at h
  rw [if_neg hl] at h
  split at h
  · cases h; simp at ht
  · split at h
    · cases h; simp at ht
    · rename_i hr
      cases h
      exact tokP_kind _ _ _ _ _ (by simp) hr t ht

end Go.Proofs.YtfgbbmnmblchiaaDoor

namespace Go.Proofs.YtfgbbmnmblchiaaDoor
set_option linter.unusedVariables false

/-- the document's list. -/
def listQ (ts : List Lx.Tok) (cmd : Nat → Ps.Res Ps.Node) (some_ : Bool) (a : Nat) : Ps.Res Ps.Node :=
  match Ps.listP ts cmd some_ a with
  | .bad e b => .bad e b
  | .ok n b => if Ps.closing ts b = true then .ok n b else .bad 10 b

section
variable {ts : List Lx.Tok} {cmd : Nat → Ps.Res Ps.Node} {sm : Bool} {a b : Nat} {e : Int} {n : Ps.Node}
theorem listQ_bad (h : Ps.listP ts cmd sm a = .bad e b) : listQ ts cmd sm a = .bad e b := by unfold listQ; rw [h]
theorem listQ_ok (h : Ps.listP ts cmd sm a = .ok n b) (h2 : Ps.closing ts b = true) : listQ ts cmd sm a = .ok n b := by
  unfold listQ
  rw [h]
  exact if_pos h2
theorem listQ_no (h : Ps.listP ts cmd sm a = .ok n b) (h2 : Ps.closing ts b = false) : listQ ts cmd sm a = .bad 10 b := by
  unfold listQ
  rw [h]
  exact if_neg (by rw [h2]; decide)

/-- what must stand behind a list is a closer. -/
theorem close_sign (h : Ps.closing ts b = false) : Ps.isT ts b 2 [41] = false := by
  cases ht : ts[b]? with
  | none => unfold Ps.isT; rw [ht]
  | some t =>
    rw [closing_some ht] at h
    rw [isT_some ht]
    simp only [Bool.or_eq_false_iff] at h
    simpa using h.1
theorem close_word (h : Ps.closing ts b = false) (x : List UInt8) (hx : x ∈ Ps.closers) (h0 : x ≠ []) : Ps.isT ts b 1 x = false := by
  cases hb : Ps.isT ts b 1 x with
  | false => rfl
  | true =>
    have h2 := stops_word hx h0 hb
    have hlt := isT_lt hb
    unfold stopsP at h2
    rw [List.getElem?_eq_getElem hlt] at h2
    rw [show Ps.closing ts b = true from h2] at h
    cases h
theorem want_sign (h : Ps.closing ts b = false) : Ps.wantP ts b 2 [41] = .bad 10 b := by
  unfold Ps.wantP
  rw [if_neg (by rw [close_sign h]; decide)]
theorem want_word (h : Ps.closing ts b = false) (x : List UInt8) (hx : x ∈ Ps.closers) (h0 : x ≠ []) : Ps.wantP ts b 1 x = .bad 10 b := by
  unfold Ps.wantP
  rw [if_neg (by rw [close_word h x hx h0]; decide)]

/-- a group, with the document's list. -/
theorem groupQ_bad (h : listQ ts cmd true a = .bad e b) : Ps.groupP ts cmd a = .bad e b := by
  cases hl : Ps.listP ts cmd true a with
  | bad e' b' => rw [listQ_bad hl] at h; cases h; exact groupP_bad hl
  | ok n b' =>
    cases hc : Ps.closing ts b' with
    | true => rw [listQ_ok hl hc] at h; cases h
    | false => rw [listQ_no hl hc] at h; cases h; exact groupP_bad2 hl (want_sign hc)
theorem listQ_of (h : listQ ts cmd sm a = .ok n b) : Ps.listP ts cmd sm a = .ok n b ∧ Ps.closing ts b = true := by
  cases hl : Ps.listP ts cmd sm a with
  | bad e' b' => rw [listQ_bad hl] at h; cases h
  | ok n' b' =>
    cases hc : Ps.closing ts b' with
    | true => rw [listQ_ok hl hc] at h; cases h; exact ⟨rfl, hc⟩
    | false => rw [listQ_no hl hc] at h; cases h
/-- a list that is wrong for the document is wrong where a closer must be. -/
theorem listQ_wrong (h : listQ ts cmd sm a = .bad e b) : Ps.listP ts cmd sm a = .bad e b ∨ (e = 10 ∧ ∃ n, Ps.listP ts cmd sm a = .ok n b ∧ Ps.closing ts b = false) := by
  cases hl : Ps.listP ts cmd sm a with
  | bad e' b' => rw [listQ_bad hl] at h; cases h; exact .inl rfl
  | ok n' b' =>
    cases hc : Ps.closing ts b' with
    | true => rw [listQ_ok hl hc] at h; cases h
    | false => rw [listQ_no hl hc] at h; cases h; exact .inr ⟨rfl, n', rfl, hc⟩

theorem bodyQ_bad {q r : Nat} {u : Unit} (h : Ps.wantP ts a 1 Ps.kwDo = .ok u q) (h2 : listQ ts cmd true q = .bad e r) : Ps.bodyP ts cmd a = .bad e r := by
  rcases listQ_wrong h2 with h3 | ⟨rfl, n, h3, hc⟩
  · exact bodyP_bad2 h h3
  · exact bodyP_bad3 h h3 (want_word hc _ (by decide) (by decide))
theorem loopQ_bad (h : listQ ts cmd true a = .bad e b) : Ps.loopP ts cmd a = .bad e b := by
  rcases listQ_wrong h with h3 | ⟨rfl, n, h3, hc⟩
  · exact loopP_bad h3
  · exact loopP_bad2 h3 (bodyP_bad (want_word hc _ (by decide) (by decide)))
theorem branchQ_1 (h : listQ ts cmd true a = .bad e b) : Ps.branchP ts cmd a = .bad e b := by
  rcases listQ_wrong h with h3 | ⟨rfl, n, h3, hc⟩
  · exact branchP_1 h3
  · exact branchP_2 h3 (want_word hc _ (by decide) (by decide))
theorem branchQ_3 {x : Ps.Node} {u : Unit} {b c d : Nat} (h : Ps.listP ts cmd true a = .ok x b) (h2 : Ps.wantP ts b 1 Ps.kwThen = .ok u c) (h3 : listQ ts cmd true c = .bad e d) : Ps.branchP ts cmd a = .bad e d := by
  rcases listQ_wrong h3 with h4 | ⟨rfl, n, h4, hc⟩
  · exact branchP_3 h h2 h4
  · exact branchP_7 h h2 h4 (close_word hc _ (by decide) (by decide)) (want_word hc _ (by decide) (by decide))
theorem branchQ_4 {x y : Ps.Node} {u : Unit} {b c d f : Nat} (h : Ps.listP ts cmd true a = .ok x b) (h2 : Ps.wantP ts b 1 Ps.kwThen = .ok u c) (h3 : Ps.listP ts cmd true c = .ok y d) (h4 : Ps.isT ts d 1 Ps.kwElse = true) (h5 : listQ ts cmd true (d + 1) = .bad e f) : Ps.branchP ts cmd a = .bad e f := by
  rcases listQ_wrong h5 with h6 | ⟨rfl, n, h6, hc⟩
  · exact branchP_4 h h2 h3 h4 h6
  · exact branchP_5 h h2 h3 h4 h6 (want_word hc _ (by decide) (by decide))
end

end Go.Proofs.YtfgbbmnmblchiaaDoor
