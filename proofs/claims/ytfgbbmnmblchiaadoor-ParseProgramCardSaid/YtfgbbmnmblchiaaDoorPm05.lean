/-
  A list of chains: walked. (Printed by genlist.py.)
  A reading under way: the reader, the result's block; trees held meanwhile.
  A group; a loop's body: walked.
  A loop: walked.
-/
import Derived.Test.YtfgbbmnmblchiaaDoorChain
namespace Go.Proofs.YtfgbbmnmblchiaaDoor
open Go.RowKit
set_option linter.unusedVariables false

theorem chainL_mono {ts : List Lx.Tok} {cmd : Nat → Ps.Res Ps.Node} (hmv : Moves cmd) : ∀ (f p : Nat) (n m : Ps.Node) (b : Nat), p ≤ ts.length → Ps.chainL ts cmd f p n = .ok m b → p ≤ b
  | 0, p, n, m, b, _, h => by
    unfold Ps.chainL at h
    cases h
    exact Nat.le_refl _
  | f + 1, p, n, m, b, hp, h => by
    by_cases h0 : Ps.linkK ts p = 0
    · rw [chainL_end h0] at h
      cases h
      exact Nat.le_refl _
    · rw [chainL_more rfl h0] at h
      cases hc : Ps.pipeP ts cmd (Ps.endsP ts (p + 1)) with
      | bad e q => rw [hc] at h; cases h
      | ok k q =>
        rw [hc] at h
        have h1 := pipe_moves (ts := ts) hmv _ _ _ hc
        have hlt : p + 1 ≤ ts.length := by
          apply Decidable.byContradiction
          intro hn
          exact h0 (linkK_no (isT_none (by omega) _ _) (isT_none (by omega) _ _))
        have h2 := endsP_le hlt
        by_cases hq : q ≤ ts.length
        · have := chainL_mono hmv f q _ _ _ hq h
          omega
        · cases f with
          | zero =>
            replace h : Ps.chainL ts cmd 0 q (Ps.node (Ps.linkK ts p) [n, k]) = .ok m b := h
            unfold Ps.chainL at h
            cases h
            omega
          | succ f =>
            replace h : Ps.chainL ts cmd (f + 1) q (Ps.node (Ps.linkK ts p) [n, k]) = .ok m b := h
            rw [chainL_end (linkK_no (isT_none (by omega) _ _) (isT_none (by omega) _ _))] at h
            cases h
            omega
theorem chain_moves {ts : List Lx.Tok} {cmd : Nat → Ps.Res Ps.Node} (hmv : Moves cmd) {p : Nat} {n : Ps.Node} {q : Nat} (h : Ps.chainP ts cmd p = .ok n q) : p < q := by
  rw [chainP_eq] at h
  cases hl : Ps.pipeP ts cmd p with
  | bad e b => rw [hl] at h; cases h
  | ok k b =>
    rw [hl] at h
    have h1 := pipe_moves (ts := ts) hmv _ _ _ hl
    replace h : Ps.chainL ts cmd (ts.length + 1) b k = .ok n q := h
    by_cases hb : b ≤ ts.length
    · have := chainL_mono hmv _ _ _ _ _ hb h
      omega
    · rw [chainL_end (linkK_no (isT_none (by omega) _ _) (isT_none (by omega) _ _))] at h
      cases h
      exact h1

def listR (sm : Bool) : Ps.Res (List Ps.Node) → Ps.Res Ps.Node
  | .bad e b => .bad e b
  | .ok l b => if sm = true ∧ l = [] then .bad 10 b else .ok (Ps.node 1 l) b
theorem listP_eq (ts : List Lx.Tok) (cmd : Nat → Ps.Res Ps.Node) (sm : Bool) (p : Nat) : Ps.listP ts cmd sm p = listR sm (Ps.listL ts cmd (ts.length + 1) (Ps.endsP ts p) []) := by
  unfold Ps.listP
  cases Ps.listL ts cmd (ts.length + 1) (Ps.endsP ts p) [] <;> rfl
def listK (ts : List Lx.Tok) (cmd : Nat → Ps.Res Ps.Node) (f : Nat) (acc : List Ps.Node) : Ps.Res Ps.Node → Ps.Res (List Ps.Node)
  | .bad e b => .bad e b
  | .ok k b => if Ps.isT ts b 3 [] = true then Ps.listL ts cmd f (Ps.endsP ts b) (acc ++ [k]) else .ok (acc ++ [k]) b
theorem listL_end {ts : List Lx.Tok} {cmd : Nat → Ps.Res Ps.Node} {g p : Nat} {acc : List Ps.Node} (h : Ps.closing ts p = true) : Ps.listL ts cmd (g + 1) p acc = .ok acc p := by
  conv => lhs; unfold Ps.listL
  rw [if_pos h]
theorem listL_more {ts : List Lx.Tok} {cmd : Nat → Ps.Res Ps.Node} {g p : Nat} {acc : List Ps.Node} (h : Ps.closing ts p = false) : Ps.listL ts cmd (g + 1) p acc = listK ts cmd g acc (Ps.chainP ts cmd p) := by
  conv => lhs; unfold Ps.listL
  rw [if_neg (by rw [h]; decide)]
  cases Ps.chainP ts cmd p <;> rfl

set_option maxHeartbeats 8000000 in
set_option maxRecDepth 10000 in
theorem list_any (pb : Nat) (a : Option Addr) (c : Nat) (ts : List Lx.Tok) (vs : List Value) (p deep : Nat) (cmd : Nat → Ps.Res Ps.Node) (hcmd : CmdOk pb a c ts vs deep cmd) (hmv : Moves cmd) (sm : Bool) (w : World) (h : PS w pb a c ts vs p deep 0) :
    Calls Tryd.prog 13 #[.pointer (some ⟨pb, 0, none⟩), .bool sm] w fun e w' => RdPost w pb a c ts vs deep (Ps.listP ts cmd sm p) e w' := by
  have HCH := Lib.hid (fun (p : Nat) (W : World) (h : PS W pb a c ts vs p deep 0) => chain_any pb a c ts vs p deep cmd hcmd hmv W h)
  have HMV := Lib.hid (fun (p : Nat) (n : Ps.Node) (q : Nat) (h : Ps.chainP ts cmd p = .ok n q) => chain_moves hmv h)
  have hfew := h.few
  have HK0 := Lib.hid (KidsAt.start h 1)
  have hends := endsP_le h.le
  obtain ⟨R, hR⟩ : ∃ R, Ps.listL ts cmd (ts.length + 1) (Ps.endsP ts p) [] = R := ⟨_, rfl⟩
  have HR2 := Lib.hid (show Ps.listP ts cmd sm p = listR sm R from by rw [← hR, listP_eq])
  have HR := Lib.hid hR
  obtain ⟨i0, hi, hz0, hz1, hz2⟩ := info_parts Tryd.infoNode
  clear h hcmd hmv hR
  go_enter Tryd.func13, Tryd.ntmps13
  go_wp2_with fail
  refine (ends_any pb a c ts vs p deep _ HK0.out.ps).mono ?_
  rintro e w1 ⟨rfl, hP1, hC1⟩
  have HK1 := Lib.hid (HK0.out.call hC1 hP1 hends.1)
  clear hP1 hC1 HK0
  generalize w.heap.size = rb at *
  go_wp2_with fail
  go_loopg [7, 8] (ts.length + 1) (fun g c7 c8 wr => ∃ (q : Nat) (acc : List Ps.Node) (kv : Value) (xs : List Value), ts.length < q + g ∧ KidsAt w pb a c ts vs rb (rb + 1) 1 q deep acc kv xs wr ∧ Hid (R = Ps.listL ts cmd g q acc))
  case atStart => exact ⟨_, [], _, [], by omega, HK1.out, Lib.hid HR.out.symm⟩
  case round =>
    obtain ⟨q, acc, kv, xs, hg, hK, hr⟩ := hrel
    clear HK1 HR
    have hle := hK.ps.le
    have HK := Lib.hid hK
    clear hK
    cases gk with
    | zero => omega
    | succ g =>
    have HG := Lib.hid hg
    have CL := fun (x : Bool) (hx : Ps.closing ts q = x) => hx ▸ closing_any pb a c ts vs q deep 0 _ HK.out.ps
    clear hg
    cases hb : Ps.closing ts q with
    | true =>
      have CL1 := Lib.hid (CL _ hb)
      have HR3 := Lib.hid (HR2.out.trans (congrArg (listR sm) (hr.out.trans (listL_end (g := g) hb))))
      clear CL hb hr
      go_wp2_with fail
      refine CL1.out.mono ?_
      rintro e w5 ⟨rfl, hC5⟩
      have HK5 := Lib.hid (HK.out.kept0 hC5)
      obtain ⟨ao, co, rfl, hac, hcm⟩ := HK5.out.row.shape
      have hm1 : (acc.length : Int) ≤ 100000 := by have := HK5.out.few; omega
      clear hC5 CL1 HK
      obtain ⟨d0, d1, d2, d3, d4, d5, df⟩ := node_cells HK5.out.nd
      obtain ⟨r0, r1, r2, r3, r4, r5, rf⟩ := node_cells HK5.out.rs
      by_cases hm : acc = []
      · subst hm
        have hz : ((([] : List Ps.Node).length : Int) == 0) = true := rfl
        cases sm with
        | true =>
          have hF := fail_any pb a c ts vs q deep 10 w5 HK5.out.ps
          have HF := Lib.hid hF
          clear hF hac hcm
          go_wp2_with fail
          refine HF.out.mono ?_
          rintro e w6 ⟨rfl, P6, C6⟩
          have HP6 := Lib.hid P6
          have HC6 := Lib.hid C6
          obtain ⟨s0, s1, s2, s3, s4, s5, sf⟩ := node_cells (C6.obj HK5.out.rs (by have := HK5.out.old.1; have := HK5.out.rb0; simp; omega))
          clear P6 C6
          go_wp2_with fail
          refine bodyPost_ret (v := .tuple #[.agg (nodeC 0 (.slice none 0 0)), .bool false]) (by simp [results, Tryd.results13, go_sem, nodeC, s0, s1, s2, s3, s4, s5]) rfl ?_
          rw [HR3.out, show listR true (.ok [] q) = .bad 10 q from rfl]
          refine HK5.out.finB HP6.out HC6.out ?_
          exact (Chg.refl _ _).six _ _ _ _ _ _ _ (.inl (by simp))
        | false =>
          have HE := Lib.hid (show listR false (.ok [] q) = .ok (Ps.node 1 []) q from rfl)
          have hcl := fun (W : World) => clip_nodes ao 0 co hac hcm W
          have HCL := Lib.hid hcl
          clear hac hcm hcl
          go_wp2_with fail
          refine (HCL.out _).mono ?_
          rintro e w6 ⟨rfl, rfl⟩
          go_wp2_with fail
          refine bodyPost_ret (v := .tuple #[.agg (nodeC 1 (.slice ao 0 0)), .bool true]) (by simp [results, Tryd.results13, go_sem, nodeC, r0, r1, r2, r3, r4, r5]) rfl ?_
          rw [HR3.out, HE.out]
          refine HK5.out.finN rfl (by simp) ?_
          exact ((Chg.refl _ _).setCell _ _ (.inl (by simp))).six _ _ _ _ _ _ _ (.inl (by simp))
      · have hm0 : acc.length ≠ 0 := fun h => hm (List.eq_nil_of_length_eq_zero h)
        have HE := Lib.hid (show listR sm (.ok acc q) = .ok (Ps.node 1 acc) q from if_neg (fun h => hm h.2))
        clear hm
        cases sm
        all_goals
          have hcl := fun (W : World) => clip_nodes ao acc.length co hac hcm W
          have HCL := Lib.hid hcl
          clear hac hcm hcl
          go_wp2_with fail
          refine (HCL.out _).mono ?_
          rintro e w6 ⟨rfl, rfl⟩
          go_wp2_with fail
          refine bodyPost_ret (v := .tuple #[.agg (nodeC 1 (.slice ao acc.length acc.length)), .bool true]) (by simp [results, Tryd.results13, go_sem, nodeC, r0, r1, r2, r3, r4, r5]) rfl ?_
          rw [HR3.out, HE.out]
          refine HK5.out.finN rfl (by simp) ?_
          exact ((Chg.refl _ _).setCell _ _ (.inl (by simp))).six _ _ _ _ _ _ _ (.inl (by simp))
    | false =>
      have CL1 := Lib.hid (CL _ hb)
      have hr := Lib.hid (hr.out.trans (listL_more (g := g) hb))
      clear CL hb
      go_wp2_with fail
      refine CL1.out.mono ?_
      rintro e w0 ⟨rfl, hC0⟩
      have HK := Lib.hid (HK.out.kept0 hC0)
      clear hC0 CL1
      obtain ⟨C, hC⟩ : ∃ C, Ps.chainP ts cmd q = C := ⟨_, rfl⟩
      go_wp2_with fail
      refine (HCH.out q _ HK.out.ps).mono ?_
      rw [hC]
      cases C with
      | bad er q1 =>
        rintro e w1 ⟨cs, ⟨k1, s1, ka, wa, sa, ra, kn, kc, wn, wc, sn, sc, rn, rc, rfl⟩, rfl, hP, hC1⟩
        have HR3 := Lib.hid (show Ps.listP ts cmd sm p = .bad er q1 from by rw [HR2.out, hr.out, hC]; rfl)
        have HP1 := Lib.hid hP
        have HC1 := Lib.hid hC1
        obtain ⟨r0, r1, r2, r3, r4, r5, rf⟩ := node_cells_alloc (HC1.out.obj HK.out.rs (by have := HK.out.old.1; have := HK.out.rb0; simp; omega))
        clear hP hC1 hC hr
        go_wp2_with fail
        refine bodyPost_ret (v := .tuple #[.agg (nodeC 0 (.slice none 0 0)), .bool false]) (by simp [results, Tryd.results13, go_sem, nodeC, r0, r1, r2, r3, r4, r5]) rfl ?_
        rw [HR3.out]
        refine HK.out.finB HP1.out HC1.out ?_
        first | exact ((Chg.refl _ _).alloc _).six _ _ _ _ _ _ _ (.inl (by simp)) | exact ((Chg.refl _ _).six _ _ _ _ _ _ _ (.inl (by simp))).alloc _
      | ok n q1 =>
        rintro e w1 ⟨cs, hN, rfl, hP, hC1⟩
        have hq1 := HMV.out _ _ _ hC
        have hq2 := hP.le
        have HK1 := Lib.hid (HK.out.call hC1 hP (Nat.le_of_lt hq1))
        have HN := Lib.hid (HK.out.got hN)
        have hr := Lib.hid (show R = (if Ps.isT ts q1 3 [] = true then Ps.listL ts cmd g (Ps.endsP ts q1) (acc ++ [n]) else .ok (acc ++ [n]) q1) from by rw [hr.out, hC]; rfl)
        obtain ⟨nk, nn, ka, wa, sa, ra, kn, kc, wn, wc, sn, sc, rn, rc, rfl⟩ := hN.Six
        obtain ⟨ao, co, rfl, hao, hco⟩ := HK.out.row.shape
        have hfw := HK.out.few
        have hone := HN.out.one.2
        obtain ⟨d0, d1, d2, d3, d4, d5, df⟩ := node_cells_alloc HK1.out.nd
        have d1a := fun (o o2 : Obj) => (node_cells (obj_alloc_old (obj_alloc_old HK1.out.nd o) o2)).2.1
        have nb1 : (acc.length : Int) ≤ 100000 := by omega
        clear hP hC1 hN hC HK d0 d2 d3 d4 d5 df
        have HONE := Lib.hid hone
        clear hone
        go_wp2_with (at_builtin; refine wpList_append_row _ rfl _ _ 25 rfl 30 i0 _ 6 120 Tryd.underlying25 hi hz0 hz1 hz2 rfl (by decide) _ acc.length xs rfl (HK1.out.row.kept0 (((Chg.refl [] _).alloc _).alloc _)) _ 1 1 [.int .i64 nk, .slice ka kn kc, .string (Lx.strB nn), .slice wa wn wc, .slice sa sn sc, .slice ra rn rc] rfl rfl (srcNew2 _ _ _ _ _) HONE.out (by unfold maxLen; omega) (by omega) ?_)
        intro v' w3 r5 q5 g5
        obtain ⟨av, cap, rfl, hac, hcm⟩ := r5.shape
        have HK3 := Lib.hid (HK1.out.add HN.out (((Chg.refl [] _).alloc _).alloc _) r5 q5 (fun x hx => (g5 x hx).imp id (fun h => by omega)) (by omega))
        have hnd3 := (((Chg.refl [] w1).alloc _).alloc _ |>.mono (G := rowBlock (.slice ao acc.length co)) (by simp)).trans q5 (fun x hx => .inl hx) |>.obj HK1.out.nd (fun hj => (HK1.out.new _ hj).2.2 rfl)
        have e1 := cell_of_obj hnd3 (j := 1) rfl
        have ef := free_of_obj hnd3 1
        have IS := fun (x : Bool) (hx : Ps.isT ts q1 3 [] = x) => hx ▸ is_any pb a c ts vs q1 deep 0 3 [] _ HK3.out.ps
        clear d1 d1a r5 g5
        cases hb : Ps.isT ts q1 3 [] with
        | true =>
          have hlt := isT_lt hb
          have IS1 := Lib.hid (IS _ hb)
          have HR3 := Lib.hid (hr.out.trans (if_pos hb))
          clear IS hb hr
          go_wp2_with fail
          refine IS1.out.mono ?_
          rintro e w5 ⟨rfl, n1, rfl⟩
          have HK5 := Lib.hid (HK3.out.kept0 ((Chg.refl [] _).drewN n1))
          have hends := endsP_le hq2
          go_wp2_with fail
          refine (ends_any pb a c ts vs q1 deep _ HK5.out.ps).mono ?_
          rintro e w6 ⟨rfl, hP6, hC6⟩
          have HK6 := Lib.hid (HK5.out.call hC6 hP6 hends.1)
          clear hP6 hC6 HK5 HK3
          go_wp2
          go_roundg g
          case measure => omega
          case rel => exact ⟨_, acc ++ [n], _, _, by have := HG.out; omega, HK6.out, HR3⟩
        | false =>
          have IS1 := Lib.hid (IS _ hb)
          have HR3 := Lib.hid (HR2.out.trans (congrArg (listR sm) (hr.out.trans (if_neg (by rw [hb]; decide)))))
          have HE := Lib.hid (show listR sm (.ok (acc ++ [n]) q1) = .ok (Ps.node 1 (acc ++ [n])) q1 from if_neg (fun h => by simp at h))
          clear IS hb hr
          go_wp2_with fail
          refine IS1.out.mono ?_
          rintro e w5 ⟨rfl, n1, rfl⟩
          have HK5 := Lib.hid (HK3.out.kept0 ((Chg.refl [] _).drewN n1))
          generalize (w3.setCell ⟨rb + 1, 1, none⟩ (.slice av (acc.length + 1) cap)).drewN n1 = w5 at *
          clear HK3 q5 hnd3 e1 ef
          obtain ⟨d0, d1, d2, d3, d4, d5, df⟩ := node_cells HK5.out.nd
          obtain ⟨r0, r1, r2, r3, r4, r5, rf⟩ := node_cells HK5.out.rs
          cases sm
          all_goals
            have hcl := fun (W : World) => clip_nodes av (acc.length + 1) cap hac hcm W
            have HCL := Lib.hid hcl
            clear hac hcm hcl
            go_wp2_with fail
            refine (HCL.out _).mono ?_
            rintro e w6 ⟨rfl, rfl⟩
            go_wp2_with fail
            refine bodyPost_ret (v := .tuple #[.agg (nodeC 1 (.slice av (acc.length + 1) (acc.length + 1))), .bool true]) (by simp [results, Tryd.results13, go_sem, nodeC, r0, r1, r2, r3, r4, r5]) rfl ?_
            rw [HR3.out, HE.out]
            refine HK5.out.finN rfl (by simp) ?_
            exact ((Chg.refl _ _).setCell _ _ (.inl (by simp))).six _ _ _ _ _ _ _ (.inl (by simp))

end Go.Proofs.YtfgbbmnmblchiaaDoor

namespace Go.Proofs.YtfgbbmnmblchiaaDoor
open Go.RowKit
set_option linter.unusedVariables false

structure Base (w : World) (pb : Nat) (a : Option Addr) (c : Nat) (ts : List Lx.Tok) (vs : List Value) (q deep : Nat) (wr : World) : Prop where
  ps : PS wr pb a c ts vs q deep 0
  rs : wr.heap[w.heap.size]? = some (.cells (nodeC 0 (.slice none 0 0)) 30 (0, 0))
  chg : Chg [pb] w wr
  old : pb < w.heap.size ∧ ∀ k, TB (.slice a ts.length c) vs k → k < w.heap.size

section
variable {w wr w' : World} {pb : Nat} {a : Option Addr} {c : Nat} {ts : List Lx.Tok} {vs : List Value} {q deep : Nat} {n : Ps.Node} {cs : List Value}

theorem Base.start (h : PS w pb a c ts vs q deep 0) : Base w pb a c ts vs q deep (w.alloc (.cells (nodeC 0 (.slice none 0 0)) 30)) where
  ps := h.chg0 ((Chg.refl [] w).alloc _)
  rs := obj_alloc_new w _
  chg := (Chg.refl _ _).alloc _
  old := ⟨h.lt, h.tb_lt⟩

theorem Base.call (h : Base w pb a c ts vs q deep wr) (hc : Chg [pb] wr w') {q' : Nat} (hp : PS w' pb a c ts vs q' deep 0) : Base w pb a c ts vs q' deep w' :=
  { h with ps := hp, rs := hc.obj h.rs (by have := h.old.1; simp; omega), chg := h.chg.trans hc (fun x hx => .inl hx) }
theorem Base.kept0 (h : Base w pb a c ts vs q deep wr) (hc : Chg [] wr w') : Base w pb a c ts vs q deep w' := h.call (hc.mono (by simp)) (h.ps.chg0 hc)
theorem Base.setAt (h : Base w pb a c ts vs q deep wr) (z : Int) (hz : z = ((q + 1 : Nat) : Int)) (hq : q + 1 ≤ ts.length) : Base w pb a c ts vs (q + 1) deep (wr.setCell ⟨pb, 1, none⟩ (.int .i64 z)) :=
  h.call (Chg.setP _ _ _ _) (h.ps.setAt (q + 1) z hz hq)
theorem Base.bad (h : Base w pb a c ts vs q deep wr) (hc : Chg [pb] wr w') {q' : Nat} {er : Int} (hp : PS w' pb a c ts vs q' deep er) : BadB w pb a c ts vs w.heap.size q' deep er w' :=
  { ps := hp, rs := hc.obj h.rs (by have := h.old.1; simp; omega), chg := h.chg.trans hc (fun x hx => .inl hx), rb0 := Nat.le_refl _, old := h.old }

/-- a tree held stays. -/
theorem Base.hold (h : Base w pb a c ts vs q deep wr) {lo hi : Nat} (hlo : w.heap.size ≤ lo) (hn : NodeAt wr (Sn (.slice a ts.length c) vs lo hi) n cs) (hc : Chg [pb] wr w') : NodeAt w' (Sn (.slice a ts.length c) vs lo hi) n cs :=
  NodeAt.kept hc (fun j hj hS => by
    simp at hj; subst hj
    rcases hS with h1 | h1
    · exact h.ps.out h1
    · have := h.old.1; omega) _ _ hn
theorem hold0 {lo hi : Nat} {tv : Value} (hn : NodeAt wr (Sn tv vs lo hi) n cs) (hc : Chg [] wr w') : NodeAt w' (Sn tv vs lo hi) n cs := NodeAt.kept hc (by simp) _ _ hn
theorem Sn.up {lo hi lo' hi' : Nat} {tv : Value} (hn : NodeAt wr (Sn tv vs lo hi) n cs) (h1 : lo' ≤ lo) (h2 : hi ≤ hi') : NodeAt wr (Sn tv vs lo' hi') n cs :=
  NodeAt.mono (fun j hj => hj.imp id (fun h => ⟨by omega, by omega⟩)) _ _ hn

/-- a node of kids, in the result's block. -/
theorem Base.fin (h : Base w pb a c ts vs q deep wr) {k : Int} {ns : List Ps.Node} {xs : List Value} {kb m : Nat} (hm : ns.length = m) (h0 : 0 < m) (hs : m ≤ 100000) (hn : NodesAt wr (Sn (.slice a ts.length c) vs (w.heap.size + 1) wr.heap.size) ns xs) (hc : Chg [w.heap.size] wr w')
    (hk : w.heap.size ≤ kb) (hkb : w'.heap[kb]? = some (.cells xs.toArray 30 (0, 0))) :
    RdPost w pb a c ts vs deep (.ok (Ps.node k ns) q) (.returned (.tuple #[.agg (nodeC k (.slice (some ⟨kb, 0, none⟩) m m)), .bool true])) w' := by
  subst hm
  have hlen := NodesAt.len hn
  have hsz := hc.size
  have hrow : Row w' 30 6 (.slice (some ⟨kb, 0, none⟩) ns.length ns.length) ns.length xs :=
    ⟨hlen, .inr ⟨kb, _, _, rfl, hkb, Nat.le_refl _, by unfold maxLen; omega, by simp [hlen], by rw [List.take_of_length_le (by simp [hlen])]⟩⟩
  have hN : NodesAt w' (Sn (.slice a ts.length c) vs w.heap.size w'.heap.size) ns xs := by
    refine NodesAt.mono (fun j hj => hj.imp id (fun h => ⟨by omega, by omega⟩)) _ _ (NodesAt.kept hc (fun j hj hS => ?_) _ _ hn)
    simp at hj; subst hj
    rcases hS with h1 | h1
    · have := h.old.2 _ h1; omega
    · omega
  refine ⟨_, node_at (Row.sl hrow (fun j hj => ?_)) hN, rfl, h.ps.chg hc (fun j hj => ?_), h.chg.trans hc (fun x hx => .inr (by simp at hx; omega))⟩
  · have hj2 : j = kb := by
      simp only [rowBlock] at hj
      split at hj
      · simp at hj
      · simpa using hj
    subst hj2
    exact .inr ⟨hk, lt_of_obj hkb⟩
  · simp at hj; subst hj
    exact ⟨by have := h.old.1; omega, fun ht => by have := h.old.2 _ ht; omega⟩

/-- a tree itself, in the result's block. -/
theorem Base.finT (h : Base w pb a c ts vs q deep wr) (hn : NodeAt wr (Sn (.slice a ts.length c) vs (w.heap.size + 1) wr.heap.size) n cs) (hc : Chg [w.heap.size] wr w') :
    RdPost w pb a c ts vs deep (.ok n q) (.returned (.tuple #[.agg cs.toArray, .bool true])) w' := by
  have hsz := hc.size
  refine ⟨cs, NodeAt.mono (fun j hj => hj.imp id (fun h => ⟨by omega, by omega⟩)) _ _ (NodeAt.kept hc (fun j hj hS => ?_) _ _ hn), rfl, h.ps.chg hc (fun j hj => ?_), h.chg.trans hc (fun x hx => .inr (by simp at hx; omega))⟩
  · simp at hj; subst hj
    rcases hS with h1 | h1
    · have := h.old.2 _ h1; omega
    · omega
  · simp at hj; subst hj
    exact ⟨by have := h.old.1; omega, fun ht => by have := h.old.2 _ ht; omega⟩

/-- an error, with whatever stands in the result's block. -/
theorem BadB.fin6 {er : Int} {rb : Nat} (h : BadB w pb a c ts vs rb q deep er wr) {cs : List Value} (h6 : Six cs) (hc : Chg [rb] wr w') : RdPost w pb a c ts vs deep (.bad er q) (.returned (.tuple #[.agg cs.toArray, .bool false])) w' := by
  have hrb := h.rb0
  exact ⟨_, h6, rfl, h.ps.chg hc (fun j hj => by simp at hj; subst hj; exact ⟨by have := h.old.1; omega, fun ht => by have := h.old.2 j ht; omega⟩), h.chg.trans hc (fun x hx => .inr (by simp at hx; omega))⟩
end

theorem NodesAt.two {w : World} {S : Nat → Prop} {n m : Ps.Node} {cs ms : List Value} (h1 : NodeAt w S n cs) (h2 : NodeAt w S m ms) : NodesAt w S [n, m] (cs ++ ms) :=
  NodesAt.snoc (ns := [n]) (by unfold NodesAt; exact ⟨cs, [], by simp, h1, by unfold NodesAt; rfl⟩) h2
theorem NodesAt.of1 {w : World} {S : Nat → Prop} {n : Ps.Node} {cs : List Value} (h1 : NodeAt w S n cs) : NodesAt w S [n] cs := by
  unfold NodesAt
  exact ⟨cs, [], by simp, h1, by unfold NodesAt; rfl⟩
theorem NodesAt.three {w : World} {S : Nat → Prop} {n m o : Ps.Node} {cs ms os : List Value} (h1 : NodeAt w S n cs) (h2 : NodeAt w S m ms) (h3 : NodeAt w S o os) : NodesAt w S [n, m, o] (cs ++ ms ++ os) :=
  NodesAt.snoc (ns := [n, m]) (NodesAt.two h1 h2) h3

end Go.Proofs.YtfgbbmnmblchiaaDoor

namespace Go.Proofs.YtfgbbmnmblchiaaDoor
open Go.RowKit
set_option linter.unusedVariables false

/-- what a walk of 'list' says. -/
def ListOk (pb : Nat) (a : Option Addr) (c : Nat) (ts : List Lx.Tok) (vs : List Value) (deep : Nat) (cmd : Nat → Ps.Res Ps.Node) : Prop :=
  ∀ (sm : Bool) (p : Nat) (w : World), PS w pb a c ts vs p deep 0 → Calls Tryd.prog 13 #[.pointer (some ⟨pb, 0, none⟩), .bool sm] w fun e w' => RdPost w pb a c ts vs deep (Ps.listP ts cmd sm p) e w'

section
variable {ts : List Lx.Tok} {cmd : Nat → Ps.Res Ps.Node} {p q r : Nat} {e : Int} {n : Ps.Node}
theorem groupP_bad (h : Ps.listP ts cmd true p = .bad e q) : Ps.groupP ts cmd p = .bad e q := by simp [Ps.groupP, h]
theorem groupP_bad2 (h : Ps.listP ts cmd true p = .ok n q) (h2 : Ps.wantP ts q 2 [41] = .bad e r) : Ps.groupP ts cmd p = .bad e r := by simp [Ps.groupP, h, h2]
theorem groupP_ok {u : Unit} (h : Ps.listP ts cmd true p = .ok n q) (h2 : Ps.wantP ts q 2 [41] = .ok u r) : Ps.groupP ts cmd p = .ok (Ps.node 9 [n]) r := by simp [Ps.groupP, h, h2]
theorem bodyP_bad (h : Ps.wantP ts p 1 Ps.kwDo = .bad e q) : Ps.bodyP ts cmd p = .bad e q := by simp [Ps.bodyP, h]
theorem bodyP_bad2 {u : Unit} (h : Ps.wantP ts p 1 Ps.kwDo = .ok u q) (h2 : Ps.listP ts cmd true q = .bad e r) : Ps.bodyP ts cmd p = .bad e r := by simp [Ps.bodyP, h, h2]
theorem bodyP_bad3 {u : Unit} {s : Nat} (h : Ps.wantP ts p 1 Ps.kwDo = .ok u q) (h2 : Ps.listP ts cmd true q = .ok n r) (h3 : Ps.wantP ts r 1 Ps.kwDone = .bad e s) : Ps.bodyP ts cmd p = .bad e s := by simp [Ps.bodyP, h, h2, h3]
theorem bodyP_ok {u v : Unit} {s : Nat} (h : Ps.wantP ts p 1 Ps.kwDo = .ok u q) (h2 : Ps.listP ts cmd true q = .ok n r) (h3 : Ps.wantP ts r 1 Ps.kwDone = .ok v s) : Ps.bodyP ts cmd p = .ok n s := by simp [Ps.bodyP, h, h2, h3]
end

set_option maxHeartbeats 8000000 in
set_option maxRecDepth 10000 in
theorem group_any (pb : Nat) (a : Option Addr) (c : Nat) (ts : List Lx.Tok) (vs : List Value) (p deep : Nat) (cmd : Nat → Ps.Res Ps.Node) (hli : ListOk pb a c ts vs deep cmd) (w : World) (h : PS w pb a c ts vs p deep 0) :
    Calls Tryd.prog 78 #[.pointer (some ⟨pb, 0, none⟩)] w fun e w' => RdPost w pb a c ts vs deep (Ps.groupP ts cmd p) e w' := by
  have HB0 := Lib.hid (Base.start h)
  have HLI := Lib.hid hli
  clear h hli
  obtain ⟨C, hC⟩ : ∃ C, Ps.listP ts cmd true p = C := ⟨_, rfl⟩
  go_enter Tryd.func78, Tryd.ntmps78
  go_wp2_with fail
  refine (HLI.out true p _ HB0.out.ps).mono ?_
  rw [hC]
  cases C with
  | bad er q1 =>
    rintro e w1 ⟨cs, ⟨k1, s1, ka, wa, sa, ra, kn, kc, wn, wc, sn, sc, rn, rc, rfl⟩, rfl, hP, hC1⟩
    have HR := Lib.hid (groupP_bad hC)
    have HBD := Lib.hid (HB0.out.bad hC1 hP)
    obtain ⟨r0, r1, r2, r3, r4, r5, rf⟩ := node_cells_alloc HBD.out.rs
    clear hP hC1 hC
    go_wp2_with fail
    refine bodyPost_ret (v := .tuple #[.agg (nodeC 0 (.slice none 0 0)), .bool false]) (by simp [results, Tryd.results78, go_sem, nodeC, r0, r1, r2, r3, r4, r5]) rfl ?_
    rw [HR.out]
    refine HBD.out.fin ?_
    first | exact ((Chg.refl _ _).alloc _).six _ _ _ _ _ _ _ (.inl (by simp)) | exact ((Chg.refl _ _).six _ _ _ _ _ _ _ (.inl (by simp))).alloc _
  | ok n q1 =>
    rintro e w1 ⟨cs, hN, rfl, hP, hC1⟩
    obtain ⟨k1, s1, ka, wa, sa, ra, kn, kc, wn, wc, sn, sc, rn, rc, rfl⟩ := hN.Six
    have HB1 := Lib.hid (HB0.out.call hC1 hP)
    have hs1 := hC1.size
    have hs0 : (w.alloc (.cells (nodeC 0 (.slice none 0 0)) 30)).heap.size = w.heap.size + 1 := by simp
    have HN := Lib.hid (Sn.up hN (Nat.le_of_eq hs0.symm) (Nat.le_refl _))
    have HLE := Lib.hid (show w.heap.size + 1 ≤ w1.heap.size from by omega)
    clear hN hP hC1 hs1 hs0
    go_wp2_with fail
    have HB2 := Lib.hid (HB1.out.kept0 ((Chg.refl [] w1).alloc (.cells #[.int .i64 k1, .slice ka kn kc, .string (Lx.strB s1), .slice wa wn wc, .slice sa sn sc, .slice ra rn rc] 30)))
    refine (want_any pb a c ts vs q1 deep 2 [41] _ HB2.out.ps).mono ?_
    obtain ⟨D, hD⟩ : ∃ D, Ps.wantP ts q1 2 [41] = D := ⟨_, rfl⟩
    rw [hD]
    cases D with
    | bad er q2 =>
      rintro e w3 ⟨rfl, hP3, hC3⟩
      have HR := Lib.hid (groupP_bad2 hC hD)
      have HBD := Lib.hid (HB2.out.bad hC3 hP3)
      obtain ⟨r0, r1, r2, r3, r4, r5, rf⟩ := node_cells HBD.out.rs
      clear hP3 hC3 hC hD
      go_wp2_with fail
      refine bodyPost_ret (v := .tuple #[.agg (nodeC 0 (.slice none 0 0)), .bool false]) (by simp [results, Tryd.results78, go_sem, nodeC, r0, r1, r2, r3, r4, r5]) rfl ?_
      rw [HR.out]
      refine HBD.out.fin ?_
      exact (Chg.refl _ _).six _ _ _ _ _ _ _ (.inl (by simp))
    | ok u q2 =>
      rintro e w3 ⟨rfl, hP3, hC3⟩
      have HR := Lib.hid (groupP_ok hC hD)
      have HB3 := Lib.hid (HB2.out.call hC3 hP3)
      have hob := hC3.obj (obj_alloc_new w1 _) (by have := HB1.out.old.1; have := HLE.out; simp; omega)
      obtain ⟨t0, t1, t2, t3, t4, t5, tf⟩ := six_cells hob
      obtain ⟨r0, r1, r2, r3, r4, r5, rf⟩ := node_cells_alloc HB3.out.rs
      have hN3 := HB2.out.hold (lo := w.heap.size + 1) (by omega) (hold0 HN.out ((Chg.refl [] w1).alloc _)) hC3
      have hsz : w1.heap.size ≤ w3.heap.size := by have := hC3.size; simp at this; omega
      have HN3 := Lib.hid (Sn.up hN3 (Nat.le_refl _) hsz)
      have HKB := Lib.hid (show w.heap.size < w3.heap.size from by have := HLE.out; omega)
      have HW := Lib.hid (Chg.six ((Chg.refl [w.heap.size] w3).alloc (.cells #[.int .i64 k1, .slice ka kn kc, .string (Lx.strB s1), .slice wa wn wc, .slice sa sn sc, .slice ra rn rc] 30)) w.heap.size (.int .i64 9) (.slice (some ⟨w3.heap.size, 0, none⟩) 1 1) (.string ⟨#[]⟩) (.slice none 0 0) (.slice none 0 0) (.slice none 0 0) (.inl (by simp)))
      have HKB2 := Lib.hid ((Chg.six (Chg.refl [w.heap.size] (w3.alloc (.cells #[.int .i64 k1, .slice ka kn kc, .string (Lx.strB s1), .slice wa wn wc, .slice sa sn sc, .slice ra rn rc] 30))) w.heap.size (.int .i64 9) (.slice (some ⟨w3.heap.size, 0, none⟩) 1 1) (.string ⟨#[]⟩) (.slice none 0 0) (.slice none 0 0) (.slice none 0 0) (.inl (by simp))).obj (obj_alloc_new w3 _) (by have := HKB.out; simp; omega))
      clear hP3 hC3 hC hD hN3 hsz hob
      go_wp2_with fail
      refine bodyPost_ret (v := .tuple #[.agg (nodeC 9 (.slice (some ⟨w3.heap.size, 0, none⟩) 1 1)), .bool true]) (by simp [results, Tryd.results78, go_sem, nodeC, r0, r1, r2, r3, r4, r5]) rfl ?_
      rw [HR.out]
      exact HB3.out.fin (ns := [n]) (m := 1) rfl (by decide) (by decide) (NodesAt.of1 HN3.out) HW.out (Nat.le_of_lt HKB.out) HKB2.out

set_option maxHeartbeats 8000000 in
set_option maxRecDepth 10000 in
theorem body_any (pb : Nat) (a : Option Addr) (c : Nat) (ts : List Lx.Tok) (vs : List Value) (p deep : Nat) (cmd : Nat → Ps.Res Ps.Node) (hli : ListOk pb a c ts vs deep cmd) (w : World) (h : PS w pb a c ts vs p deep 0) :
    Calls Tryd.prog 89 #[.pointer (some ⟨pb, 0, none⟩)] w fun e w' => RdPost w pb a c ts vs deep (Ps.bodyP ts cmd p) e w' := by
  have HB0 := Lib.hid (Base.start h)
  have HLI := Lib.hid hli
  clear h hli
  obtain ⟨C, hC⟩ : ∃ C, Ps.wantP ts p 1 Ps.kwDo = C := ⟨_, rfl⟩
  go_enter Tryd.func89, Tryd.ntmps89
  go_wp2_with fail
  refine (want_any pb a c ts vs p deep 1 Ps.kwDo _ HB0.out.ps).mono ?_
  rw [hC]
  cases C with
  | bad er q1 =>
    rintro e w1 ⟨rfl, hP, hC1⟩
    have HR := Lib.hid (bodyP_bad (cmd := cmd) hC)
    have HBD := Lib.hid (HB0.out.bad hC1 hP)
    obtain ⟨r0, r1, r2, r3, r4, r5, rf⟩ := node_cells HBD.out.rs
    clear hP hC1 hC
    go_wp2_with fail
    refine bodyPost_ret (v := .tuple #[.agg (nodeC 0 (.slice none 0 0)), .bool false]) (by simp [results, Tryd.results89, go_sem, nodeC, r0, r1, r2, r3, r4, r5]) rfl ?_
    rw [HR.out]
    refine HBD.out.fin ?_
    exact (Chg.refl _ _).six _ _ _ _ _ _ _ (.inl (by simp))
  | ok u q1 =>
    rintro e w1 ⟨rfl, hP, hC1⟩
    have HB1 := Lib.hid (HB0.out.call hC1 hP)
    have HS1 := Lib.hid (show w.heap.size + 1 ≤ w1.heap.size from by have := hC1.size; simpa using this)
    obtain ⟨D, hD⟩ : ∃ D, Ps.listP ts cmd true q1 = D := ⟨_, rfl⟩
    clear hP hC1
    go_wp2_with fail
    refine (HLI.out true q1 _ HB1.out.ps).mono ?_
    rw [hD]
    cases D with
    | bad er q2 =>
      rintro e w3 ⟨cs, ⟨k1, s1, ka, wa, sa, ra, kn, kc, wn, wc, sn, sc, rn, rc, rfl⟩, rfl, hP3, hC3⟩
      have HR := Lib.hid (bodyP_bad2 hC hD)
      have HBD := Lib.hid ((HB1.out.bad hC3 hP3).kept0 ((Chg.refl [] w3).alloc (.cells #[.int .i64 k1, .slice ka kn kc, .string (Lx.strB s1), .slice wa wn wc, .slice sa sn sc, .slice ra rn rc] 30)))
      obtain ⟨r0, r1, r2, r3, r4, r5, rf⟩ := node_cells HBD.out.rs
      have hot := obj_alloc_new w3 (.cells #[.int .i64 k1, .slice ka kn kc, .string (Lx.strB s1), .slice wa wn wc, .slice sa sn sc, .slice ra rn rc] 30)
      obtain ⟨t0, t1, t2, t3, t4, t5, tf⟩ := six_cells hot
      clear hP3 hC3 hC hD
      go_upto_region 4 with (fail)
      generalize w3.alloc (.cells #[.int .i64 k1, .slice ka kn kc, .string (Lx.strB s1), .slice wa wn wc, .slice sa sn sc, .slice ra rn rc] 30) = w4 at *
      go_region
      all_goals
        go_wp2
        refine bodyPost_ret (v := .tuple #[.agg #[.int .i64 k1, .slice ka kn kc, .string (Lx.strB s1), .slice wa wn wc, .slice sa sn sc, .slice ra rn rc], .bool false]) (by simp [results, Tryd.results89, go_sem, r0, r1, r2, r3, r4, r5]) rfl ?_
        rw [HR.out]
        refine HBD.out.fin6 ⟨_, _, _, _, _, _, _, _, _, _, _, _, _, _, rfl⟩ ?_
        exact ((Chg.refl _ _).six _ _ _ _ _ _ _ (.inl (by simp))).drew
    | ok n q2 =>
      rintro e w3 ⟨cs, hN, rfl, hP3, hC3⟩
      obtain ⟨k1, s1, ka, wa, sa, ra, kn, kc, wn, wc, sn, sc, rn, rc, rfl⟩ := hN.Six
      have HB3 := Lib.hid (HB1.out.call hC3 hP3)
      have HS3 := Lib.hid (show w1.heap.size ≤ w3.heap.size from hC3.size)
      have HN3 := Lib.hid (Sn.up (lo' := w.heap.size + 1) hN HS1.out (Nat.le_refl _))
      obtain ⟨E, hE⟩ : ∃ E, Ps.wantP ts q2 1 Ps.kwDone = E := ⟨_, rfl⟩
      have hot := obj_alloc_new w3 (.cells #[.int .i64 k1, .slice ka kn kc, .string (Lx.strB s1), .slice wa wn wc, .slice sa sn sc, .slice ra rn rc] 30)
      obtain ⟨t0, t1, t2, t3, t4, t5, tf⟩ := six_cells hot
      have HB4 := Lib.hid (HB3.out.kept0 ((Chg.refl [] w3).alloc (.cells #[.int .i64 k1, .slice ka kn kc, .string (Lx.strB s1), .slice wa wn wc, .slice sa sn sc, .slice ra rn rc] 30)))
      have HN4 := Lib.hid (Sn.up (hold0 HN3.out ((Chg.refl [] w3).alloc (.cells #[.int .i64 k1, .slice ka kn kc, .string (Lx.strB s1), .slice wa wn wc, .slice sa sn sc, .slice ra rn rc] 30))) (Nat.le_refl _) (((Chg.refl [] w3).alloc (.cells #[.int .i64 k1, .slice ka kn kc, .string (Lx.strB s1), .slice wa wn wc, .slice sa sn sc, .slice ra rn rc] 30)).size))
      have HT := Lib.hid (show w3.heap.size ≠ pb from by have := HB3.out.old.1; have := HS1.out; have := HS3.out; omega)
      obtain ⟨r0, r1, r2, r3, r4, r5, rf⟩ := node_cells HB4.out.rs
      have HWN := Lib.hid (fun (W : World) (h : PS W pb a c ts vs q2 deep 0) => want_any pb a c ts vs q2 deep 1 Ps.kwDone W h)
      rw [hE] at HWN
      clear hN hP3 hC3 hot
      go_upto_region 4 with (fail)
      generalize w3.alloc (.cells #[.int .i64 k1, .slice ka kn kc, .string (Lx.strB s1), .slice wa wn wc, .slice sa sn sc, .slice ra rn rc] 30) = w4 at *
      generalize w3.heap.size = tb at *
      cases E with
      | bad er q4 =>
        have HR := Lib.hid (bodyP_bad3 hC hD hE)
        clear hC hD hE
        go_region_law ((first | (go_simp; refine (HWN.out _ (HB4.out.ps.chg0 (Chg.refl [] _).drew)).mono ?_; rintro e w5 ⟨rfl, hP5, hC5⟩; have u0 := hC5.cell t0 (by simpa using HT.out); have u1 := hC5.cell t1 (by simpa using HT.out); have u2 := hC5.cell t2 (by simpa using HT.out); have u3 := hC5.cell t3 (by simpa using HT.out); have u4 := hC5.cell t4 (by simpa using HT.out); have u5 := hC5.cell t5 (by simpa using HT.out); have HBD := Lib.hid (HB4.out.bad hC5.drew0 hP5); obtain ⟨y0, y1, y2, y3, y4, y5, yf⟩ := node_cells HBD.out.rs; clear hP5 hC5)))
        all_goals
          go_wp2
          refine bodyPost_ret (v := .tuple #[.agg #[.int .i64 k1, .slice ka kn kc, .string (Lx.strB s1), .slice wa wn wc, .slice sa sn sc, .slice ra rn rc], .bool false]) (by simp [results, Tryd.results89, go_sem, y0, y1, y2, y3, y4, y5]) rfl ?_
          rw [HR.out]
          refine HBD.out.fin6 ⟨_, _, _, _, _, _, _, _, _, _, _, _, _, _, rfl⟩ ?_
          first | exact (Chg.refl _ _).six _ _ _ _ _ _ _ (.inl (by simp)) | exact ((Chg.refl _ _).six _ _ _ _ _ _ _ (.inl (by simp))).drew
      | ok u4 q4 =>
        have HR := Lib.hid (bodyP_ok hC hD hE)
        clear hC hD hE
        go_region_law ((first | (go_simp; refine (HWN.out _ (HB4.out.ps.chg0 (Chg.refl [] _).drew)).mono ?_; rintro e w5 ⟨rfl, hP5, hC5⟩; have u0 := hC5.cell t0 (by simpa using HT.out); have u1 := hC5.cell t1 (by simpa using HT.out); have u2 := hC5.cell t2 (by simpa using HT.out); have u3 := hC5.cell t3 (by simpa using HT.out); have u4 := hC5.cell t4 (by simpa using HT.out); have u5 := hC5.cell t5 (by simpa using HT.out); have HB5 := Lib.hid (HB4.out.call hC5.drew0 hP5); have HN5 := Lib.hid (Sn.up (HB4.out.hold (Nat.le_succ _) HN4.out hC5.drew0) (Nat.le_refl _) hC5.drew0.size); obtain ⟨y0, y1, y2, y3, y4, y5, yf⟩ := node_cells HB5.out.rs; clear hP5 hC5)))
        all_goals
          go_wp2
          refine bodyPost_ret (v := .tuple #[.agg #[.int .i64 k1, .slice ka kn kc, .string (Lx.strB s1), .slice wa wn wc, .slice sa sn sc, .slice ra rn rc], .bool true]) (by simp [results, Tryd.results89, go_sem, y0, y1, y2, y3, y4, y5]) rfl ?_
          rw [HR.out]
          refine HB5.out.finT HN5.out ?_
          first | exact (Chg.refl _ _).six _ _ _ _ _ _ _ (.inl (by simp)) | exact ((Chg.refl _ _).six _ _ _ _ _ _ _ (.inl (by simp))).drew

end Go.Proofs.YtfgbbmnmblchiaaDoor

namespace Go.Proofs.YtfgbbmnmblchiaaDoor
open Go.RowKit
set_option linter.unusedVariables false

section
variable {ts : List Lx.Tok} {cmd : Nat → Ps.Res Ps.Node} {p q r : Nat} {e : Int} {n m : Ps.Node}
theorem loopP_bad (h : Ps.listP ts cmd true p = .bad e q) : Ps.loopP ts cmd p = .bad e q := by simp [Ps.loopP, h]
theorem loopP_bad2 (h : Ps.listP ts cmd true p = .ok n q) (h2 : Ps.bodyP ts cmd q = .bad e r) : Ps.loopP ts cmd p = .bad e r := by simp [Ps.loopP, h, h2]
theorem loopP_ok (h : Ps.listP ts cmd true p = .ok n q) (h2 : Ps.bodyP ts cmd q = .ok m r) : Ps.loopP ts cmd p = .ok (Ps.node 7 [n, m]) r := by simp [Ps.loopP, h, h2]
end

set_option maxHeartbeats 8000000 in
set_option maxRecDepth 10000 in
theorem loop_any (pb : Nat) (a : Option Addr) (c : Nat) (ts : List Lx.Tok) (vs : List Value) (p deep : Nat) (cmd : Nat → Ps.Res Ps.Node) (hli : ListOk pb a c ts vs deep cmd) (w : World) (h : PS w pb a c ts vs p deep 0) :
    Calls Tryd.prog 80 #[.pointer (some ⟨pb, 0, none⟩)] w fun e w' => RdPost w pb a c ts vs deep (Ps.loopP ts cmd p) e w' := by
  have HB0 := Lib.hid (Base.start h)
  have HLI := Lib.hid hli
  clear h hli
  obtain ⟨C, hC⟩ : ∃ C, Ps.listP ts cmd true p = C := ⟨_, rfl⟩
  go_enter Tryd.func80, Tryd.ntmps80
  go_wp2_with fail
  refine (HLI.out true p _ HB0.out.ps).mono ?_
  rw [hC]
  cases C with
  | bad er q1 =>
    rintro e w1 ⟨cs, ⟨k1, s1, ka, wa, sa, ra, kn, kc, wn, wc, sn, sc, rn, rc, rfl⟩, rfl, hP, hC1⟩
    have HR := Lib.hid (loopP_bad hC)
    have HBD := Lib.hid (HB0.out.bad hC1 hP)
    obtain ⟨r0, r1, r2, r3, r4, r5, rf⟩ := node_cells_alloc HBD.out.rs
    clear hP hC1 hC
    go_wp2_with fail
    refine bodyPost_ret (v := .tuple #[.agg (nodeC 0 (.slice none 0 0)), .bool false]) (by simp [results, Tryd.results80, go_sem, nodeC, r0, r1, r2, r3, r4, r5]) rfl ?_
    rw [HR.out]
    refine HBD.out.fin ?_
    first | exact ((Chg.refl _ _).alloc _).six _ _ _ _ _ _ _ (.inl (by simp)) | exact ((Chg.refl _ _).six _ _ _ _ _ _ _ (.inl (by simp))).alloc _
  | ok n q1 =>
    rintro e w1 ⟨cs, hN, rfl, hP, hC1⟩
    obtain ⟨k1, s1, ka, wa, sa, ra, kn, kc, wn, wc, sn, sc, rn, rc, rfl⟩ := hN.Six
    have HB1 := Lib.hid (HB0.out.call hC1 hP)
    have hs1 := hC1.size
    have hs0 : (w.alloc (.cells (nodeC 0 (.slice none 0 0)) 30)).heap.size = w.heap.size + 1 := by simp
    have HN := Lib.hid (Sn.up hN (Nat.le_of_eq hs0.symm) (Nat.le_refl _))
    have HLE := Lib.hid (show w.heap.size + 1 ≤ w1.heap.size from by omega)
    clear hN hP hC1 hs1 hs0
    go_wp2_with fail
    have hal : Chg [] w1 (w1.alloc (.cells #[.int .i64 k1, .slice ka kn kc, .string (Lx.strB s1), .slice wa wn wc, .slice sa sn sc, .slice ra rn rc] 30)) := (Chg.refl [] w1).alloc _
    have hot := obj_alloc_new w1 (.cells #[.int .i64 k1, .slice ka kn kc, .string (Lx.strB s1), .slice wa wn wc, .slice sa sn sc, .slice ra rn rc] 30)
    have HB2 := Lib.hid (HB1.out.kept0 hal)
    have HN2 := Lib.hid (Sn.up (hold0 HN.out hal) (Nat.le_refl _) hal.size)
    have HT := Lib.hid (show w1.heap.size ≠ pb from by have := HB1.out.old.1; have := HLE.out; omega)
    have HLE2 := Lib.hid (Nat.le_trans HLE.out hal.size)
    clear hal
    generalize w1.alloc (.cells #[.int .i64 k1, .slice ka kn kc, .string (Lx.strB s1), .slice wa wn wc, .slice sa sn sc, .slice ra rn rc] 30) = w2 at *
    generalize w1.heap.size = tb at *
    refine (body_any pb a c ts vs q1 deep cmd HLI.out _ HB2.out.ps).mono ?_
    obtain ⟨D, hD⟩ : ∃ D, Ps.bodyP ts cmd q1 = D := ⟨_, rfl⟩
    rw [hD]
    cases D with
    | bad er q2 =>
      rintro e w3 ⟨cs2, ⟨k2, s2, ka2, wa2, sa2, ra2, kn2, kc2, wn2, wc2, sn2, sc2, rn2, rc2, rfl⟩, rfl, hP3, hC3⟩
      have HR := Lib.hid (loopP_bad2 hC hD)
      have HBD := Lib.hid ((HB2.out.bad hC3 hP3).kept0 ((Chg.refl [] w3).alloc (.cells #[.int .i64 k2, .slice ka2 kn2 kc2, .string (Lx.strB s2), .slice wa2 wn2 wc2, .slice sa2 sn2 sc2, .slice ra2 rn2 rc2] 30)))
      have hot2 := obj_alloc_new w3 (.cells #[.int .i64 k2, .slice ka2 kn2 kc2, .string (Lx.strB s2), .slice wa2 wn2 wc2, .slice sa2 sn2 sc2, .slice ra2 rn2 rc2] 30)
      have hot1 := obj_alloc_old (hC3.obj hot (by simpa using HT.out)) (.cells #[.int .i64 k2, .slice ka2 kn2 kc2, .string (Lx.strB s2), .slice wa2 wn2 wc2, .slice sa2 sn2 sc2, .slice ra2 rn2 rc2] 30)
      clear hP3 hC3 hC hD hot
      go_upto_region 5 with (fail)
      generalize w3.alloc (.cells #[.int .i64 k2, .slice ka2 kn2 kc2, .string (Lx.strB s2), .slice wa2 wn2 wc2, .slice sa2 sn2 sc2, .slice ra2 rn2 rc2] 30) = w4 at *
      obtain ⟨t0, t1, t2, t3, t4, t5, tf⟩ := six_cells hot1
      obtain ⟨u0, u1, u2, u3, u4, u5, uf⟩ := six_cells hot2
      obtain ⟨r0, r1, r2, r3, r4, r5, rf⟩ := node_cells_alloc HBD.out.rs
      clear hot1 hot2
      go_wp2_with fail
      refine bodyPost_ret (v := .tuple #[.agg (nodeC 7 (.slice (some ⟨w4.heap.size, 0, none⟩) 2 2)), .bool false]) (by simp [results, Tryd.results80, go_sem, nodeC, r0, r1, r2, r3, r4, r5]) rfl ?_
      rw [HR.out]
      refine HBD.out.fin6 ⟨7, [], _, none, none, none, _, _, 0, 0, 0, 0, 0, 0, rfl⟩ ?_
      exact ((Chg.refl _ _).alloc _).six _ _ _ _ _ _ _ (.inl (by simp))
    | ok m q2 =>
      rintro e w3 ⟨cs2, hM, rfl, hP3, hC3⟩
      obtain ⟨k2, s2, ka2, wa2, sa2, ra2, kn2, kc2, wn2, wc2, sn2, sc2, rn2, rc2, rfl⟩ := hM.Six
      have HR := Lib.hid (loopP_ok hC hD)
      have hal : Chg [] w3 (w3.alloc (.cells #[.int .i64 k2, .slice ka2 kn2 kc2, .string (Lx.strB s2), .slice wa2 wn2 wc2, .slice sa2 sn2 sc2, .slice ra2 rn2 rc2] 30)) := (Chg.refl [] w3).alloc _
      have HB4 := Lib.hid ((HB2.out.call hC3 hP3).kept0 hal)
      have hs3 := hC3.size
      have HN4 := Lib.hid (Sn.up (hold0 (HB2.out.hold (Nat.le_succ _) HN2.out hC3) hal) (Nat.le_refl _) (Nat.le_trans hs3 hal.size))
      have HM4 := Lib.hid (Sn.up (lo' := w.heap.size + 1) (hold0 hM hal) HLE2.out hal.size)
      have HLE4 := Lib.hid (Nat.le_trans HLE2.out (Nat.le_trans hs3 hal.size))
      have hot2 := obj_alloc_new w3 (.cells #[.int .i64 k2, .slice ka2 kn2 kc2, .string (Lx.strB s2), .slice wa2 wn2 wc2, .slice sa2 sn2 sc2, .slice ra2 rn2 rc2] 30)
      have hot1 := obj_alloc_old (hC3.obj hot (by simpa using HT.out)) (.cells #[.int .i64 k2, .slice ka2 kn2 kc2, .string (Lx.strB s2), .slice wa2 wn2 wc2, .slice sa2 sn2 sc2, .slice ra2 rn2 rc2] 30)
      clear hP3 hC3 hC hD hot hM hal hs3
      go_upto_region 5 with (fail)
      generalize w3.alloc (.cells #[.int .i64 k2, .slice ka2 kn2 kc2, .string (Lx.strB s2), .slice wa2 wn2 wc2, .slice sa2 sn2 sc2, .slice ra2 rn2 rc2] 30) = w4 at *
      obtain ⟨t0, t1, t2, t3, t4, t5, tf⟩ := six_cells hot1
      obtain ⟨u0, u1, u2, u3, u4, u5, uf⟩ := six_cells hot2
      obtain ⟨r0, r1, r2, r3, r4, r5, rf⟩ := node_cells_alloc HB4.out.rs
      have HW := Lib.hid (Chg.six ((Chg.refl [w.heap.size] w4).alloc (.cells #[.int .i64 k1, .slice ka kn kc, .string (Lx.strB s1), .slice wa wn wc, .slice sa sn sc, .slice ra rn rc, .int .i64 k2, .slice ka2 kn2 kc2, .string (Lx.strB s2), .slice wa2 wn2 wc2, .slice sa2 sn2 sc2, .slice ra2 rn2 rc2] 30)) w.heap.size (.int .i64 7) (.slice (some ⟨w4.heap.size, 0, none⟩) 2 2) (.string ⟨#[]⟩) (.slice none 0 0) (.slice none 0 0) (.slice none 0 0) (.inl (by simp)))
      have HKB2 := Lib.hid ((Chg.six (Chg.refl [w.heap.size] (w4.alloc (.cells #[.int .i64 k1, .slice ka kn kc, .string (Lx.strB s1), .slice wa wn wc, .slice sa sn sc, .slice ra rn rc, .int .i64 k2, .slice ka2 kn2 kc2, .string (Lx.strB s2), .slice wa2 wn2 wc2, .slice sa2 sn2 sc2, .slice ra2 rn2 rc2] 30))) w.heap.size (.int .i64 7) (.slice (some ⟨w4.heap.size, 0, none⟩) 2 2) (.string ⟨#[]⟩) (.slice none 0 0) (.slice none 0 0) (.slice none 0 0) (.inl (by simp))).obj (obj_alloc_new w4 _) (by have := HLE4.out; simp; omega))
      clear hot1 hot2
      go_wp2_with fail
      refine bodyPost_ret (v := .tuple #[.agg (nodeC 7 (.slice (some ⟨w4.heap.size, 0, none⟩) 2 2)), .bool true]) (by simp [results, Tryd.results80, go_sem, nodeC, r0, r1, r2, r3, r4, r5]) rfl ?_
      rw [HR.out]
      exact HB4.out.fin (ns := [n, m]) (m := 2) rfl (by decide) (by decide) (NodesAt.two HN4.out HM4.out) HW.out (by have := HLE4.out; omega) HKB2.out

end Go.Proofs.YtfgbbmnmblchiaaDoor
