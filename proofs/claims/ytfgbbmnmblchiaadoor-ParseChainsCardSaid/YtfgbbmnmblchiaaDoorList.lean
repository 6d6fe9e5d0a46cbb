/-
  A list of chains: walked. (Printed by genlist.py.)
-/
import Derived.Test.YtfgbbmnmblchiaaDoorChain
namespace Go.Proofs.YtfgbbmnmblchiaaDoor
open Go.RowKit
set_option linter.unusedVariables false

theorem chainL_mono {ts : List Lx.Tok} {cmd : Nat → Ps.Res Ps.Node} (hmv : Moves cmd) : ∀ (f p : Nat) (n m : Ps.Node) (b : Nat), p ≤ ts.length → Ps.chainL ts cmd f p n = .ok m b → p ≤ b
  | 0, p, n, m, b, _, h => by
    unfold Ps.chainL at h
    cases h
    exact Nat.le_refl _
  | f + 1, p, n, m, b, hp, h => by
    by_cases h0 : Ps.linkK ts p = 0
    · rw [chainL_end h0] at h
      cases h
      exact Nat.le_refl _
    · rw [chainL_more rfl h0] at h
      cases hc : Ps.pipeP ts cmd (Ps.endsP ts (p + 1)) with
      | bad e q => rw [hc] at h; cases h
      | ok k q =>
        rw [hc] at h
        have h1 := pipe_moves (ts := ts) hmv _ _ _ hc
        have hlt : p + 1 ≤ ts.length := by
          apply Decidable.byContradiction
          intro hn
          exact h0 (linkK_no (isT_none (by omega) _ _) (isT_none (by omega) _ _))
        have h2 := endsP_le hlt
        by_cases hq : q ≤ ts.length
        · have := chainL_mono hmv f q _ _ _ hq h
          omega
        · cases f with
          | zero =>
            replace h : Ps.chainL ts cmd 0 q (Ps.node (Ps.linkK ts p) [n, k]) = .ok m b := h
            unfold Ps.chainL at h
            cases h
            omega
          | succ f =>
            replace h : Ps.chainL ts cmd (f + 1) q (Ps.node (Ps.linkK ts p) [n, k]) = .ok m b := h
            rw [chainL_end (linkK_no (isT_none (by omega) _ _) (isT_none (by omega) _ _))] at h
            cases h
            omega
theorem chain_moves {ts : List Lx.Tok} {cmd : Nat → Ps.Res Ps.Node} (hmv : Moves cmd) {p : Nat} {n : Ps.Node} {q : Nat} (h : Ps.chainP ts cmd p = .ok n q) : p < q := by
  rw [chainP_eq] at h
  cases hl : Ps.pipeP ts cmd p with
  | bad e b => rw [hl] at h; cases h
  | ok k b =>
    rw [hl] at h
    have h1 := pipe_moves (ts := ts) hmv _ _ _ hl
    replace h : Ps.chainL ts cmd (ts.length + 1) b k = .ok n q := h
    by_cases hb : b ≤ ts.length
    · have := chainL_mono hmv _ _ _ _ _ hb h
      omega
    · rw [chainL_end (linkK_no (isT_none (by omega) _ _) (isT_none (by omega) _ _))] at h
      cases h
      exact h1

def listR (sm : Bool) : Ps.Res (List Ps.Node) → Ps.Res Ps.Node
  | .bad e b => .bad e b
  | .ok l b => if sm = true ∧ l = [] then .bad 10 b else .ok (Ps.node 1 l) b
theorem listP_eq (ts : List Lx.Tok) (cmd : Nat → Ps.Res Ps.Node) (sm : Bool) (p : Nat) : Ps.listP ts cmd sm p = listR sm (Ps.listL ts cmd (ts.length + 1) (Ps.endsP ts p) []) := by
  unfold Ps.listP
  cases Ps.listL ts cmd (ts.length + 1) (Ps.endsP ts p) [] <;> rfl
def listK (ts : List Lx.Tok) (cmd : Nat → Ps.Res Ps.Node) (f : Nat) (acc : List Ps.Node) : Ps.Res Ps.Node → Ps.Res (List Ps.Node)
  | .bad e b => .bad e b
  | .ok k b => if Ps.isT ts b 3 [] = true then Ps.listL ts cmd f (Ps.endsP ts b) (acc ++ [k]) else .ok (acc ++ [k]) b
theorem listL_end {ts : List Lx.Tok} {cmd : Nat → Ps.Res Ps.Node} {g p : Nat} {acc : List Ps.Node} (h : Ps.closing ts p = true) : Ps.listL ts cmd (g + 1) p acc = .ok acc p := by
  conv => lhs; unfold Ps.listL
  rw [if_pos h]
theorem listL_more {ts : List Lx.Tok} {cmd : Nat → Ps.Res Ps.Node} {g p : Nat} {acc : List Ps.Node} (h : Ps.closing ts p = false) : Ps.listL ts cmd (g + 1) p acc = listK ts cmd g acc (Ps.chainP ts cmd p) := by
  conv => lhs; unfold Ps.listL
  rw [if_neg (by rw [h]; decide)]
  cases Ps.chainP ts cmd p <;> rfl

set_option maxHeartbeats 8000000 in
set_option maxRecDepth 10000 in
theorem list_any (pb : Nat) (a : Option Addr) (c : Nat) (ts : List Lx.Tok) (vs : List Value) (p deep : Nat) (cmd : Nat → Ps.Res Ps.Node) (hcmd : CmdOk pb a c ts vs deep cmd) (hmv : Moves cmd) (sm : Bool) (w : World) (h : PS w pb a c ts vs p deep 0) :
    Calls Tryd.prog 13 #[.pointer (some ⟨pb, 0, none⟩), .bool sm] w fun e w' => RdPost w pb a c ts vs deep (Ps.listP ts cmd sm p) e w' := by
  have HCH := Lib.hid (fun (p : Nat) (W : World) (h : PS W pb a c ts vs p deep 0) => chain_any pb a c ts vs p deep cmd hcmd hmv W h)
  have HMV := Lib.hid (fun (p : Nat) (n : Ps.Node) (q : Nat) (h : Ps.chainP ts cmd p = .ok n q) => chain_moves hmv h)
  have hfew := h.few
  have HK0 := Lib.hid (KidsAt.start h 1)
  have hends := endsP_le h.le
  obtain ⟨R, hR⟩ : ∃ R, Ps.listL ts cmd (ts.length + 1) (Ps.endsP ts p) [] = R := ⟨_, rfl⟩
  have HR2 := Lib.hid (show Ps.listP ts cmd sm p = listR sm R from by rw [← hR, listP_eq])
  have HR := Lib.hid hR
  obtain ⟨i0, hi, hz0, hz1, hz2⟩ := info_parts Tryd.infoNode
  clear h hcmd hmv hR
  go_enter Tryd.func13, Tryd.ntmps13
  go_wp2_with fail
  refine (ends_any pb a c ts vs p deep _ HK0.out.ps).mono ?_
  rintro e w1 ⟨rfl, hP1, hC1⟩
  have HK1 := Lib.hid (HK0.out.call hC1 hP1 hends.1)
  clear hP1 hC1 HK0
  generalize w.heap.size = rb at *
  go_wp2_with fail
  go_loopg [7, 8] (ts.length + 1) (fun g c7 c8 wr => ∃ (q : Nat) (acc : List Ps.Node) (kv : Value) (xs : List Value), ts.length < q + g ∧ KidsAt w pb a c ts vs rb (rb + 1) 1 q deep acc kv xs wr ∧ Hid (R = Ps.listL ts cmd g q acc))
  case atStart => exact ⟨_, [], _, [], by omega, HK1.out, Lib.hid HR.out.symm⟩
  case round =>
    obtain ⟨q, acc, kv, xs, hg, hK, hr⟩ := hrel
    clear HK1 HR
    have hle := hK.ps.le
    have HK := Lib.hid hK
    clear hK
    cases gk with
    | zero => omega
    | succ g =>
    have HG := Lib.hid hg
    have CL := fun (x : Bool) (hx : Ps.closing ts q = x) => hx ▸ closing_any pb a c ts vs q deep 0 _ HK.out.ps
    clear hg
    cases hb : Ps.closing ts q with
    | true =>
      have CL1 := Lib.hid (CL _ hb)
      have HR3 := Lib.hid (HR2.out.trans (congrArg (listR sm) (hr.out.trans (listL_end (g := g) hb))))
      clear CL hb hr
      go_wp2_with fail
      refine CL1.out.mono ?_
      rintro e w5 ⟨rfl, hC5⟩
      have HK5 := Lib.hid (HK.out.kept0 hC5)
      obtain ⟨ao, co, rfl, hac, hcm⟩ := HK5.out.row.shape
      have hm1 : (acc.length : Int) ≤ 100000 := by have := HK5.out.few; omega
      clear hC5 CL1 HK
      obtain ⟨d0, d1, d2, d3, d4, d5, df⟩ := node_cells HK5.out.nd
      obtain ⟨r0, r1, r2, r3, r4, r5, rf⟩ := node_cells HK5.out.rs
      by_cases hm : acc = []
      · subst hm
        have hz : ((([] : List Ps.Node).length : Int) == 0) = true := rfl
        cases sm with
        | true =>
          have hF := fail_any pb a c ts vs q deep 10 w5 HK5.out.ps
          have HF := Lib.hid hF
          clear hF hac hcm
          go_wp2_with fail
          refine HF.out.mono ?_
          rintro e w6 ⟨rfl, P6, C6⟩
          have HP6 := Lib.hid P6
          have HC6 := Lib.hid C6
          obtain ⟨s0, s1, s2, s3, s4, s5, sf⟩ := node_cells (C6.obj HK5.out.rs (by have := HK5.out.old.1; have := HK5.out.rb0; simp; omega))
          clear P6 C6
          go_wp2_with fail
          refine bodyPost_ret (v := .tuple #[.agg (nodeC 0 (.slice none 0 0)), .bool false]) (by simp [results, Tryd.results13, go_sem, nodeC, s0, s1, s2, s3, s4, s5]) rfl ?_
          rw [HR3.out, show listR true (.ok [] q) = .bad 10 q from rfl]
          refine HK5.out.finB HP6.out HC6.out ?_
          exact (Chg.refl _ _).six _ _ _ _ _ _ _ (.inl (by simp))
        | false =>
          have HE := Lib.hid (show listR false (.ok [] q) = .ok (Ps.node 1 []) q from rfl)
          have hcl := fun (W : World) => clip_nodes ao 0 co hac hcm W
          have HCL := Lib.hid hcl
          clear hac hcm hcl
          go_wp2_with fail
          refine (HCL.out _).mono ?_
          rintro e w6 ⟨rfl, rfl⟩
          go_wp2_with fail
          refine bodyPost_ret (v := .tuple #[.agg (nodeC 1 (.slice ao 0 0)), .bool true]) (by simp [results, Tryd.results13, go_sem, nodeC, r0, r1, r2, r3, r4, r5]) rfl ?_
          rw [HR3.out, HE.out]
          refine HK5.out.finN rfl (by simp) ?_
          exact ((Chg.refl _ _).setCell _ _ (.inl (by simp))).six _ _ _ _ _ _ _ (.inl (by simp))
      · have hm0 : acc.length ≠ 0 := fun h => hm (List.eq_nil_of_length_eq_zero h)
        have HE := Lib.hid (show listR sm (.ok acc q) = .ok (Ps.node 1 acc) q from if_neg (fun h => hm h.2))
        clear hm
        cases sm
        all_goals
          have hcl := fun (W : World) => clip_nodes ao acc.length co hac hcm W
          have HCL := Lib.hid hcl
          clear hac hcm hcl
          go_wp2_with fail
          refine (HCL.out _).mono ?_
          rintro e w6 ⟨rfl, rfl⟩
          go_wp2_with fail
          refine bodyPost_ret (v := .tuple #[.agg (nodeC 1 (.slice ao acc.length acc.length)), .bool true]) (by simp [results, Tryd.results13, go_sem, nodeC, r0, r1, r2, r3, r4, r5]) rfl ?_
          rw [HR3.out, HE.out]
          refine HK5.out.finN rfl (by simp) ?_
          exact ((Chg.refl _ _).setCell _ _ (.inl (by simp))).six _ _ _ _ _ _ _ (.inl (by simp))
    | false =>
      have CL1 := Lib.hid (CL _ hb)
      have hr := Lib.hid (hr.out.trans (listL_more (g := g) hb))
      clear CL hb
      go_wp2_with fail
      refine CL1.out.mono ?_
      rintro e w0 ⟨rfl, hC0⟩
      have HK := Lib.hid (HK.out.kept0 hC0)
      clear hC0 CL1
      obtain ⟨C, hC⟩ : ∃ C, Ps.chainP ts cmd q = C := ⟨_, rfl⟩
      go_wp2_with fail
      refine (HCH.out q _ HK.out.ps).mono ?_
      rw [hC]
      cases C with
      | bad er q1 =>
        rintro e w1 ⟨cs, ⟨k1, s1, ka, wa, sa, ra, kn, kc, wn, wc, sn, sc, rn, rc, rfl⟩, rfl, hP, hC1⟩
        have HR3 := Lib.hid (show Ps.listP ts cmd sm p = .bad er q1 from by rw [HR2.out, hr.out, hC]; rfl)
        have HP1 := Lib.hid hP
        have HC1 := Lib.hid hC1
        obtain ⟨r0, r1, r2, r3, r4, r5, rf⟩ := node_cells_alloc (HC1.out.obj HK.out.rs (by have := HK.out.old.1; have := HK.out.rb0; simp; omega))
        clear hP hC1 hC hr
        go_wp2_with fail
        refine bodyPost_ret (v := .tuple #[.agg (nodeC 0 (.slice none 0 0)), .bool false]) (by simp [results, Tryd.results13, go_sem, nodeC, r0, r1, r2, r3, r4, r5]) rfl ?_
        rw [HR3.out]
        refine HK.out.finB HP1.out HC1.out ?_
        first | exact ((Chg.refl _ _).alloc _).six _ _ _ _ _ _ _ (.inl (by simp)) | exact ((Chg.refl _ _).six _ _ _ _ _ _ _ (.inl (by simp))).alloc _
      | ok n q1 =>
        rintro e w1 ⟨cs, hN, rfl, hP, hC1⟩
        have hq1 := HMV.out _ _ _ hC
        have hq2 := hP.le
        have HK1 := Lib.hid (HK.out.call hC1 hP (Nat.le_of_lt hq1))
        have HN := Lib.hid (HK.out.got hN)
        have hr := Lib.hid (show R = (if Ps.isT ts q1 3 [] = true then Ps.listL ts cmd g (Ps.endsP ts q1) (acc ++ [n]) else .ok (acc ++ [n]) q1) from by rw [hr.out, hC]; rfl)
        obtain ⟨nk, nn, ka, wa, sa, ra, kn, kc, wn, wc, sn, sc, rn, rc, rfl⟩ := hN.Six
        obtain ⟨ao, co, rfl, hao, hco⟩ := HK.out.row.shape
        have hfw := HK.out.few
        have hone := HN.out.one.2
        obtain ⟨d0, d1, d2, d3, d4, d5, df⟩ := node_cells_alloc HK1.out.nd
        have d1a := fun (o o2 : Obj) => (node_cells (obj_alloc_old (obj_alloc_old HK1.out.nd o) o2)).2.1
        have nb1 : (acc.length : Int) ≤ 100000 := by omega
        clear hP hC1 hN hC HK d0 d2 d3 d4 d5 df
        have HONE := Lib.hid hone
        clear hone
        go_wp2_with (at_builtin; refine wpList_append_row _ rfl _ _ 25 rfl 30 i0 _ 6 120 Tryd.underlying25 hi hz0 hz1 hz2 rfl (by decide) _ acc.length xs rfl (HK1.out.row.kept0 (((Chg.refl [] _).alloc _).alloc _)) _ 1 1 [.int .i64 nk, .slice ka kn kc, .string (Lx.strB nn), .slice wa wn wc, .slice sa sn sc, .slice ra rn rc] rfl rfl (srcNew2 _ _ _ _ _) HONE.out (by unfold maxLen; omega) (by omega) ?_)
        intro v' w3 r5 q5 g5
        obtain ⟨av, cap, rfl, hac, hcm⟩ := r5.shape
        have HK3 := Lib.hid (HK1.out.add HN.out (((Chg.refl [] _).alloc _).alloc _) r5 q5 (fun x hx => (g5 x hx).imp id (fun h => by omega)) (by omega))
        have hnd3 := (((Chg.refl [] w1).alloc _).alloc _ |>.mono (G := rowBlock (.slice ao acc.length co)) (by simp)).trans q5 (fun x hx => .inl hx) |>.obj HK1.out.nd (fun hj => (HK1.out.new _ hj).2.2 rfl)
        have e1 := cell_of_obj hnd3 (j := 1) rfl
        have ef := free_of_obj hnd3 1
        have IS := fun (x : Bool) (hx : Ps.isT ts q1 3 [] = x) => hx ▸ is_any pb a c ts vs q1 deep 0 3 [] _ HK3.out.ps
        clear d1 d1a r5 g5
        cases hb : Ps.isT ts q1 3 [] with
        | true =>
          have hlt := isT_lt hb
          have IS1 := Lib.hid (IS _ hb)
          have HR3 := Lib.hid (hr.out.trans (if_pos hb))
          clear IS hb hr
          go_wp2_with fail
          refine IS1.out.mono ?_
          rintro e w5 ⟨rfl, n1, rfl⟩
          have HK5 := Lib.hid (HK3.out.kept0 ((Chg.refl [] _).drewN n1))
          have hends := endsP_le hq2
          go_wp2_with fail
          refine (ends_any pb a c ts vs q1 deep _ HK5.out.ps).mono ?_
          rintro e w6 ⟨rfl, hP6, hC6⟩
          have HK6 := Lib.hid (HK5.out.call hC6 hP6 hends.1)
          clear hP6 hC6 HK5 HK3
          go_wp2
          go_roundg g
          case measure => omega
          case rel => exact ⟨_, acc ++ [n], _, _, by have := HG.out; omega, HK6.out, HR3⟩
        | false =>
          have IS1 := Lib.hid (IS _ hb)
          have HR3 := Lib.hid (HR2.out.trans (congrArg (listR sm) (hr.out.trans (if_neg (by rw [hb]; decide)))))
          have HE := Lib.hid (show listR sm (.ok (acc ++ [n]) q1) = .ok (Ps.node 1 (acc ++ [n])) q1 from if_neg (fun h => by simp at h))
          clear IS hb hr
          go_wp2_with fail
          refine IS1.out.mono ?_
          rintro e w5 ⟨rfl, n1, rfl⟩
          have HK5 := Lib.hid (HK3.out.kept0 ((Chg.refl [] _).drewN n1))
          generalize (w3.setCell ⟨rb + 1, 1, none⟩ (.slice av (acc.length + 1) cap)).drewN n1 = w5 at *
          clear HK3 q5 hnd3 e1 ef
          obtain ⟨d0, d1, d2, d3, d4, d5, df⟩ := node_cells HK5.out.nd
          obtain ⟨r0, r1, r2, r3, r4, r5, rf⟩ := node_cells HK5.out.rs
          cases sm
          all_goals
            have hcl := fun (W : World) => clip_nodes av (acc.length + 1) cap hac hcm W
            have HCL := Lib.hid hcl
            clear hac hcm hcl
            go_wp2_with fail
            refine (HCL.out _).mono ?_
            rintro e w6 ⟨rfl, rfl⟩
            go_wp2_with fail
            refine bodyPost_ret (v := .tuple #[.agg (nodeC 1 (.slice av (acc.length + 1) (acc.length + 1))), .bool true]) (by simp [results, Tryd.results13, go_sem, nodeC, r0, r1, r2, r3, r4, r5]) rfl ?_
            rw [HR3.out, HE.out]
            refine HK5.out.finN rfl (by simp) ?_
            exact ((Chg.refl _ _).setCell _ _ (.inl (by simp))).six _ _ _ _ _ _ _ (.inl (by simp))

end Go.Proofs.YtfgbbmnmblchiaaDoor
