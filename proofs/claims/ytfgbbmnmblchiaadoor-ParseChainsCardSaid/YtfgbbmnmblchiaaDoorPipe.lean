/-
  Commands between |: walked.
-/
import Derived.Test.YtfgbbmnmblchiaaDoorKids
namespace Go.Proofs.YtfgbbmnmblchiaaDoor
open Go.RowKit
set_option linter.unusedVariables false

set_option maxRecDepth 10000 in
theorem clip_nodes (a : Option Addr) (n c : Nat) (hn : n ≤ c) (hc : c ≤ maxLen) (w : World) :
    Calls Tryd.prog 30 #[.slice a n c] w fun e w' => e = .returned (.slice a n n) ∧ w' = w := by
  have h1 : (n : Int) ≤ (c : Int) := by omega
  have h0 : (0 : Int) ≤ (n : Int) := by omega
  go_enter Tryd.func30, Tryd.ntmps30
  go_wp2
  go_ret
  exact ⟨rfl, rfl⟩

/-- a reader of commands moves on. -/
def Moves (cmd : Nat → Ps.Res Ps.Node) : Prop := ∀ p n q, cmd p = .ok n q → p < q

/-- what a walk of 'command' says, from a depth on. -/
def CmdOk (pb : Nat) (a : Option Addr) (c : Nat) (ts : List Lx.Tok) (vs : List Value) (deep : Nat) (cmd : Nat → Ps.Res Ps.Node) : Prop :=
  ∀ (p : Nat) (w : World), PS w pb a c ts vs p deep 0 → Calls Tryd.prog 60 #[.pointer (some ⟨pb, 0, none⟩)] w fun e w' => RdPost w pb a c ts vs deep (cmd p) e w'

def pipeR : Ps.Res (List Ps.Node) → Ps.Res Ps.Node
  | .bad e b => .bad e b
  | .ok l b => .ok (Ps.pipeN l) b
theorem pipeP_eq (ts : List Lx.Tok) (cmd : Nat → Ps.Res Ps.Node) (p : Nat) : Ps.pipeP ts cmd p = pipeR (Ps.pipeL ts cmd (ts.length + 1) p []) := by
  unfold Ps.pipeP
  cases Ps.pipeL ts cmd (ts.length + 1) p [] <;> rfl
theorem pipeL_bad {ts : List Lx.Tok} {cmd : Nat → Ps.Res Ps.Node} {g p : Nat} {acc : List Ps.Node} {e : Int} {b : Nat} (h : cmd p = .bad e b) : Ps.pipeL ts cmd (g + 1) p acc = .bad e b := by
  conv => lhs; unfold Ps.pipeL
  rw [h]
theorem pipeL_more {ts : List Lx.Tok} {cmd : Nat → Ps.Res Ps.Node} {g p : Nat} {acc : List Ps.Node} {k : Ps.Node} {b : Nat} (h : cmd p = .ok k b) (h2 : Ps.isT ts b 2 [124] = true) : Ps.pipeL ts cmd (g + 1) p acc = Ps.pipeL ts cmd g (b + 1) (acc ++ [k]) := by
  conv => lhs; unfold Ps.pipeL
  rw [h]
  show (if _ then _ else _) = _
  rw [if_pos h2]
theorem pipeL_end {ts : List Lx.Tok} {cmd : Nat → Ps.Res Ps.Node} {g p : Nat} {acc : List Ps.Node} {k : Ps.Node} {b : Nat} (h : cmd p = .ok k b) (h2 : Ps.isT ts b 2 [124] = false) : Ps.pipeL ts cmd (g + 1) p acc = .ok (acc ++ [k]) b := by
  conv => lhs; unfold Ps.pipeL
  rw [h]
  show (if _ then _ else _) = _
  rw [if_neg (by rw [h2]; decide)]

set_option maxHeartbeats 4000000 in
set_option maxRecDepth 10000 in
theorem pipe_any (pb : Nat) (a : Option Addr) (c : Nat) (ts : List Lx.Tok) (vs : List Value) (p deep : Nat) (cmd : Nat → Ps.Res Ps.Node) (hcmd : CmdOk pb a c ts vs deep cmd) (hmv : Moves cmd) (w : World) (h : PS w pb a c ts vs p deep 0) :
    Calls Tryd.prog 46 #[.pointer (some ⟨pb, 0, none⟩)] w fun e w' => RdPost w pb a c ts vs deep (Ps.pipeP ts cmd p) e w' := by
  obtain ⟨R, hR⟩ : ∃ R, Ps.pipeL ts cmd (ts.length + 1) p [] = R := ⟨_, rfl⟩
  have HR2 := Lib.hid (show Ps.pipeP ts cmd p = pipeR R from by rw [← hR, pipeP_eq])
  have HR := Lib.hid hR
  have HCMD := Lib.hid hcmd
  have HMV := Lib.hid hmv
  have hfew := h.few
  have HK0 := Lib.hid (KidsAt.start h 4)
  obtain ⟨i0, hi, hz0, hz1, hz2⟩ := info_parts Tryd.infoNode
  clear hR h hcmd hmv
  go_enter Tryd.func46, Tryd.ntmps46
  go_wp2_with fail
  generalize w.heap.size = rb at *
  go_loopg [5, 6] (ts.length + 1) (fun g c5 c6 wr => ∃ (q : Nat) (acc : List Ps.Node) (kv : Value) (xs : List Value), ts.length < q + g ∧ KidsAt w pb a c ts vs rb (rb + 1) 4 q deep acc kv xs wr ∧ Hid (R = Ps.pipeL ts cmd g q acc))
  case atStart => exact ⟨p, [], _, [], by omega, HK0.out, Lib.hid HR.out.symm⟩
  case round =>
    obtain ⟨q, acc, kv, xs, hg, hK, hr⟩ := hrel
    clear HK0 HR
    have hle := hK.ps.le
    have HK := Lib.hid hK
    clear hK
    cases gk with
    | zero => omega
    | succ g =>
      have HG := Lib.hid hg
      clear hg
      obtain ⟨C, hC⟩ : ∃ C, cmd q = C := ⟨_, rfl⟩
      go_wp2_with fail
      refine (HCMD.out q _ HK.out.ps).mono ?_
      rw [hC]
      cases C with
      | bad er q1 =>
        rintro e w1 ⟨cs, ⟨k1, s1, ka, wa, sa, ra, kn, kc, wn, wc, sn, sc, rn, rc, rfl⟩, rfl, hP, hC1⟩
        have HR3 := Lib.hid (show Ps.pipeP ts cmd p = .bad er q1 from by rw [HR2.out, hr.out, pipeL_bad hC]; rfl)
        have HP1 := Lib.hid hP
        have HC1 := Lib.hid hC1
        obtain ⟨r0, r1, r2, r3, r4, r5, rf⟩ := node_cells_alloc (HC1.out.obj HK.out.rs (by have := HK.out.old.1; have := HK.out.rb0; simp; omega))
        clear hP hC1 hC hr
        go_wp2_with fail
        refine bodyPost_ret (v := .tuple #[.agg (nodeC 0 (.slice none 0 0)), .bool false]) (by simp [results, Tryd.results46, go_sem, nodeC, r0, r1, r2, r3, r4, r5]) rfl ?_
        rw [HR3.out]
        refine HK.out.finB HP1.out HC1.out ?_
        first | exact ((Chg.refl _ _).alloc _).six _ _ _ _ _ _ _ (.inl (by simp)) | exact ((Chg.refl _ _).six _ _ _ _ _ _ _ (.inl (by simp))).alloc _
      | ok n q1 =>
        rintro e w1 ⟨cs, hN, rfl, hP, hC1⟩
        have hq1 := HMV.out _ _ _ hC
        have hq2 := hP.le
        have HK1 := Lib.hid (HK.out.call hC1 hP (Nat.le_of_lt hq1))
        have HN := Lib.hid (HK.out.got hN)
        have HC := Lib.hid hC
        obtain ⟨nk, nn, ka, wa, sa, ra, kn, kc, wn, wc, sn, sc, rn, rc, rfl⟩ := hN.Six
        obtain ⟨ao, co, rfl, hao, hco⟩ := HK.out.row.shape
        have hfw := HK.out.few
        have hone := HN.out.one.2
        obtain ⟨d0, d1, d2, d3, d4, d5, df⟩ := node_cells_alloc HK1.out.nd
        have d1a := fun (o o2 : Obj) => (node_cells (obj_alloc_old (obj_alloc_old HK1.out.nd o) o2)).2.1
        have nb1 : (acc.length : Int) ≤ 100000 := by omega
        clear hP hC1 hN hC HK d0 d2 d3 d4 d5 df
        have HONE := Lib.hid hone
        clear hone
        go_wp2_with (at_builtin; refine wpList_append_row _ rfl _ _ 25 rfl 30 i0 _ 6 120 Tryd.underlying25 hi hz0 hz1 hz2 rfl (by decide) _ acc.length xs rfl (HK1.out.row.kept0 (((Chg.refl [] _).alloc _).alloc _)) _ 1 1 [.int .i64 nk, .slice ka kn kc, .string (Lx.strB nn), .slice wa wn wc, .slice sa sn sc, .slice ra rn rc] rfl rfl (srcNew2 _ _ _ _ _) HONE.out (by unfold maxLen; omega) (by omega) ?_)
        intro v' w3 r5 q5 g5
        obtain ⟨av, cap, rfl, hac, hcm⟩ := r5.shape
        have HK3 := Lib.hid (HK1.out.add HN.out (((Chg.refl [] _).alloc _).alloc _) r5 q5 (fun x hx => (g5 x hx).imp id (fun h => by omega)) (by omega))
        have hnd3 := (((Chg.refl [] w1).alloc _).alloc _ |>.mono (G := rowBlock (.slice ao acc.length co)) (by simp)).trans q5 (fun x hx => .inl hx) |>.obj HK1.out.nd (fun hj => (HK1.out.new _ hj).2.2 rfl)
        have e1 := cell_of_obj hnd3 (j := 1) rfl
        have ef := free_of_obj hnd3 1
        have IS := fun (x : Bool) (hx : Ps.isT ts q1 2 [124] = x) => hx ▸ is_any pb a c ts vs q1 deep 0 2 [124] _ HK3.out.ps
        clear d1 d1a r5 g5
        cases hb : Ps.isT ts q1 2 [124] with
        | true =>
          have hlt := isT_lt hb
          have IS1 := Lib.hid (IS _ hb)
          have HR3 := Lib.hid (hr.out.trans (pipeL_more HC.out hb))
          clear IS hb hr
          go_wp2_with fail
          refine IS1.out.mono ?_
          rintro e w5 ⟨rfl, n1, rfl⟩
          have HK5 := Lib.hid (HK3.out.kept0 ((Chg.refl [] _).drewN n1))
          have x1 := HK5.out.ps.c1
          have f1 := HK5.out.ps.free 1
          go_wp2
          go_roundg g
          case measure => omega
          case rel => exact ⟨q1 + 1, acc ++ [n], _, _, by have := HG.out; omega, HK5.out.setAt _ (by go_num) (by omega), HR3⟩
        | false =>
          have IS1 := Lib.hid (IS _ hb)
          have HR3 := Lib.hid (HR2.out.trans (congrArg pipeR (hr.out.trans (pipeL_end HC.out hb))))
          clear IS hb hr
          go_wp2_with fail
          refine IS1.out.mono ?_
          rintro e w5 ⟨rfl, n1, rfl⟩
          have HK5 := Lib.hid (HK3.out.kept0 ((Chg.refl [] _).drewN n1))
          generalize (w3.setCell ⟨rb + 1, 1, none⟩ (.slice av (acc.length + 1) cap)).drewN n1 = w5 at *
          clear HK3 q5 hnd3 e1 ef
          obtain ⟨d0, d1, d2, d3, d4, d5, df⟩ := node_cells HK5.out.nd
          obtain ⟨r0, r1, r2, r3, r4, r5, rf⟩ := node_cells HK5.out.rs
          by_cases hm : acc = []
          · subst hm
            have hxs : xs = [] := List.eq_nil_of_length_eq_zero (by have := HK1.out.row.1; simpa using this)
            subst hxs
            obtain ⟨gb, rfl, hx⟩ := HK5.out.row.head (by simp)
            have y0 := hx 0 _ rfl
            have y1 := hx 1 _ rfl
            have y2 := hx 2 _ rfl
            have y3 := hx 3 _ rfl
            have y4 := hx 4 _ rfl
            have y5 := hx 5 _ rfl
            clear hx
            have HN5 := Lib.hid (show NodesAt _ _ [n] _ from HK5.out.nodes)
            go_wp2_with fail
            refine bodyPost_ret (v := .tuple #[.agg #[.int .i64 nk, .slice ka kn kc, .string (Lx.strB nn), .slice wa wn wc, .slice sa sn sc, .slice ra rn rc], .bool true]) (by simp [results, Tryd.results46, go_sem, r0, r1, r2, r3, r4, r5]) rfl ?_
            rw [HR3.out]
            refine HK5.out.fin1 HN5.out.one ?_
            exact (Chg.refl _ _).six _ _ _ _ _ _ _ (.inl (by simp))
          · have hm0 : acc.length ≠ 0 := fun h => hm (List.eq_nil_of_length_eq_zero h)
            have HM := Lib.hid hm
            have hcl := fun (W : World) => clip_nodes av (acc.length + 1) cap hac hcm W
            have HCL := Lib.hid hcl
            clear hac hcm hcl hm
            go_wp2_with fail
            refine (HCL.out _).mono ?_
            rintro e w6 ⟨rfl, rfl⟩
            go_wp2_with fail
            refine bodyPost_ret (v := .tuple #[.agg (nodeC 4 (.slice av (acc.length + 1) (acc.length + 1))), .bool true]) (by simp [results, Tryd.results46, go_sem, nodeC, r0, r1, r2, r3, r4, r5]) rfl ?_
            rw [HR3.out, show pipeR (.ok (acc ++ [n]) q1) = .ok (Ps.node 4 (acc ++ [n])) q1 from by
              cases acc with
              | nil => exact absurd rfl HM.out
              | cons x l => cases l <;> rfl]
            refine HK5.out.finN rfl (by simp) ?_
            exact ((Chg.refl _ _).setCell _ _ (.inl (by simp))).six _ _ _ _ _ _ _ (.inl (by simp))

end Go.Proofs.YtfgbbmnmblchiaaDoor
