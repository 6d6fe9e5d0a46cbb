/-
  Pipes between && and two strokes: walked.
-/
import Derived.Test.YtfgbbmnmblchiaaDoorPm04
namespace Go.Proofs.YtfgbbmnmblchiaaDoor
open Go.RowKit
set_option linter.unusedVariables false

theorem pipeL_mono {ts : List Lx.Tok} {cmd : Nat → Ps.Res Ps.Node} (hmv : Moves cmd) : ∀ (f p : Nat) (acc l : List Ps.Node) (b : Nat), Ps.pipeL ts cmd f p acc = .ok l b → p ≤ b ∧ (0 < f → p < b)
  | 0, p, acc, l, b, h => by
    unfold Ps.pipeL at h
    cases h
    exact ⟨Nat.le_refl _, fun h => absurd h (by omega)⟩
  | f + 1, p, acc, l, b, h => by
    cases hc : cmd p with
    | bad e q => rw [pipeL_bad hc] at h; cases h
    | ok k q =>
      have h1 := hmv p k q hc
      cases hb : Ps.isT ts q 2 [124] with
      | true =>
        rw [pipeL_more hc hb] at h
        have := pipeL_mono hmv f _ _ _ _ h
        exact ⟨by omega, fun _ => by omega⟩
      | false =>
        rw [pipeL_end hc hb] at h
        cases h
        exact ⟨by omega, fun _ => h1⟩
theorem pipe_moves {ts : List Lx.Tok} {cmd : Nat → Ps.Res Ps.Node} (hmv : Moves cmd) : Moves (Ps.pipeP ts cmd) := by
  intro p n q h
  rw [pipeP_eq] at h
  cases hl : Ps.pipeL ts cmd (ts.length + 1) p [] with
  | bad e b => rw [hl] at h; cases h
  | ok l b =>
    rw [hl] at h
    cases h
    exact (pipeL_mono hmv _ _ _ _ _ hl).2 (by omega)

def chainR (ts : List Lx.Tok) (cmd : Nat → Ps.Res Ps.Node) (f : Nat) : Ps.Res Ps.Node → Ps.Res Ps.Node
  | .bad e b => .bad e b
  | .ok n b => Ps.chainL ts cmd f b n
theorem chainP_eq (ts : List Lx.Tok) (cmd : Nat → Ps.Res Ps.Node) (p : Nat) : Ps.chainP ts cmd p = chainR ts cmd (ts.length + 1) (Ps.pipeP ts cmd p) := by
  unfold Ps.chainP
  cases Ps.pipeP ts cmd p <;> rfl
def chainK (ts : List Lx.Tok) (cmd : Nat → Ps.Res Ps.Node) (f : Nat) (lk : Int) (n : Ps.Node) : Ps.Res Ps.Node → Ps.Res Ps.Node
  | .bad e b => .bad e b
  | .ok k b => Ps.chainL ts cmd f b (Ps.node lk [n, k])
theorem chainL_end {ts : List Lx.Tok} {cmd : Nat → Ps.Res Ps.Node} {g p : Nat} {n : Ps.Node} (h : Ps.linkK ts p = 0) : Ps.chainL ts cmd (g + 1) p n = .ok n p := by
  conv => lhs; unfold Ps.chainL
  rw [if_pos h]
theorem chainL_more {ts : List Lx.Tok} {cmd : Nat → Ps.Res Ps.Node} {g p : Nat} {n : Ps.Node} {lk : Int} (h : Ps.linkK ts p = lk) (h0 : lk ≠ 0) : Ps.chainL ts cmd (g + 1) p n = chainK ts cmd g lk n (Ps.pipeP ts cmd (Ps.endsP ts (p + 1))) := by
  conv => lhs; unfold Ps.chainL
  rw [if_neg (by rw [h]; exact h0), h]
  cases Ps.pipeP ts cmd (Ps.endsP ts (p + 1)) <;> rfl
theorem linkK_and {ts : List Lx.Tok} {p : Nat} (h : Ps.isT ts p 2 [38, 38] = true) : Ps.linkK ts p = 2 := by unfold Ps.linkK; rw [if_pos h]
theorem linkK_or {ts : List Lx.Tok} {p : Nat} (h : Ps.isT ts p 2 [38, 38] = false) (h2 : Ps.isT ts p 2 [124, 124] = true) : Ps.linkK ts p = 3 := by unfold Ps.linkK; rw [if_neg (by rw [h]; decide), if_pos h2]
theorem linkK_no {ts : List Lx.Tok} {p : Nat} (h : Ps.isT ts p 2 [38, 38] = false) (h2 : Ps.isT ts p 2 [124, 124] = false) : Ps.linkK ts p = 0 := by unfold Ps.linkK; rw [if_neg (by rw [h]; decide), if_neg (by rw [h2]; decide)]

set_option maxHeartbeats 8000000 in
set_option maxRecDepth 10000 in
theorem chain_any (pb : Nat) (a : Option Addr) (c : Nat) (ts : List Lx.Tok) (vs : List Value) (p deep : Nat) (cmd : Nat → Ps.Res Ps.Node) (hcmd : CmdOk pb a c ts vs deep cmd) (hmv : Moves cmd) (w : World) (h : PS w pb a c ts vs p deep 0) :
    Calls Tryd.prog 28 #[.pointer (some ⟨pb, 0, none⟩)] w fun e w' => RdPost w pb a c ts vs deep (Ps.chainP ts cmd p) e w' := by
  have HPI := Lib.hid (fun (p : Nat) (W : World) (h : PS W pb a c ts vs p deep 0) => pipe_any pb a c ts vs p deep cmd hcmd hmv W h)
  have HMV := Lib.hid (pipe_moves (ts := ts) hmv)
  have hfew := h.few
  have HP0 := Lib.hid h
  obtain ⟨C, hC⟩ : ∃ C, Ps.pipeP ts cmd p = C := ⟨_, rfl⟩
  have HR2 := Lib.hid (show Ps.chainP ts cmd p = chainR ts cmd (ts.length + 1) C from by rw [← hC, chainP_eq])
  clear h hcmd hmv
  go_enter Tryd.func28, Tryd.ntmps28
  go_wp2_with fail
  refine (HPI.out p _ (HP0.out.chg0 ((Chg.refl [] w).alloc _))).mono ?_
  rw [hC]
  cases C with
  | bad er q1 =>
    rintro e w1 ⟨cs, ⟨k1, s1, ka, wa, sa, ra, kn, kc, wn, wc, sn, sc, rn, rc, rfl⟩, rfl, hP, hC1⟩
    have HB := Lib.hid (show BadB w pb a c ts vs w.heap.size q1 deep er w1 from
      { ps := hP, rs := hC1.obj (obj_alloc_new w _) (by have := HP0.out.lt; simp; omega), chg := ((Chg.refl [pb] w).alloc _).trans hC1 (fun x hx => .inl hx), rb0 := Nat.le_refl _, old := ⟨HP0.out.lt, HP0.out.tb_lt⟩ })
    generalize w.heap.size = rb at *
    obtain ⟨r0, r1, r2, r3, r4, r5, rf⟩ := node_cells_alloc HB.out.rs
    clear hP hC1
    go_wp2_with fail
    go_loopg [5] 1 (fun g c5 wr => c5 = .bool false ∧ BadB w pb a c ts vs rb q1 deep er wr)
    case atStart => exact ⟨rfl, HB.out.kept0 ((Chg.refl [] _).alloc _)⟩
    case round =>
      obtain ⟨rfl, hB⟩ := hrel
      clear r0 r1 r2 r3 r4 r5 rf HB
      have HB := Lib.hid hB
      obtain ⟨r0, r1, r2, r3, r4, r5, rf⟩ := node_cells hB.rs
      clear hB
      go_wp2_with fail
      refine bodyPost_ret (v := .tuple #[.agg (nodeC 0 (.slice none 0 0)), .bool false]) (by simp [results, Tryd.results28, go_sem, nodeC, r0, r1, r2, r3, r4, r5]) rfl ?_
      rw [HR2.out]
      exact HB.out.fin ((Chg.refl _ _).six _ _ _ _ _ _ _ (.inl (by simp)))
  | ok n q1 =>
    rintro e w1 ⟨cs, hN, rfl, hP, hC1⟩
    have HN0 := Lib.hid (NodeB.start HP0.out hP hC1 hN)
    obtain ⟨nk, nn, ka, wa, sa, ra, kn, kc, wn, wc, sn, sc, rn, rc, rfl⟩ := hN.Six
    have hq1 := HMV.out _ _ _ hC
    clear hN hP hC1
    go_wp2_with fail
    generalize w.heap.size = rb at *
    generalize w1.heap.size = nb at *
    go_loopg [5] (ts.length + 1) (fun g c5 wr => (∃ (q : Nat) (n : Ps.Node) (cs : List Value), c5 = .bool true ∧ NodeB w pb a c ts vs rb nb q deep n cs wr ∧ ts.length < q + g ∧ Hid (Ps.chainP ts cmd p = Ps.chainL ts cmd g q n)) ∨
      (∃ (q : Nat) (er : Int), c5 = .bool false ∧ BadB w pb a c ts vs rb q deep er wr ∧ Hid (Ps.chainP ts cmd p = .bad er q)))
    case atStart => exact .inl ⟨q1, n, _, rfl, HN0.out, by omega, Lib.hid HR2.out⟩
    case round =>
      rcases hrel with ⟨q, n, cs, rfl, hB, hg, hr⟩ | ⟨q, er, rfl, hB, hr⟩
      · have HB := Lib.hid hB
        have hle := hB.ps.le
        obtain ⟨nk', nn', ka', wa', sa', ra', kn', kc', wn', wc', sn', sc', rn', rc', rfl⟩ := hB.node.Six
        clear hB
        cases gk with
        | zero => omega
        | succ g =>
        have HG := Lib.hid hg
        clear hg
        have I1 := fun (x : Bool) (hx : Ps.isT ts q 2 [38, 38] = x) => hx ▸ is_any pb a c ts vs q deep 0 2 [38, 38] _ HB.out.ps
        have I2 := fun (n1 : Nat) (x : Bool) (hx : Ps.isT ts q 2 [124, 124] = x) => hx ▸ is_any pb a c ts vs q deep 0 2 [124, 124] _ (HB.out.ps.drewN n1)
        rcases (show Ps.isT ts q 2 [38, 38] = true ∨ (Ps.isT ts q 2 [38, 38] = false ∧ Ps.isT ts q 2 [124, 124] = true) ∨ (Ps.isT ts q 2 [38, 38] = false ∧ Ps.isT ts q 2 [124, 124] = false) from by
          cases Ps.isT ts q 2 [38, 38] <;> cases Ps.isT ts q 2 [124, 124] <;> simp) with h1 | ⟨h1, h2⟩ | ⟨h1, h2⟩
        · have hlt := isT_lt h1
          have hr := Lib.hid (hr.out.trans (chainL_more (g := g) (linkK_and h1) (by decide)))
          have J1 := Lib.hid (I1 _ h1)
          clear I1 I2 h1
          go_wp2_with fail
          refine J1.out.mono ?_
          rintro e w4 ⟨rfl, n1, rfl⟩
          have HB1 := Lib.hid (HB.out.kept0 ((Chg.refl [] _).drewN n1))
          clear HB J1
          generalize wr.drewN n1 = w5 at *
          have x1 := HB1.out.ps.c1
          have f1 := HB1.out.ps.free 1
          go_wp2_with fail
          have HB2 := Lib.hid (HB1.out.setAt ((q : Int) + 1) (by omega) (by omega))
          clear x1 f1 HB1
          refine (ends_any pb a c ts vs (q + 1) deep _ HB2.out.ps).mono ?_
          rintro e w6 ⟨rfl, hP6, hC6⟩
          have HB3 := Lib.hid (HB2.out.call hC6 hP6)
          have hends := endsP_le (ts := ts) (p := q + 1) (by omega)
          clear hP6 hC6 HB2
          go_wp2_with fail
          obtain ⟨C2, hC2⟩ : ∃ C2, Ps.pipeP ts cmd (Ps.endsP ts (q + 1)) = C2 := ⟨_, rfl⟩
          refine (HPI.out _ _ (HB3.out.ps.chg0 ((Chg.refl [] _).alloc _))).mono ?_
          rw [hC2]
          have hnb := lt_of_obj HB3.out.nd
          have hpb := HB3.out.old.1
          have hnb0 := HB3.out.nb0
          have hsz := HB3.out.chg.size
          cases C2 with
          | bad er q7 =>
            rintro e w7 ⟨cs2, ⟨k1, s1, ka2, wa2, sa2, ra2, kn2, kc2, wn2, wc2, sn2, sc2, rn2, rc2, rfl⟩, rfl, hP7, hC7⟩
            have HR3 := Lib.hid (show Ps.chainP ts cmd p = .bad er q7 from by rw [hr.out, hC2]; rfl)
            have HP7 := Lib.hid hP7
            have HC7 := Lib.hid hC7
            have hs7 := hC7.size
            have hot := hC7.obj (obj_alloc_new w6 _) (by simp; omega)
            have hob := hC7.obj (obj_alloc_old HB3.out.nd _) (by simp; omega)
            have ne1 : nb ≠ w6.heap.size := by omega
            have hs6 : (w6.alloc (.cells (nodeC 0 (.slice none 0 0)) 30)).heap.size = w6.heap.size + 1 := by simp
            have htl : w6.heap.size < w7.heap.size := lt_of_obj hot
            obtain ⟨tb, htb⟩ : ∃ tb, w6.heap.size = tb := ⟨_, rfl⟩
            rw [htb] at hot ne1 htl
            simp only [htb]
            obtain ⟨t0, t1, t2, t3, t4, t5, tf⟩ := six_cells hot
            go_upto_region 13 with (fail)
            have hc8 : Chg [tb] w7 ((((((w7.setCell ⟨tb, 0, none⟩ (.int .i64 k1)).setCell ⟨tb, 1, none⟩ (.slice ka2 kn2 kc2)).setCell ⟨tb, 2, none⟩ (.string (Lx.strB s1))).setCell ⟨tb, 3, none⟩ (.slice wa2 wn2 wc2)).setCell ⟨tb, 4, none⟩ (.slice sa2 sn2 sc2)).setCell ⟨tb, 5, none⟩ (.slice ra2 rn2 rc2)) := (Chg.refl [tb] w7).six tb _ _ _ _ _ _ (.inl (by simp))
            have hot8 : ((((((w7.setCell ⟨tb, 0, none⟩ (.int .i64 k1)).setCell ⟨tb, 1, none⟩ (.slice ka2 kn2 kc2)).setCell ⟨tb, 2, none⟩ (.string (Lx.strB s1))).setCell ⟨tb, 3, none⟩ (.slice wa2 wn2 wc2)).setCell ⟨tb, 4, none⟩ (.slice sa2 sn2 sc2)).setCell ⟨tb, 5, none⟩ (.slice ra2 rn2 rc2)).heap[tb]? = some (.cells #[.int .i64 k1, .slice ka2 kn2 kc2, .string (Lx.strB s1), .slice wa2 wn2 wc2, .slice sa2 sn2 sc2, .slice ra2 rn2 rc2] 30 (0, 0)) := six_obj hot _ _ _ _ _ _
            clear t0 t1 t2 t3 t4 t5 tf
            generalize (((((w7.setCell ⟨tb, 0, none⟩ (.int .i64 k1)).setCell ⟨tb, 1, none⟩ (.slice ka2 kn2 kc2)).setCell ⟨tb, 2, none⟩ (.string (Lx.strB s1))).setCell ⟨tb, 3, none⟩ (.slice wa2 wn2 wc2)).setCell ⟨tb, 4, none⟩ (.slice sa2 sn2 sc2)).setCell ⟨tb, 5, none⟩ (.slice ra2 rn2 rc2) = w8 at *
            have hob8 := hc8.obj hob (by simp; exact ne1)
            obtain ⟨t0, t1, t2, t3, t4, t5, tf⟩ := six_cells hot8
            obtain ⟨b0, b1, b2, b3, b4, b5, bf⟩ := six_cells hob8
            obtain ⟨c0, c1, c2, c3, c4, c5, cf⟩ := six_cells_alloc hob8
            have HOB8 := Lib.hid hob8
            have HC8 := Lib.hid hc8
            have HTB := Lib.hid htb
            have HTL := Lib.hid htl
            clear hot hob hot8 hob8 hc8 htb htl hs6 hs7
            clear hP7 hC7 hr hC2
            go_wp2_with fail
            go_roundg g
            case measure => omega
            case rel =>
              have hW : Chg [tb, nb] w7 (sixW (w8.alloc (.cells #[.int .i64 nk', .slice ka' kn' kc', .string (Lx.strB nn'), .slice wa' wn' wc', .slice sa' sn' sc', .slice ra' rn' rc', .int .i64 k1, .slice ka2 kn2 kc2, .string (Lx.strB s1), .slice wa2 wn2 wc2, .slice sa2 sn2 sc2, .slice ra2 rn2 rc2] 30)) nb (.int .i64 2) (.slice (some ⟨w8.heap.size, 0, none⟩) 2 2) (.string ⟨#[]⟩) (.slice none 0 0) (.slice none 0 0) (.slice none 0 0)) := Chg.six ((HC8.out.mono (fun x hx => .inl (by simp at hx; subst hx; simp))).alloc _) nb _ _ _ _ _ _ (.inl (by simp))
              exact .inr ⟨q7, er, rfl, HB3.out.bad ((Chg.refl [] w6).alloc _) HP7.out HC7.out (tb := tb) hW (by have := HTB.out; omega), HR3⟩
          | ok m q7 =>
            rintro e w7 ⟨cs2, hN7, rfl, hP7, hC7⟩
            have hq7 := HMV.out _ _ _ hC2
            have HR3 := Lib.hid (show Ps.chainP ts cmd p = Ps.chainL ts cmd g q7 (Ps.node 2 [n, m]) from by rw [hr.out, hC2]; rfl)
            obtain ⟨k1, s1, ka2, wa2, sa2, ra2, kn2, kc2, wn2, wc2, sn2, sc2, rn2, rc2, rfl⟩ := hN7.Six
            have HN7 := Lib.hid hN7
            have HP7 := Lib.hid hP7
            have HC7 := Lib.hid hC7
            have hs7 := hC7.size
            have hot := hC7.obj (obj_alloc_new w6 _) (by simp; omega)
            have hob := hC7.obj (obj_alloc_old HB3.out.nd _) (by simp; omega)
            have ne1 : nb ≠ w6.heap.size := by omega
            have hs6 : (w6.alloc (.cells (nodeC 0 (.slice none 0 0)) 30)).heap.size = w6.heap.size + 1 := by simp
            have htl : w6.heap.size < w7.heap.size := lt_of_obj hot
            obtain ⟨tb, htb⟩ : ∃ tb, w6.heap.size = tb := ⟨_, rfl⟩
            rw [htb] at hot ne1 htl
            simp only [htb]
            obtain ⟨t0, t1, t2, t3, t4, t5, tf⟩ := six_cells hot
            go_upto_region 13 with (fail)
            have hc8 : Chg [tb] w7 ((((((w7.setCell ⟨tb, 0, none⟩ (.int .i64 k1)).setCell ⟨tb, 1, none⟩ (.slice ka2 kn2 kc2)).setCell ⟨tb, 2, none⟩ (.string (Lx.strB s1))).setCell ⟨tb, 3, none⟩ (.slice wa2 wn2 wc2)).setCell ⟨tb, 4, none⟩ (.slice sa2 sn2 sc2)).setCell ⟨tb, 5, none⟩ (.slice ra2 rn2 rc2)) := (Chg.refl [tb] w7).six tb _ _ _ _ _ _ (.inl (by simp))
            have hot8 : ((((((w7.setCell ⟨tb, 0, none⟩ (.int .i64 k1)).setCell ⟨tb, 1, none⟩ (.slice ka2 kn2 kc2)).setCell ⟨tb, 2, none⟩ (.string (Lx.strB s1))).setCell ⟨tb, 3, none⟩ (.slice wa2 wn2 wc2)).setCell ⟨tb, 4, none⟩ (.slice sa2 sn2 sc2)).setCell ⟨tb, 5, none⟩ (.slice ra2 rn2 rc2)).heap[tb]? = some (.cells #[.int .i64 k1, .slice ka2 kn2 kc2, .string (Lx.strB s1), .slice wa2 wn2 wc2, .slice sa2 sn2 sc2, .slice ra2 rn2 rc2] 30 (0, 0)) := six_obj hot _ _ _ _ _ _
            clear t0 t1 t2 t3 t4 t5 tf
            generalize (((((w7.setCell ⟨tb, 0, none⟩ (.int .i64 k1)).setCell ⟨tb, 1, none⟩ (.slice ka2 kn2 kc2)).setCell ⟨tb, 2, none⟩ (.string (Lx.strB s1))).setCell ⟨tb, 3, none⟩ (.slice wa2 wn2 wc2)).setCell ⟨tb, 4, none⟩ (.slice sa2 sn2 sc2)).setCell ⟨tb, 5, none⟩ (.slice ra2 rn2 rc2) = w8 at *
            have hob8 := hc8.obj hob (by simp; exact ne1)
            obtain ⟨t0, t1, t2, t3, t4, t5, tf⟩ := six_cells hot8
            obtain ⟨b0, b1, b2, b3, b4, b5, bf⟩ := six_cells hob8
            obtain ⟨c0, c1, c2, c3, c4, c5, cf⟩ := six_cells_alloc hob8
            have HOB8 := Lib.hid hob8
            have HC8 := Lib.hid hc8
            have HTB := Lib.hid htb
            have HTL := Lib.hid htl
            clear hot hob hot8 hob8 hc8 htb htl hs6 hs7
            clear hP7 hC7 hr hC2 hN7
            go_wp2_with fail
            go_roundg g
            case measure => omega
            case rel =>
              have hW : Chg [tb, nb] w7 (sixW (w8.alloc (.cells #[.int .i64 nk', .slice ka' kn' kc', .string (Lx.strB nn'), .slice wa' wn' wc', .slice sa' sn' sc', .slice ra' rn' rc', .int .i64 k1, .slice ka2 kn2 kc2, .string (Lx.strB s1), .slice wa2 wn2 wc2, .slice sa2 sn2 sc2, .slice ra2 rn2 rc2] 30)) nb (.int .i64 2) (.slice (some ⟨w8.heap.size, 0, none⟩) 2 2) (.string ⟨#[]⟩) (.slice none 0 0) (.slice none 0 0) (.slice none 0 0)) := Chg.six ((HC8.out.mono (fun x hx => .inl (by simp at hx; subst hx; simp))).alloc _) nb _ _ _ _ _ _ (.inl (by simp))
              have hnb : (sixW (w8.alloc (.cells #[.int .i64 nk', .slice ka' kn' kc', .string (Lx.strB nn'), .slice wa' wn' wc', .slice sa' sn' sc', .slice ra' rn' rc', .int .i64 k1, .slice ka2 kn2 kc2, .string (Lx.strB s1), .slice wa2 wn2 wc2, .slice sa2 sn2 sc2, .slice ra2 rn2 rc2] 30)) nb (.int .i64 2) (.slice (some ⟨w8.heap.size, 0, none⟩) 2 2) (.string ⟨#[]⟩) (.slice none 0 0) (.slice none 0 0) (.slice none 0 0)).heap[nb]? = some (.cells (nodeC 2 (.slice (some ⟨w8.heap.size, 0, none⟩) 2 2)) 30 (0, 0)) := six_obj (obj_alloc_old HOB8.out _) _ _ _ _ _ _
              have hkb := (Chg.six (Chg.refl [nb] (w8.alloc (.cells #[.int .i64 nk', .slice ka' kn' kc', .string (Lx.strB nn'), .slice wa' wn' wc', .slice sa' sn' sc', .slice ra' rn' rc', .int .i64 k1, .slice ka2 kn2 kc2, .string (Lx.strB s1), .slice wa2 wn2 wc2, .slice sa2 sn2 sc2, .slice ra2 rn2 rc2] 30))) nb (.int .i64 2) (.slice (some ⟨w8.heap.size, 0, none⟩) 2 2) (.string ⟨#[]⟩) (.slice none 0 0) (.slice none 0 0) (.slice none 0 0) (.inl (by simp))).obj (obj_alloc_new w8 _) (by have := lt_of_obj HOB8.out; simp; omega)
              exact .inl ⟨q7, _, _, rfl, HB3.out.link ((Chg.refl [] w6).alloc _) HP7.out HC7.out HN7.out (tb := tb) (kb := w8.heap.size) (k := 2) hW (by have := HTB.out; omega) (by have := HTB.out; simp; omega) HC8.out.size hnb hkb, by have := HG.out; omega, HR3⟩
        · have hlt := isT_lt h2
          have hr := Lib.hid (hr.out.trans (chainL_more (g := g) (linkK_or h1 h2) (by decide)))
          have J1 := Lib.hid (I1 _ h1)
          have J2 := Lib.hid (fun n1 => I2 n1 _ h2)
          clear I1 I2 h1 h2
          go_wp2_with fail
          refine J1.out.mono ?_
          rintro e w4 ⟨rfl, n1, rfl⟩
          go_wp2_with fail
          refine (J2.out n1).mono ?_
          rintro e w4 ⟨rfl, n2, rfl⟩
          have HB1 := Lib.hid (HB.out.kept0 (((Chg.refl [] _).drewN n1).drewN n2))
          clear HB J1 J2
          generalize (wr.drewN n1).drewN n2 = w5 at *
          have x1 := HB1.out.ps.c1
          have f1 := HB1.out.ps.free 1
          go_wp2_with fail
          have HB2 := Lib.hid (HB1.out.setAt ((q : Int) + 1) (by omega) (by omega))
          clear x1 f1 HB1
          refine (ends_any pb a c ts vs (q + 1) deep _ HB2.out.ps).mono ?_
          rintro e w6 ⟨rfl, hP6, hC6⟩
          have HB3 := Lib.hid (HB2.out.call hC6 hP6)
          have hends := endsP_le (ts := ts) (p := q + 1) (by omega)
          clear hP6 hC6 HB2
          go_wp2_with fail
          obtain ⟨C2, hC2⟩ : ∃ C2, Ps.pipeP ts cmd (Ps.endsP ts (q + 1)) = C2 := ⟨_, rfl⟩
          refine (HPI.out _ _ (HB3.out.ps.chg0 ((Chg.refl [] _).alloc _))).mono ?_
          rw [hC2]
          have hnb := lt_of_obj HB3.out.nd
          have hpb := HB3.out.old.1
          have hnb0 := HB3.out.nb0
          have hsz := HB3.out.chg.size
          cases C2 with
          | bad er q7 =>
            rintro e w7 ⟨cs2, ⟨k1, s1, ka2, wa2, sa2, ra2, kn2, kc2, wn2, wc2, sn2, sc2, rn2, rc2, rfl⟩, rfl, hP7, hC7⟩
            have HR3 := Lib.hid (show Ps.chainP ts cmd p = .bad er q7 from by rw [hr.out, hC2]; rfl)
            have HP7 := Lib.hid hP7
            have HC7 := Lib.hid hC7
            have hs7 := hC7.size
            have hot := hC7.obj (obj_alloc_new w6 _) (by simp; omega)
            have hob := hC7.obj (obj_alloc_old HB3.out.nd _) (by simp; omega)
            have ne1 : nb ≠ w6.heap.size := by omega
            have hs6 : (w6.alloc (.cells (nodeC 0 (.slice none 0 0)) 30)).heap.size = w6.heap.size + 1 := by simp
            have htl : w6.heap.size < w7.heap.size := lt_of_obj hot
            obtain ⟨tb, htb⟩ : ∃ tb, w6.heap.size = tb := ⟨_, rfl⟩
            rw [htb] at hot ne1 htl
            simp only [htb]
            obtain ⟨t0, t1, t2, t3, t4, t5, tf⟩ := six_cells hot
            go_upto_region 13 with (fail)
            have hc8 : Chg [tb] w7 ((((((w7.setCell ⟨tb, 0, none⟩ (.int .i64 k1)).setCell ⟨tb, 1, none⟩ (.slice ka2 kn2 kc2)).setCell ⟨tb, 2, none⟩ (.string (Lx.strB s1))).setCell ⟨tb, 3, none⟩ (.slice wa2 wn2 wc2)).setCell ⟨tb, 4, none⟩ (.slice sa2 sn2 sc2)).setCell ⟨tb, 5, none⟩ (.slice ra2 rn2 rc2)) := (Chg.refl [tb] w7).six tb _ _ _ _ _ _ (.inl (by simp))
            have hot8 : ((((((w7.setCell ⟨tb, 0, none⟩ (.int .i64 k1)).setCell ⟨tb, 1, none⟩ (.slice ka2 kn2 kc2)).setCell ⟨tb, 2, none⟩ (.string (Lx.strB s1))).setCell ⟨tb, 3, none⟩ (.slice wa2 wn2 wc2)).setCell ⟨tb, 4, none⟩ (.slice sa2 sn2 sc2)).setCell ⟨tb, 5, none⟩ (.slice ra2 rn2 rc2)).heap[tb]? = some (.cells #[.int .i64 k1, .slice ka2 kn2 kc2, .string (Lx.strB s1), .slice wa2 wn2 wc2, .slice sa2 sn2 sc2, .slice ra2 rn2 rc2] 30 (0, 0)) := six_obj hot _ _ _ _ _ _
            clear t0 t1 t2 t3 t4 t5 tf
            generalize (((((w7.setCell ⟨tb, 0, none⟩ (.int .i64 k1)).setCell ⟨tb, 1, none⟩ (.slice ka2 kn2 kc2)).setCell ⟨tb, 2, none⟩ (.string (Lx.strB s1))).setCell ⟨tb, 3, none⟩ (.slice wa2 wn2 wc2)).setCell ⟨tb, 4, none⟩ (.slice sa2 sn2 sc2)).setCell ⟨tb, 5, none⟩ (.slice ra2 rn2 rc2) = w8 at *
            have hob8 := hc8.obj hob (by simp; exact ne1)
            obtain ⟨t0, t1, t2, t3, t4, t5, tf⟩ := six_cells hot8
            obtain ⟨b0, b1, b2, b3, b4, b5, bf⟩ := six_cells hob8
            obtain ⟨c0, c1, c2, c3, c4, c5, cf⟩ := six_cells_alloc hob8
            have HOB8 := Lib.hid hob8
            have HC8 := Lib.hid hc8
            have HTB := Lib.hid htb
            have HTL := Lib.hid htl
            clear hot hob hot8 hob8 hc8 htb htl hs6 hs7
            clear hP7 hC7 hr hC2
            go_wp2_with fail
            go_roundg g
            case measure => omega
            case rel =>
              have hW : Chg [tb, nb] w7 (sixW (w8.alloc (.cells #[.int .i64 nk', .slice ka' kn' kc', .string (Lx.strB nn'), .slice wa' wn' wc', .slice sa' sn' sc', .slice ra' rn' rc', .int .i64 k1, .slice ka2 kn2 kc2, .string (Lx.strB s1), .slice wa2 wn2 wc2, .slice sa2 sn2 sc2, .slice ra2 rn2 rc2] 30)) nb (.int .i64 3) (.slice (some ⟨w8.heap.size, 0, none⟩) 2 2) (.string ⟨#[]⟩) (.slice none 0 0) (.slice none 0 0) (.slice none 0 0)) := Chg.six ((HC8.out.mono (fun x hx => .inl (by simp at hx; subst hx; simp))).alloc _) nb _ _ _ _ _ _ (.inl (by simp))
              exact .inr ⟨q7, er, rfl, HB3.out.bad ((Chg.refl [] w6).alloc _) HP7.out HC7.out (tb := tb) hW (by have := HTB.out; omega), HR3⟩
          | ok m q7 =>
            rintro e w7 ⟨cs2, hN7, rfl, hP7, hC7⟩
            have hq7 := HMV.out _ _ _ hC2
            have HR3 := Lib.hid (show Ps.chainP ts cmd p = Ps.chainL ts cmd g q7 (Ps.node 3 [n, m]) from by rw [hr.out, hC2]; rfl)
            obtain ⟨k1, s1, ka2, wa2, sa2, ra2, kn2, kc2, wn2, wc2, sn2, sc2, rn2, rc2, rfl⟩ := hN7.Six
            have HN7 := Lib.hid hN7
            have HP7 := Lib.hid hP7
            have HC7 := Lib.hid hC7
            have hs7 := hC7.size
            have hot := hC7.obj (obj_alloc_new w6 _) (by simp; omega)
            have hob := hC7.obj (obj_alloc_old HB3.out.nd _) (by simp; omega)
            have ne1 : nb ≠ w6.heap.size := by omega
            have hs6 : (w6.alloc (.cells (nodeC 0 (.slice none 0 0)) 30)).heap.size = w6.heap.size + 1 := by simp
            have htl : w6.heap.size < w7.heap.size := lt_of_obj hot
            obtain ⟨tb, htb⟩ : ∃ tb, w6.heap.size = tb := ⟨_, rfl⟩
            rw [htb] at hot ne1 htl
            simp only [htb]
            obtain ⟨t0, t1, t2, t3, t4, t5, tf⟩ := six_cells hot
            go_upto_region 13 with (fail)
            have hc8 : Chg [tb] w7 ((((((w7.setCell ⟨tb, 0, none⟩ (.int .i64 k1)).setCell ⟨tb, 1, none⟩ (.slice ka2 kn2 kc2)).setCell ⟨tb, 2, none⟩ (.string (Lx.strB s1))).setCell ⟨tb, 3, none⟩ (.slice wa2 wn2 wc2)).setCell ⟨tb, 4, none⟩ (.slice sa2 sn2 sc2)).setCell ⟨tb, 5, none⟩ (.slice ra2 rn2 rc2)) := (Chg.refl [tb] w7).six tb _ _ _ _ _ _ (.inl (by simp))
            have hot8 : ((((((w7.setCell ⟨tb, 0, none⟩ (.int .i64 k1)).setCell ⟨tb, 1, none⟩ (.slice ka2 kn2 kc2)).setCell ⟨tb, 2, none⟩ (.string (Lx.strB s1))).setCell ⟨tb, 3, none⟩ (.slice wa2 wn2 wc2)).setCell ⟨tb, 4, none⟩ (.slice sa2 sn2 sc2)).setCell ⟨tb, 5, none⟩ (.slice ra2 rn2 rc2)).heap[tb]? = some (.cells #[.int .i64 k1, .slice ka2 kn2 kc2, .string (Lx.strB s1), .slice wa2 wn2 wc2, .slice sa2 sn2 sc2, .slice ra2 rn2 rc2] 30 (0, 0)) := six_obj hot _ _ _ _ _ _
            clear t0 t1 t2 t3 t4 t5 tf
            generalize (((((w7.setCell ⟨tb, 0, none⟩ (.int .i64 k1)).setCell ⟨tb, 1, none⟩ (.slice ka2 kn2 kc2)).setCell ⟨tb, 2, none⟩ (.string (Lx.strB s1))).setCell ⟨tb, 3, none⟩ (.slice wa2 wn2 wc2)).setCell ⟨tb, 4, none⟩ (.slice sa2 sn2 sc2)).setCell ⟨tb, 5, none⟩ (.slice ra2 rn2 rc2) = w8 at *
            have hob8 := hc8.obj hob (by simp; exact ne1)
            obtain ⟨t0, t1, t2, t3, t4, t5, tf⟩ := six_cells hot8
            obtain ⟨b0, b1, b2, b3, b4, b5, bf⟩ := six_cells hob8
            obtain ⟨c0, c1, c2, c3, c4, c5, cf⟩ := six_cells_alloc hob8
            have HOB8 := Lib.hid hob8
            have HC8 := Lib.hid hc8
            have HTB := Lib.hid htb
            have HTL := Lib.hid htl
            clear hot hob hot8 hob8 hc8 htb htl hs6 hs7
            clear hP7 hC7 hr hC2 hN7
            go_wp2_with fail
            go_roundg g
            case measure => omega
            case rel =>
              have hW : Chg [tb, nb] w7 (sixW (w8.alloc (.cells #[.int .i64 nk', .slice ka' kn' kc', .string (Lx.strB nn'), .slice wa' wn' wc', .slice sa' sn' sc', .slice ra' rn' rc', .int .i64 k1, .slice ka2 kn2 kc2, .string (Lx.strB s1), .slice wa2 wn2 wc2, .slice sa2 sn2 sc2, .slice ra2 rn2 rc2] 30)) nb (.int .i64 3) (.slice (some ⟨w8.heap.size, 0, none⟩) 2 2) (.string ⟨#[]⟩) (.slice none 0 0) (.slice none 0 0) (.slice none 0 0)) := Chg.six ((HC8.out.mono (fun x hx => .inl (by simp at hx; subst hx; simp))).alloc _) nb _ _ _ _ _ _ (.inl (by simp))
              have hnb : (sixW (w8.alloc (.cells #[.int .i64 nk', .slice ka' kn' kc', .string (Lx.strB nn'), .slice wa' wn' wc', .slice sa' sn' sc', .slice ra' rn' rc', .int .i64 k1, .slice ka2 kn2 kc2, .string (Lx.strB s1), .slice wa2 wn2 wc2, .slice sa2 sn2 sc2, .slice ra2 rn2 rc2] 30)) nb (.int .i64 3) (.slice (some ⟨w8.heap.size, 0, none⟩) 2 2) (.string ⟨#[]⟩) (.slice none 0 0) (.slice none 0 0) (.slice none 0 0)).heap[nb]? = some (.cells (nodeC 3 (.slice (some ⟨w8.heap.size, 0, none⟩) 2 2)) 30 (0, 0)) := six_obj (obj_alloc_old HOB8.out _) _ _ _ _ _ _
              have hkb := (Chg.six (Chg.refl [nb] (w8.alloc (.cells #[.int .i64 nk', .slice ka' kn' kc', .string (Lx.strB nn'), .slice wa' wn' wc', .slice sa' sn' sc', .slice ra' rn' rc', .int .i64 k1, .slice ka2 kn2 kc2, .string (Lx.strB s1), .slice wa2 wn2 wc2, .slice sa2 sn2 sc2, .slice ra2 rn2 rc2] 30))) nb (.int .i64 3) (.slice (some ⟨w8.heap.size, 0, none⟩) 2 2) (.string ⟨#[]⟩) (.slice none 0 0) (.slice none 0 0) (.slice none 0 0) (.inl (by simp))).obj (obj_alloc_new w8 _) (by have := lt_of_obj HOB8.out; simp; omega)
              exact .inl ⟨q7, _, _, rfl, HB3.out.link ((Chg.refl [] w6).alloc _) HP7.out HC7.out HN7.out (tb := tb) (kb := w8.heap.size) (k := 3) hW (by have := HTB.out; omega) (by have := HTB.out; simp; omega) HC8.out.size hnb hkb, by have := HG.out; omega, HR3⟩
        · have hr := Lib.hid (hr.out.trans (chainL_end (g := g) (linkK_no h1 h2)))
          have J1 := Lib.hid (I1 _ h1)
          have J2 := Lib.hid (fun n1 => I2 n1 _ h2)
          clear I1 I2 h1 h2
          go_wp2_with fail
          refine J1.out.mono ?_
          rintro e w4 ⟨rfl, n1, rfl⟩
          go_wp2_with fail
          refine (J2.out n1).mono ?_
          rintro e w4 ⟨rfl, n2, rfl⟩
          have HB1 := Lib.hid (HB.out.kept0 (((Chg.refl [] _).drewN n1).drewN n2))
          clear HB J1 J2
          generalize (wr.drewN n1).drewN n2 = w5 at *
          obtain ⟨r0, r1, r2, r3, r4, r5, rf⟩ := node_cells HB1.out.rs
          obtain ⟨b0, b1, b2, b3, b4, b5, bf⟩ := six_cells HB1.out.nd
          go_wp2_with fail
          refine bodyPost_ret (v := .tuple #[.agg #[.int .i64 nk', .slice ka' kn' kc', .string (Lx.strB nn'), .slice wa' wn' wc', .slice sa' sn' sc', .slice ra' rn' rc'], .bool true]) (by simp [results, Tryd.results28, go_sem, r0, r1, r2, r3, r4, r5]) rfl ?_
          rw [hr.out]
          exact HB1.out.fin ((Chg.refl _ _).six _ _ _ _ _ _ _ (.inl (by simp)))
      · have HB := Lib.hid hB
        obtain ⟨r0, r1, r2, r3, r4, r5, rf⟩ := node_cells hB.rs
        clear hB
        go_wp2_with fail
        refine bodyPost_ret (v := .tuple #[.agg (nodeC 0 (.slice none 0 0)), .bool false]) (by simp [results, Tryd.results28, go_sem, nodeC, r0, r1, r2, r3, r4, r5]) rfl ?_
        rw [hr.out]
        exact HB.out.fin ((Chg.refl _ _).six _ _ _ _ _ _ _ (.inl (by simp)))

end Go.Proofs.YtfgbbmnmblchiaaDoor
