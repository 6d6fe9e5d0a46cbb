/-
  VmPlays, walked.
-/
import Derived.Test.YtocjdbenelikpaaRunN
import Derived.Test.YtocjdbenelikpaaCopies
import Derived.Test.YtocjdbenelikpaaStoreA
import Derived.Deep.DeepCutAuto
import Derived.Deep.CutBlock
import Derived.Deep.RegionHeld3
namespace Go.Proofs.Ytocjdbenelikpaa
open Go.RowKit
set_option linter.unusedVariables false
set_option linter.unusedSimpArgs false
set_option linter.unnecessarySimpa false

/-- an act of the script, as it came in. -/
structure OpV where
  kind : Int
  A : Int
  B : Int
  da : Option Addr
  dl : Nat
  dc : Nat
  bs : List UInt8

structure OpAt (w : World) (b off i : Nat) (o : OpV) : Prop where
  c0 : w.cell? ⟨b, off + i * 4, none⟩ = some (.int .i64 o.kind)
  c1 : w.cell? ⟨b, off + i * 4 + 1, none⟩ = some (.int .i64 o.A)
  c2 : w.cell? ⟨b, off + i * 4 + 2, none⟩ = some (.int .i64 o.B)
  c3 : w.cell? ⟨b, off + i * 4 + 3, none⟩ = some (.slice o.da o.dl o.dc)
  d : Bytes w o.da o.dl o.dc o.bs
  db : ∀ x, o.da = some x → 0 < o.dl → x.block < w.heap.size
  wa : (Lit.int .i64 o.A).wf = true
  wb : (Lit.int .i64 o.B).wf = true

structure OpsAt (w : World) (a : Option Addr) (len cap : Nat) (ops : List OpV) : Prop where
  ln : ops.length = len
  cap : len ≤ cap ∧ cap ≤ maxLen
  at_ : ∀ i o, ops[i]? = some o → ∃ b off, a = some ⟨b, off, none⟩ ∧ OpAt w b off i o

/-- both machines at one state, in new blocks. -/
structure Both (w wr : World) (mb cb co cc rb : Nat) (m : Vm.M) : Prop where
  ma : MachAt wr mb cb co cc m
  ra : RefAt wr rb m
  gd : Vm.Good m
  lo : w.heap.size ≤ mb ∧ w.heap.size ≤ rb ∧ mb ≠ rb ∧ cb ≠ rb ∧ w.heap.size ≤ cb
  chg : Chg [] w wr

section
variable {w wr wr' : World} {mb cb co cc rb : Nat} {m m' : Vm.M}
theorem Both.kept0 (h : Both w wr mb cb co cc rb m) (hc : Chg [] wr wr') : Both w wr' mb cb co cc rb m := ⟨h.ma.kept0 hc, h.ra.kept0 hc, h.gd, h.lo, h.chg.then0 hc⟩
theorem Both.rb_lt (h : Both w wr mb cb co cc rb m) : mb < wr.heap.size ∧ rb < wr.heap.size ∧ cb < wr.heap.size :=
  ⟨lt_of_obj h.ma.obj, lt_of_obj h.ra.obj, World.block_lt_of_cell? wr _ (h.ma.code 0 (by have := h.ma.n1; omega))⟩
/-- the first machine has gone on, then the other. -/
theorem Both.two {w1 w2 : World} (h : Both w wr mb cb co cc rb m) (h1 : MachAt w1 mb cb co cc m') (c1 : Chg [mb] wr w1) (h2 : RefAt w2 rb m') (c2 : Chg [rb] w1 w2) (hg : Vm.Good m') : Both w w2 mb cb co cc rb m' :=
  ⟨h1.kept c2 (by simpa using h.lo.2.2.1) (by simpa using h.lo.2.2.2.1), h2, hg, h.lo, (h.chg.trans c1 (fun x hx => .inr (by have := h.lo.1; simp at hx; omega))).trans c2 (fun x hx => .inr (by have := h.lo.2.1; simp at hx; omega))⟩
/-- .. or the other one first. -/
theorem Both.two' {w1 w2 : World} (h : Both w wr mb cb co cc rb m) (h1 : RefAt w1 rb m') (c1 : Chg [rb] wr w1) (h2 : MachAt w2 mb cb co cc m') (c2 : Chg [mb] w1 w2) (hg : Vm.Good m') : Both w w2 mb cb co cc rb m' :=
  ⟨h2, h1.kept c2 (by have := h.lo.2.2.1; simp; omega), hg, h.lo, (h.chg.trans c1 (fun x hx => .inr (by have := h.lo.2.1; simp at hx; omega))).trans c2 (fun x hx => .inr (by have := h.lo.1; simp at hx; omega))⟩
theorem good_setR (hg : Vm.Good m) (i : Nat) (v : Int) : Vm.Good (Vm.setR m i v) := ⟨hg.code, hg.pc⟩
theorem good_putM (hg : Vm.Good m) (i : Nat) (ys : List UInt8) : Vm.Good (Vm.putM m i ys) := ⟨hg.code, hg.pc⟩
theorem good_jump (hg : Vm.Good m) (i : Nat) (hi : i < m.n) : Vm.Good { m with pc := (i : Int), stopped := 0 } := ⟨hg.code, by show (0 : Int) ≤ (i : Int) ∧ (i : Int) ≤ (m.n : Int); omega⟩
end

theorem Both.kept {w wr wr' : World} {mb cb co cc rb : Nat} {m : Vm.M} {F : List Nat} (h : Both w wr mb cb co cc rb m) (hc : Chg F wr wr') (h1 : mb ∉ F) (h2 : cb ∉ F) (h3 : rb ∉ F) (h4 : ∀ k ∈ F, w.heap.size ≤ k) : Both w wr' mb cb co cc rb m :=
  ⟨h.ma.kept hc h1 h2, h.ra.kept hc h3, h.gd, h.lo, h.chg.trans hc (fun x hx => .inr (h4 x hx))⟩

/-- a slice of k bytes in a new block of its own, to be written. -/
def XAt (wo wr : World) (g1 : Option Addr) (k : Nat) : Prop :=
  0 < k → ∃ gb cur, g1 = some ⟨gb, 0, none⟩ ∧ wr.heap[gb]? = some (.cells cur 5 (0, 0)) ∧ k ≤ cur.size ∧ (∀ j, j < k → ∃ z : Int, cur[j]? = some (.int .u8 z) ∧ 0 ≤ z ∧ z < 256) ∧ wo.heap.size ≤ gb

theorem XAt.ofRow {wo wr : World} {g1 : Option Addr} {k : Nat} {ys : List UInt8} (h : Row wr 5 1 (.slice g1 k k) k (ys.map byteV)) (hb : ∀ b ∈ rowBlock (.slice g1 k k), wo.heap.size ≤ b) : XAt wo wr g1 k := by
  intro hk
  rcases h.2 with ⟨h0, _⟩ | ⟨gb, cap, cur, hv, hg, h3, h4, h5, h6⟩
  · omega
  · cases hv
    refine ⟨gb, cur, rfl, hg, by omega, fun j hj => ?_, hb gb (by simp [rowBlock]; omega)⟩
    have hl : ys.length = k := by have := h.1; simpa using this
    have hj2 : j < ys.length := by omega
    have e : (cur.toList.take (k * 1))[j]? = some (byteV ys[j]) := by rw [h6, List.getElem?_map, List.getElem?_eq_getElem hj2]; rfl
    rw [List.getElem?_take] at e
    split at e
    · refine ⟨(ys[j].toNat : Int), by simpa [byteV] using e, by omega, ?_⟩
      have := UInt8.toNat_lt ys[j]
      omega
    · cases e

theorem XAt.store {wo wr : World} {gb k j : Nat} {cur : Array Value} {z : Int} (hg : wr.heap[gb]? = some (.cells cur 5 (0, 0))) (hs : k ≤ cur.size) (hz : ∀ j, j < k → ∃ z : Int, cur[j]? = some (.int .u8 z) ∧ 0 ≤ z ∧ z < 256) (hw : wo.heap.size ≤ gb) (h0 : 0 ≤ z) (h1 : z < 256) :
    XAt wo (wr.setCell ⟨gb, j, none⟩ (.int .u8 z)) (some ⟨gb, 0, none⟩) k := by
  intro hk
  refine ⟨gb, _, rfl, obj_setCell hg j _, by simpa using hs, fun i hi => ?_, hw⟩
  by_cases hij : j = i
  · subst hij
    refine ⟨z, ?_, h0, h1⟩
    simp [show j < cur.size from by omega]
  · rw [Array.getElem?_setIfInBounds_ne hij]; exact hz i hi

set_option maxHeartbeats 20000000 in
set_option maxRecDepth 100000 in
theorem plays_good (w : World) (a : Option Addr) (len cap : Nat) (bs : List UInt8) (h : Bytes w a len cap bs) (hv : validB bs = true) (ao : Option Addr) (no co0 : Nat) (ops : List OpV) (hops : OpsAt w ao no co0 ops) :
    Calls Try.prog 11 #[.slice a len cap, .slice ao no co0] w fun e w' => e = .returned (.bool true) ∧ Chg [] w w' := by
  have hlen := h.len
  have hb : bs.length ≤ 9223372036854775807 := by have := h.cap; unfold maxLen at this; omega
  have hno := hops.ln
  have hnc := hops.cap
  have hnm : no ≤ 9223372036854775807 := by unfold maxLen at hnc; omega
  have H := Lib.hid h
  have HV := Lib.hid hv
  have HO := Lib.hid hops
  clear h hv hops
  go_enter Try.func11, Try.ntmps11
  go_wp2_with fail
  refine (new_good w a len cap bs H.out HV.out).mono ?_
  rintro e w1 ⟨mb, cb, co, cc, rfl, hm, hg, hc1, hmb, hcb⟩
  have HB1 := Lib.hid (H.out.kept0 hc1)
  have HC1 := Lib.hid hc1
  have HM1 := Lib.hid hm
  have HG := Lib.hid hg
  have kc := conv_load w1 a len cap bs hlen HB1.out.src
  clear hc1 hm hg
  go_wp2_with fail
  refine (ref_new_good w1 bs hb HV.out).mono ?_
  rintro e w2 ⟨rb, rfl, hr, hc2, hrb⟩
  have hl1 := lt_of_obj HM1.out.obj
  have hl2 := World.block_lt_of_cell? w1 _ (HM1.out.code 0 (by have := HM1.out.n1; omega))
  have hl3 := HC1.out.size
  simp only at hl2
  have hboth : Both w w2 mb cb co cc rb (Vm.ofImage bs) := ⟨HM1.out.kept0 hc2, hr, HG.out, ⟨hmb, by omega, by omega, by omega, hcb⟩, HC1.out.then0 hc2⟩
  have HBO := Lib.hid hboth
  clear hboth hr hc2 hl1 hl2 hl3 HM1 HC1 HB1 HG kc hmb hcb hrb
  obtain ⟨N, hN⟩ : ∃ N, min no 20 = N := ⟨_, rfl⟩
  go_wp2_with fail
  go_loopg [5, 7, 9] N (fun g v5 v7 v9 wr => ∃ (i mb cb co cc rb : Nat) (m : Vm.M), i + g = N ∧ v9 = .int .i64 i ∧ v5 = .pointer (some ⟨mb, 0, none⟩) ∧ v7 = .pointer (some ⟨rb, 0, none⟩) ∧ Both w wr mb cb co cc rb m)
  case atStart => exact ⟨0, mb, cb, co, cc, rb, _, by omega, rfl, rfl, rfl, HBO.out⟩
  case round =>
    obtain ⟨i, mb, cb, co, cc, rb, m, hiN, rfl, rfl, rfl, hbo⟩ := hrel
    clear HBO
    have HBO := Lib.hid hbo
    clear hbo
    cases gk with
    | zero =>
      have hend : ¬ ((i : Int) < (no : Int)) ∨ ¬ ((i : Int) < 20) := by omega
      rcases hend with hend | hend
      · go_wp2_with (go_at_call 16; refine (awake_any _).mono ?_; rintro e w9 ⟨rfl, h9⟩)
        all_goals
          go_ret
          exact ⟨rfl, HBO.out.chg.then0 h9⟩
      · by_cases hend2 : (i : Int) < (no : Int)
        · go_wp2_with (go_at_call 16; refine (awake_any _).mono ?_; rintro e w9 ⟨rfl, h9⟩)
          all_goals
            go_ret
            exact ⟨rfl, HBO.out.chg.then0 h9⟩
        · go_wp2_with (go_at_call 16; refine (awake_any _).mono ?_; rintro e w9 ⟨rfl, h9⟩)
          all_goals
            go_ret
            exact ⟨rfl, HBO.out.chg.then0 h9⟩
    | succ g =>
      have hi1 : (i : Int) < (no : Int) := by omega
      have hi2 : (i : Int) < 20 := by omega
      have hi0 : (0 : Int) ≤ (i : Int) := by omega
      obtain ⟨o, ho⟩ : ∃ o, ops[i]? = some o := ⟨_, List.getElem?_eq_getElem (show i < ops.length by omega)⟩
      obtain ⟨b, off, rfl, hat⟩ := HO.out.at_ i o ho
      obtain ⟨K, A, B, da, dl, dc, ys⟩ := o
      have k0 := HBO.out.chg.cell hat.c0 (by simp)
      have k1 := HBO.out.chg.cell hat.c1 (by simp)
      have k2 := HBO.out.chg.cell hat.c2 (by simp)
      have k3 := HBO.out.chg.cell hat.c3 (by simp)
      have wa := hat.wa
      have wb := hat.wb
      have hdl := hat.d.len
      have hdc := hat.d.cap
      have HD := Lib.hid (hat.d.kept0 HBO.out.chg)
      have hdb : ∀ x, da = some x → 0 < dl → x.block < w.heap.size := hat.db
      have HDB := Lib.hid hdb
      simp only at k0 k1 k2 k3 wa wb hdl hdc
      clear hat ho hdb
      go_upto_block 2 with fail
      have HBW := Lib.hid (HBO.out.kept0 ((Chg.refl [] wr).alloc (.cells #[.int .i64 K, .int .i64 A, .int .i64 B, .slice da dl dc] 56)))
      have HDW := Lib.hid (HD.out.kept0 ((Chg.refl [] wr).alloc (.cells #[.int .i64 K, .int .i64 A, .int .i64 B, .slice da dl dc] 56)))
      have ob : (wr.alloc (.cells #[.int .i64 K, .int .i64 A, .int .i64 B, .slice da dl dc] 56)).heap[wr.heap.size]? = some (.cells #[.int .i64 K, .int .i64 A, .int .i64 B, .slice da dl dc] 56 (0, 0)) := heap_alloc_new wr _
      have OB := Lib.hid ob
      have hlt := HBO.out.rb_lt
      clear ob k0 k1 k2 k3
      go_cut [5, 7] (fun v5 v7 wc => ∃ (mb cb co cc rb : Nat) (m : Vm.M), v5 = .pointer (some ⟨mb, 0, none⟩) ∧ v7 = .pointer (some ⟨rb, 0, none⟩) ∧ Both w wc mb cb co cc rb m)
      case first =>
        generalize hwo : wr.alloc (.cells #[.int .i64 K, .int .i64 A, .int .i64 B, .slice da dl dc] 56) = wo at *
        have hsz : wr.heap.size < wo.heap.size := by subst hwo; simp
        clear hwo HBO HD
        generalize wr.heap.size = ob at *
        have p1 := cell_of_obj OB.out (j := 1) rfl
        have p2 := cell_of_obj OB.out (j := 2) rfl
        have p3 := cell_of_obj OB.out (j := 3) rfl
        by_cases h0 : K = 0
        · subst h0
          by_cases hA : 3000 < A
          · go_wp2_with fail
            refine (run_int wo mb cb co cc m HBW.out.ma HBW.out.gd 3000 (by omega)).mono ?_
            rintro e w3 ⟨rfl, hm3, hc3⟩
            have q1 := hc3.cell p1 (by simp; omega)
            have hr3 := HBW.out.ra.kept hc3 (by have := HBW.out.lo.2.2.1; simp; omega)
            have HM3 := Lib.hid hm3
            have HC3 := Lib.hid hc3
            have HR3 := Lib.hid hr3
            clear hm3 hc3 hr3
            go_wp2_with fail
            refine (ref_run_int w3 rb m HR3.out HBW.out.gd 3000 (by omega)).mono ?_
            rintro e w4 ⟨rfl, hr4, hc4⟩
            have HB4 := Lib.hid (HBW.out.two HM3.out HC3.out hr4 hc4 (run_good_int HBW.out.gd 3000))
            clear hr4 hc4 q1 HM3 HC3 HR3
            generalize (Vm.run m 3000).2.2 = m4 at *
            generalize (Vm.run m 3000).2.1 = S4
            generalize (Vm.run m 3000).1 = U4
            go_wp2
            all_goals
              go_meet
              case rel => exact ⟨mb, cb, co, cc, rb, m4, rfl, rfl, HB4.out⟩
          · have hA2 : A ≤ 3000 := by omega
            go_wp2_with fail
            refine (run_int wo mb cb co cc m HBW.out.ma HBW.out.gd A hA2).mono ?_
            rintro e w3 ⟨rfl, hm3, hc3⟩
            have q1 := hc3.cell p1 (by simp; omega)
            have hr3 := HBW.out.ra.kept hc3 (by have := HBW.out.lo.2.2.1; simp; omega)
            have HM3 := Lib.hid hm3
            have HC3 := Lib.hid hc3
            have HR3 := Lib.hid hr3
            clear hm3 hc3 hr3
            go_wp2_with fail
            refine (ref_run_int w3 rb m HR3.out HBW.out.gd A hA2).mono ?_
            rintro e w4 ⟨rfl, hr4, hc4⟩
            have HB4 := Lib.hid (HBW.out.two HM3.out HC3.out hr4 hc4 (run_good_int HBW.out.gd A))
            clear hr4 hc4 q1 HM3 HC3 HR3
            generalize (Vm.run m A).2.2 = m4 at *
            generalize (Vm.run m A).2.1 = S4
            generalize (Vm.run m A).1 = U4
            go_wp2
            all_goals
              go_meet
              case rel => exact ⟨mb, cb, co, cc, rb, m4, rfl, rfl, HB4.out⟩
        · have z0 : (K == 0) = false := by simpa using h0
          by_cases h1 : K = 1
          · subst h1
            by_cases hin : 0 ≤ A ∧ A < 8
            · obtain ⟨x, rfl⟩ : ∃ x : Nat, A = (x : Int) := ⟨A.toNat, by omega⟩
              have hx : x < 8 := by omega
              have hx1 : (x : Int) < 8 := by omega
              have hx0 : (0 : Int) ≤ (x : Int) := by omega
              clear hin
              go_wp2_with fail
              refine (setReg_in wo mb cb co cc m HBW.out.ma x hx B wb).mono ?_
              rintro e w3 ⟨rfl, hm3, hc3⟩
              have q1 := hc3.cell p1 (by simp; omega)
              have q2 := hc3.cell p2 (by simp; omega)
              have hr3 := HBW.out.ra.kept hc3 (by have := HBW.out.lo.2.2.1; simp; omega)
              have r1 := hr3.reg hx
              have r2 := hr3.free (2 + x)
              have HM3 := Lib.hid hm3
              have HC3 := Lib.hid hc3
              have HR3 := Lib.hid hr3
              clear hm3 hc3 hr3 p1 p2 p3
              go_wp2_with fail
              go_region
              all_goals
                have HB4 := Lib.hid (HBW.out.two HM3.out HC3.out (HR3.out.drew.setR hx B wb) (((Chg.refl [rb] w3).drew).setCell _ _ (by simp)) (good_setR HBW.out.gd x B))
                go_wp2
                all_goals
                  go_meet
                  case rel => exact ⟨mb, cb, co, cc, rb, _, rfl, rfl, HB4.out⟩
            · have hout : A < 0 ∨ 8 ≤ A := by omega
              clear hin
              rcases hout with hA | hA
              all_goals
                go_wp2_with fail
                refine (setReg_out wo mb A B (by omega)).mono ?_
                rintro e w3 ⟨rfl, rfl⟩
                go_wp2_with fail
                refine (reg_out wo mb A (by omega)).mono ?_
                rintro e w3 ⟨rfl, rfl⟩
                go_wp2
                all_goals
                  go_meet
                  case rel => exact ⟨mb, cb, co, cc, rb, m, rfl, rfl, HBW.out⟩
          · have z1 : (K == 1) = false := by simpa using h1
            by_cases h2 : K = 2
            · subst h2
              by_cases hin : 0 ≤ A ∧ 0 ≤ B ∧ A + B ≤ 1024
              · obtain ⟨x, rfl⟩ : ∃ x : Nat, A = (x : Int) := ⟨A.toNat, by omega⟩
                obtain ⟨k, rfl⟩ : ∃ k : Nat, B = (k : Int) := ⟨B.toNat, by omega⟩
                have hxk : x + k ≤ 1024 := by omega
                clear hin
                go_wp2_with fail
                refine (load_in wo mb cb co cc m HBW.out.ma x k hxk).mono ?_
                rintro e w3 ⟨g1, rfl, hr3, hc3, hgb3⟩
                have q1 := hc3.cell p1 (by simp)
                have q2 := hc3.cell p2 (by simp)
                have HB3 := Lib.hid (HBW.out.kept0 hc3)
                have hml : ((m.mem.drop x).take k).length = k := by have := HBW.out.ma.m1k; simp [this]; omega
                have kc : (convert 26 9 (.slice g1 k k)).run Try.prog w3 = .ok (.string (strB ((m.mem.drop x).take k))) w3 := conv_load w3 g1 k k _ hml hr3.src
                have hx : XAt wo w3 g1 k := XAt.ofRow hr3 hgb3
                have HX := Lib.hid hx
                clear hr3 hc3 hgb3 hx p1 p2 p3
                go_wp2_with fail
                refine (ref_load_in w3 rb m HB3.out.ra x k hxk).mono ?_
                rintro e w4 ⟨rfl, rfl⟩
                generalize strB ((m.mem.drop x).take k) = S at *
                clear hml
                go_wp2_with fail
                go_loopg [19] k (fun g2 v19 wr2 => ∃ j : Nat, j + g2 = k ∧ v19 = .int .i64 j ∧ Both w wr2 mb cb co cc rb m ∧ XAt wo wr2 g1 k)
                case atStart => exact ⟨0, by omega, rfl, HB3.out, HX.out⟩
                case round =>
                  obtain ⟨j, hj, rfl, hbo2, hx2⟩ := hrel
                  clear HB3 HX
                  have HB5 := Lib.hid hbo2
                  have HX := Lib.hid hx2
                  clear hbo2 hx2
                  cases gk with
                  | zero =>
                    obtain rfl : j = k := by omega
                    go_wp2
                    all_goals
                      go_meet
                      case rel => exact ⟨mb, cb, co, cc, rb, m, rfl, rfl, HB5.out⟩
                  | succ g2 =>
                    obtain ⟨gb, cur, rfl, hgo, hgs, hgz, hgw⟩ := HX.out (by omega)
                    obtain ⟨z, hz, hz0, hz1⟩ := hgz j (by omega)
                    have hcell := cell_of_obj hgo hz
                    have hfree := free_of_obj hgo j
                    have hj1 : (j : Int) < (k : Int) := by omega
                    have hj0 : (0 : Int) ≤ (j : Int) := by omega
                    have HGZ := Lib.hid hgz
                    have HGO := Lib.hid hgo
                    clear hgz hgo hz
                    go_wp2
                    all_goals
                      go_roundg g2
                      case measure => omega
                      case rel =>
                        refine ⟨j + 1, by omega, by go_num, HB5.out.kept ((Chg.refl [gb] wr).setCell _ _ (by simp)) (by simp; omega) (by simp; omega) (by simp; omega) (by have := HBW.out.chg.size; simp; omega), ?_⟩
                        exact XAt.store HGO.out hgs HGZ.out hgw (by omega) (by omega)
              · have hwb := wf_i64.1 wb
                have hout1 : A < 0 ∨ B < 0 ∨ 1024 < B ∨ 1024 - B < A := by omega
                have hout2 : A < 0 ∨ B < 0 ∨ 1024 < A ∨ 1024 - A < B := by omega
                have kc : (convert 26 9 (.slice none 0 0)).run Try.prog wo = .ok (.string (strB [])) wo := conv_load wo none 0 0 [] rfl (fun h => absurd rfl h)
                clear hin
                go_wp2_with fail
                refine (load_out wo mb A B hout1 hwb).mono ?_
                rintro e w4 ⟨rfl, rfl⟩
                go_wp2_with fail
                refine (ref_load_out wo rb A B hout2).mono ?_
                rintro e w4 ⟨rfl, rfl⟩
                generalize strB [] = S at *
                go_wp2_with fail
                go_loopg [19] 0 (fun g2 v19 wr2 => v19 = .int .i64 0 ∧ Both w wr2 mb cb co cc rb m)
                case atStart => exact ⟨rfl, HBW.out⟩
                case round =>
                  obtain ⟨rfl, hbo2⟩ := hrel
                  have HB5 := Lib.hid hbo2
                  clear hbo2
                  go_wp2
                  all_goals
                    go_meet
                    case rel => exact ⟨mb, cb, co, cc, rb, m, rfl, rfl, HB5.out⟩
            · have z2 : (K == 2) = false := by simpa using h2
              by_cases h3 : K = 3
              · subst h3
                have hneb := HBW.out.lo
                have hdbm : ∀ x, da = some x → 0 < dl → x.block ≠ mb ∧ x.block ≠ rb := fun x hx h0 => by have := HDB.out x hx h0; omega
                have HDM := Lib.hid hdbm
                clear hdbm
                have HBD := Lib.hid (HBW.out.kept0 (Chg.refl [] wo).drew)
                have HDD := Lib.hid (HDW.out.kept0 (Chg.refl [] wo).drew)
                have p1d : wo.drew.cell? ⟨ob, 1, none⟩ = some (.int .i64 A) := p1
                have p3d : wo.drew.cell? ⟨ob, 3, none⟩ = some (.slice da dl dc) := p3
                have kcd := conv_load wo.drew da dl dc ys hdl HDD.out.src
                have hk : ∀ (W1 W2 : World) (F : List Nat), Bytes W1 da dl dc ys → Chg F W1 W2 → (F = [mb] ∨ F = [rb]) → Bytes W2 da dl dc ys := by
                  intro W1 W2 F hb hc hF
                  refine ⟨hb.len, hb.cap, ?_⟩
                  by_cases h0 : dl = 0
                  · have : ys = [] := List.eq_nil_of_length_eq_zero (by rw [hdl, h0])
                    subst this
                    exact fun h => absurd rfl h
                  · exact hb.src.kept hc (fun x hx => by
                      have := HDM.out x hx (by omega)
                      rcases hF with rfl | rfl
                      · simp; exact this.1
                      · simp; exact this.2)
                have HKK := Lib.hid hk
                clear p2 hk
                by_cases hin : 0 ≤ A ∧ A + (dl : Int) ≤ 1024
                · obtain ⟨x, rfl⟩ : ∃ x : Nat, A = (x : Int) := ⟨A.toNat, by omega⟩
                  have hx : x + dl ≤ 1024 := by omega
                  have hx2 : x + ys.length ≤ 1024 := by omega
                  clear hin
                  go_wp2_with fail
                  go_region_held3 (fun w' => w'.cell? ⟨ob, 1, none⟩ = some (.int .i64 (x : Int)) ∧ w'.cell? ⟨ob, 3, none⟩ = some (.slice da dl dc) ∧ (convert 26 9 (.slice da dl dc)).run Try.prog w' = .ok (.string ⟨ys.toArray⟩) w') (first | exact ⟨p1d, p3d, kcd⟩ | exact ⟨l1, l3, lc⟩ | exact ⟨n1, n3, nc⟩)
                    (first
                      | (go_at_call 24; refine (store_ok w3 mb cb co cc m M3.out x da dl dc ys D3.out hx).mono ?_; rintro e w4 ⟨rfl, hm4, hc4⟩; have n1 := hc4.cell l1 (by simp; omega); have n3 := hc4.cell l3 (by simp; omega); have nc := conv_load w4 da dl dc ys hdl (HKK.out _ _ _ D3.out hc4 (Or.inl rfl)).src)
                      | (go_at_call 28; refine (ref_store_in w3 rb m R3.out x ys hx2).mono ?_; rintro e w4 ⟨rfl, hr4, hc4⟩; have n1 := hc4.cell l1 (by simp; omega); have n3 := hc4.cell l3 (by simp; omega); have nc := conv_load w4 da dl dc ys hdl (HKK.out _ _ _ D3.out hc4 (Or.inr rfl)).src)
                      | (go_at_call 24; refine (store_ok wo.drew mb cb co cc m HBD.out.ma x da dl dc ys HDD.out hx).mono ?_; rintro e w3 ⟨rfl, hm3, hc3⟩; have l1 := hc3.cell p1d (by simp; omega); have l3 := hc3.cell p3d (by simp; omega); have R3 := Lib.hid (HBD.out.ra.kept hc3 (by simp; omega)); have D3 := Lib.hid (HKK.out _ _ _ HDD.out hc3 (Or.inl rfl)); have lc := conv_load w3 da dl dc ys hdl D3.out.src)
                      | (go_at_call 28; refine (ref_store_in wo.drew rb m HBD.out.ra x ys hx2).mono ?_; rintro e w3 ⟨rfl, hr3, hc3⟩; have l1 := hc3.cell p1d (by simp; omega); have l3 := hc3.cell p3d (by simp; omega); have M3 := Lib.hid (HBD.out.ma.kept hc3 (by simp; omega) (by simp; omega)); have D3 := Lib.hid (HKK.out _ _ _ HDD.out hc3 (Or.inr rfl)); have lc := conv_load w3 da dl dc ys hdl D3.out.src))
                  all_goals
                    have HB4 : Hid (Both w w4 mb cb co cc rb (Vm.putM m x ys)) := Lib.hid (by
                      first
                      | exact HBD.out.two hm3 hc3 hr4 hc4 (good_putM HBD.out.gd x ys)
                      | exact HBD.out.two' hr3 hc3 hm4 hc4 (good_putM HBD.out.gd x ys))
                    go_wp2
                    all_goals
                      go_meet
                      case rel => exact ⟨mb, cb, co, cc, rb, _, rfl, rfl, HB4.out⟩
                · have hout1 : A < 0 ∨ 1024 < dl ∨ 1024 - (dl : Int) < A := by omega
                  have hout2 : A < 0 ∨ 1024 < A ∨ 1024 - A < (ys.length : Int) := by omega
                  have hdl2 : dl ≤ 9223372036854775807 := by have := hdc; unfold maxLen at this; omega
                  clear hin
                  go_wp2_with fail
                  go_region_held3 (fun w' => w'.cell? ⟨ob, 1, none⟩ = some (.int .i64 A) ∧ w'.cell? ⟨ob, 3, none⟩ = some (.slice da dl dc) ∧ (convert 26 9 (.slice da dl dc)).run Try.prog w' = .ok (.string ⟨ys.toArray⟩) w') (exact ⟨p1d, p3d, kcd⟩)
                    (first
                      | (go_at_call 24; refine (store_out wo.drew mb A da dl dc hout1 hdl2).mono ?_; rintro e w4 ⟨rfl, rfl⟩)
                      | (go_at_call 28; refine (ref_store_out wo.drew rb A ys hout2).mono ?_; rintro e w4 ⟨rfl, rfl⟩))
                  all_goals
                    go_wp2
                    all_goals
                      go_meet
                      case rel => exact ⟨mb, cb, co, cc, rb, m, rfl, rfl, HBD.out⟩
              · have z3 : (K == 3) = false := by simpa using h3
                by_cases h4 : K = 4
                · subst h4
                  by_cases hin : 0 ≤ A ∧ A < (m.n : Int)
                  · obtain ⟨x, rfl⟩ : ∃ x : Nat, A = (x : Int) := ⟨A.toNat, by omega⟩
                    have hx : x < m.n := by omega
                    have HBD := Lib.hid (HBW.out.kept0 (Chg.refl [] wo).drew)
                    have p1d : wo.drew.cell? ⟨ob, 1, none⟩ = some (.int .i64 (x : Int)) := p1
                    have hne := HBW.out.lo
                    clear hin p2 p3
                    go_wp2_with fail
                    go_region_held3 (fun w' => w'.cell? ⟨ob, 1, none⟩ = some (.int .i64 (x : Int))) (first | exact p1d | exact l1 | exact l2)
                      (first
                        | (go_at_call 29; refine (jump_in w3 mb cb co cc m M3.out x hx).mono ?_; rintro e w4 ⟨rfl, hm4, hc4⟩; have l2 := hc4.cell l1 (by simp; omega))
                        | (go_at_call 30; refine (ref_jump_in w3 rb m R3.out x hx).mono ?_; rintro e w4 ⟨rfl, hr4, hc4⟩; have l2 := hc4.cell l1 (by simp; omega))
                        | (go_at_call 29; refine (jump_in wo.drew mb cb co cc m HBD.out.ma x hx).mono ?_; rintro e w3 ⟨rfl, hm3, hc3⟩; have l1 := hc3.cell p1d (by simp; omega); have R3 := Lib.hid (HBD.out.ra.kept hc3 (by simp; omega)))
                        | (go_at_call 30; refine (ref_jump_in wo.drew rb m HBD.out.ra x hx).mono ?_; rintro e w3 ⟨rfl, hr3, hc3⟩; have l1 := hc3.cell p1d (by simp; omega); have M3 := Lib.hid (HBD.out.ma.kept hc3 (by simp; omega) (by simp; omega))))
                    all_goals
                      have HB4 : Hid (Both w w4 mb cb co cc rb { m with pc := (x : Int), stopped := 0 }) := Lib.hid (by
                        first
                        | exact HBD.out.two hm3 hc3 hr4 hc4 (good_jump HBD.out.gd x hx)
                        | exact HBD.out.two' hr3 hc3 hm4 hc4 (good_jump HBD.out.gd x hx))
                      go_wp2
                      all_goals
                        go_meet
                        case rel => exact ⟨mb, cb, co, cc, rb, _, rfl, rfl, HB4.out⟩
                  · have hout : A < 0 ∨ (m.n : Int) ≤ A := by omega
                    have HBD := Lib.hid (HBW.out.kept0 (Chg.refl [] wo).drew)
                    have p1d : wo.drew.cell? ⟨ob, 1, none⟩ = some (.int .i64 A) := p1
                    clear hin p2 p3
                    go_wp2_with fail
                    go_region_held3 (fun w' => w'.cell? ⟨ob, 1, none⟩ = some (.int .i64 A)) (exact p1d)
                      (first
                        | (go_at_call 29; refine (jump_out wo.drew mb cb co cc m HBD.out.ma A hout).mono ?_; rintro e w4 ⟨rfl, rfl⟩)
                        | (go_at_call 30; refine (ref_jump_out wo.drew rb m HBD.out.ra A hout).mono ?_; rintro e w4 ⟨rfl, rfl⟩))
                    all_goals
                      go_wp2
                      all_goals
                        go_meet
                        case rel => exact ⟨mb, cb, co, cc, rb, m, rfl, rfl, HBD.out⟩
                · have z4 : (K == 4) = false := by simpa using h4
                  go_wp2_with fail
                  refine (copy_any wo mb cb co cc m HBW.out.ma).mono ?_
                  rintro e w3 ⟨mb', rfl, hm3, _, hc3, hmb'⟩
                  have HM3 := Lib.hid hm3
                  have HC3 := Lib.hid hc3
                  have HR3 := Lib.hid (HBW.out.ra.kept0 hc3)
                  have hmlt := lt_of_obj hm3.obj
                  clear hm3 hc3
                  go_wp2_with fail
                  refine (ref_copy w3 rb m HR3.out).mono ?_
                  rintro e w4 ⟨rb', rfl, hr4, hc4, hrb'⟩
                  have hB4 : Both w w4 mb' cb co cc rb' m := ⟨HM3.out.kept0 hc4, hr4, HBW.out.gd, by
                    have := HBW.out.lo; have := HBW.out.rb_lt; have := HC3.out.size; have := HBW.out.chg.size; omega, (HBW.out.chg.then0 HC3.out).then0 hc4⟩
                  have HB4 := Lib.hid hB4
                  clear hB4 hr4 hc4
                  go_wp2
                  all_goals
                    go_meet
                    case rel => exact ⟨mb', cb, co, cc, rb', m, rfl, rfl, HB4.out⟩
      case rest =>
        obtain ⟨mb, cb, co, cc, rb, m, rfl, rfl, hbo⟩ := hcut
        have HBO := Lib.hid hbo
        clear hbo
        go_wp2_with fail
        refine (same_any wc mb cb co cc rb m HBO.out.ma HBO.out.ra).mono ?_
        rintro e w5 ⟨rfl, hc5⟩
        have HB5 := Lib.hid (HBO.out.kept0 hc5)
        clear hc5 HBO
        go_wp2
        all_goals
          go_roundg g
          case measure => omega
          case rel => exact ⟨i + 1, mb, cb, co, cc, rb, m, by omega, by go_num, rfl, rfl, HB5.out⟩

end Go.Proofs.Ytocjdbenelikpaa
