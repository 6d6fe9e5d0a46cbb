/-
  ParseProgram: walked.
-/
import Derived.Test.YtfgbbmnmblchiaaDoorSameT
import Derived.Test.YtfgbbmnmblchiaaDoorPm07
namespace Go.Proofs.YtfgbbmnmblchiaaDoor
open Go.RowKit
set_option linter.unusedVariables false

set_option maxHeartbeats 4000000 in
set_option maxRecDepth 10000 in
theorem parseProgram_any (l : List UInt8) (w : World) (hl9 : l.length ≤ 9223372036854775807) (hT : Hid (U8 w)) (m : Int) (hm : w.cell? ⟨2, 0, none⟩ = some (.int .i64 m)) :
    Calls Tryd.prog 4 #[.string (Lx.strB l)] w fun e w' => e = .returned (.bool true) ∧ Chg [] w w' := by
  have HM := Lib.hid hm
  have h2w : 2 < w.heap.size := World.block_lt_of_cell? w _ hm
  have H1 := Lib.hid (program_any l w hl9 hT m hm)
  have H2 := Lib.hid (fun (W : World) (h : Chg [] w W) => rprogram l W hl9 (Nat.lt_of_lt_of_le h2w h.size))
  have HSM := Lib.hid (program_sm l)
  clear hm h2w
  generalize Ps.program l = R at *
  obtain ⟨er, at_, n⟩ := R
  go_enter Tryd.func4, Tryd.ntmps4
  go_wp2_with fail
  refine Calls.mono H1.out ?_
  rintro e w1 ⟨hC1, cs, rfl, hN1⟩
  obtain ⟨k1, s1, ka1, wa1, sa1, ra1, kn1, kc1, wn1, wc1, sn1, sc1, rn1, rc1, rfl⟩ := hN1.Six
  have hal : Chg [] w1 (w1.alloc (.cells #[.int .i64 k1, .slice ka1 kn1 kc1, .string (Lx.strB s1), .slice wa1 wn1 wc1, .slice sa1 sn1 sc1, .slice ra1 rn1 rc1] 30)) := (Chg.refl [] w1).alloc _
  have HB1 := Lib.hid (obj_alloc_new w1 (.cells #[.int .i64 k1, .slice ka1 kn1 kc1, .string (Lx.strB s1), .slice wa1 wn1 wc1, .slice sa1 sn1 sc1, .slice ra1 rn1 rc1] 30))
  have HC1 := Lib.hid (hC1.then0 hal)
  have HN1 := Lib.hid (NodeAt.kept hal (by simp) _ _ hN1)
  clear hC1 hN1 hal H1
  go_upto_region 2 with (fail)
  generalize w1.alloc (.cells #[.int .i64 k1, .slice ka1 kn1 kc1, .string (Lx.strB s1), .slice wa1 wn1 wc1, .slice sa1 sn1 sc1, .slice ra1 rn1 rc1] 30) = w2 at *
  generalize w1.heap.size = b1 at *
  go_wp2_with fail
  refine Calls.mono (H2.out w2 HC1.out) ?_
  rintro e w3 ⟨hC3, k2, s2, ka2, wa2, sa2, ra2, kn2, kc2, wn2, wc2, sn2, sc2, rn2, rc2, rfl, hN2⟩
  have hal : Chg [] w3 (w3.alloc (.cells #[.int .i64 k2, .slice ka2 kn2 kc2, .string (Lx.strB s2), .slice wa2 wn2 wc2, .slice sa2 sn2 sc2, .slice ra2 rn2 rc2, .int .i64 at_, .int .i64 er] 44)) := (Chg.refl [] w3).alloc _
  have HB2 := Lib.hid (obj_alloc_new w3 (.cells #[.int .i64 k2, .slice ka2 kn2 kc2, .string (Lx.strB s2), .slice wa2 wn2 wc2, .slice sa2 sn2 sc2, .slice ra2 rn2 rc2, .int .i64 at_, .int .i64 er] 44))
  have h23 := hC3.then0 hal
  have HB1b := Lib.hid (h23.obj HB1.out (by simp))
  have HN1b := Lib.hid (NodeAt.kept h23 (by simp) _ _ HN1.out)
  have HN2 := Lib.hid (NodeAt.kept hal (by simp) _ _ hN2)
  have HC2 := Lib.hid (HC1.out.then0 h23)
  clear hC3 hN2 hal h23 HB1 HN1 HC1 H2
  go_upto_region 3 with (fail)
  generalize w3.alloc (.cells #[.int .i64 k2, .slice ka2 kn2 kc2, .string (Lx.strB s2), .slice wa2 wn2 wc2, .slice sa2 sn2 sc2, .slice ra2 rn2 rc2, .int .i64 at_, .int .i64 er] 44) = w4 at *
  generalize w3.heap.size = b2 at *
  obtain ⟨a0, a1, a2, a3, a4, a5, _⟩ := six_cells HB1b.out
  obtain ⟨c0, c1, c2, c3, c4, c5, c6, c7, _⟩ := eight_cells HB2.out
  have SA := Lib.hid (same_tree n HSM.out (fun _ => True) (fun _ => True) _ _ w4 HN1b.out HN2.out)
  go_wp2_with fail
  refine Calls.mono SA.out ?_
  rintro e w5 ⟨rfl, hC5⟩
  have HC5 := Lib.hid (HC2.out.then0 hC5)
  clear hC5 SA a0 a1 a2 a3 a4 a5 c0 c1 c2 c3 c4 c5 c6 c7
  go_wp2_with fail
  refine (awake_any w5 (U8.chg hT HC5.out) m (HC5.out.cell HM.out (by simp))).mono ?_
  rintro e w6 ⟨rfl, hC6⟩
  go_wp2
  go_ret
  exact ⟨rfl, HC5.out.then0 hC6⟩

end Go.Proofs.YtfgbbmnmblchiaaDoor
