/-
  The document's reader: a command: the walk, by the depth left. (Printed by gencmdr.py.)
-/
import Derived.Test.YtfgbbmnmblchiaaDoorEachR
import Derived.Test.YtfgbbmnmblchiaaDoorSimpR
namespace Go.Proofs.YtfgbbmnmblchiaaDoor
open Go.RowKit
set_option linter.unusedVariables false

theorem up_ok {s : St} {q d : Nat} (h : s.up = .ok q d) : ∃ p' d', s = .ok p' d' := by
  cases s with
  | bad e t => cases h
  | ok p d => exact ⟨p, d, rfl⟩
theorem need_ok2 {ts : List Lx.Tok} {ln : Nat} {k : Int} {x : List UInt8} {s : St} {q d : Nat} (h : s.need ts ln k x = .ok q d) : ∃ p' d', s = .ok p' d' := by
  obtain ⟨p, e⟩ := need_ok h
  exact ⟨p, d, e⟩
theorem At.pos {s : St} {deep : Nat} (h : s.At (deep + 1)) : ∀ q e, s = .ok q e → 0 < e := fun q e h2 => by
  rw [h2] at h
  have : e = deep + 1 := h
  omega
theorem Opens.fin {ts : List Lx.Tok} {ln deep : Nat} {r : Ps.Res Ps.Node} {s : St} {k : Int} {acc : List Ps.Node} (h : Opens ts ln deep r s k acc) {w wr w' : World} {pb : Nat} {a : Option Addr} {c : Nat} {vs : List Value} {B : List Nat} {m : Nat} {xs : List Value} {ka : Option Addr} {kn kc : Nat} (hk : KR w pb a c ts vs ln B s.up m acc (.slice ka kn kc) xs wr) {F : List Nat} (hc : Chg F wr w') (hF : ∀ k ∈ F, k ∈ B) :
    SPost w pb a c ts vs ln (toS ts ln deep r) (.returned (.agg (nodeC k (.slice ka kn kc)))) w' := by
  obtain ⟨o, h1, h2⟩ := h
  rw [h1]
  refine hk.finN hc hF k rfl (fun n hn => ?_)
  obtain ⟨e, p, d, e2⟩ := h2 n hn
  exact ⟨e, p, d - 1, by rw [e2]; rfl⟩

section
variable {ts : List Lx.Tok} {ln p d D : Nat} {cmd : Nat → Ps.Res Ps.Node} {s1 : St} {T U V : St × Option Ps.Node}
theorem down_at (ts : List Lx.Tok) (ln p d : Nat) : ((St.ok p d).down ts ln).At (d + 1) := by
  simp only [St.down]
  split
  · trivial
  · rfl
theorem openG (hD : (d = 16 ∧ D = 0) ∨ (d < 16 ∧ ∃ D', D = D' + 1 ∧ cmd = Ps.cmdP ts D')) (hC0 : Ps.cmdP ts 0 p = .bad 12 p) (hC : ∀ d, Ps.cmdP ts (d + 1) p = Ps.groupP ts (Ps.cmdP ts d) (p + 1)) (hs : (St.ok p d).down ts ln = s1) (hT : s1.step ts ln (listQ ts cmd true) = T) :
    Opens ts ln d (Ps.cmdP ts D p) (T.1.need ts ln 2 [41]) 9 T.2.toList := by
  subst hs
  rcases hD with ⟨rfl, rfl⟩ | ⟨h1, D', rfl, rfl⟩
  · rw [show (St.ok p 16).down ts ln = .bad 12 (posR ts ln p) from rfl] at hT
    subst hT
    exact .bad hC0
  · rw [show (St.ok p d).down ts ln = .ok (p + 1) (d + 1) from by simp only [St.down]; rw [if_neg (by omega)]] at hT
    rw [hC]
    exact groupS ts ln d _ (p + 1) T hT
theorem openL (hD : (d = 16 ∧ D = 0) ∨ (d < 16 ∧ ∃ D', D = D' + 1 ∧ cmd = Ps.cmdP ts D')) (hC0 : Ps.cmdP ts 0 p = .bad 12 p) (hC : ∀ d, Ps.cmdP ts (d + 1) p = Ps.loopP ts (Ps.cmdP ts d) (p + 1)) (hs : (St.ok p d).down ts ln = s1) (hT : s1.step ts ln (listQ ts cmd true) = T) (hU : (T.1.need ts ln 1 Ps.kwDo).step ts ln (listQ ts cmd true) = U) :
    Opens ts ln d (Ps.cmdP ts D p) (U.1.need ts ln 1 Ps.kwDone) 7 (T.2.toList ++ U.2.toList) := by
  subst hs
  rcases hD with ⟨rfl, rfl⟩ | ⟨h1, D', rfl, rfl⟩
  · rw [show (St.ok p 16).down ts ln = .bad 12 (posR ts ln p) from rfl] at hT
    subst hT
    subst hU
    exact .bad hC0
  · rw [show (St.ok p d).down ts ln = .ok (p + 1) (d + 1) from by simp only [St.down]; rw [if_neg (by omega)]] at hT
    rw [hC]
    exact loopS ts ln d _ (p + 1) T U hT hU
theorem openB (hD : (d = 16 ∧ D = 0) ∨ (d < 16 ∧ ∃ D', D = D' + 1 ∧ cmd = Ps.cmdP ts D')) (hC0 : Ps.cmdP ts 0 p = .bad 12 p) (hC : ∀ d, Ps.cmdP ts (d + 1) p = Ps.branchP ts (Ps.cmdP ts d) (p + 1)) (hs : (St.ok p d).down ts ln = s1) (hT : s1.step ts ln (listQ ts cmd true) = T) (hU : (T.1.need ts ln 1 Ps.kwThen).step ts ln (listQ ts cmd true) = U) (hV : U.1.next.step ts ln (listQ ts cmd true) = V) :
    (U.1.is ts 1 Ps.kwElse = false → Opens ts ln d (Ps.cmdP ts D p) (U.1.need ts ln 1 Ps.kwFi) 6 (T.2.toList ++ U.2.toList)) ∧ (U.1.is ts 1 Ps.kwElse = true → Opens ts ln d (Ps.cmdP ts D p) (V.1.need ts ln 1 Ps.kwFi) 6 (T.2.toList ++ U.2.toList ++ V.2.toList)) := by
  subst hs
  rcases hD with ⟨rfl, rfl⟩ | ⟨h1, D', rfl, rfl⟩
  · rw [show (St.ok p 16).down ts ln = .bad 12 (posR ts ln p) from rfl] at hT
    subst hT
    subst hU
    exact ⟨fun _ => .bad hC0, fun h => by cases h⟩
  · rw [show (St.ok p d).down ts ln = .ok (p + 1) (d + 1) from by simp only [St.down]; rw [if_neg (by omega)]] at hT
    rw [hC]
    exact branchS ts ln d _ (p + 1) T U V hT hU hV
end

set_option maxHeartbeats 4000000 in
set_option maxRecDepth 10000 in
theorem scommand_bad (pb : Nat) (a : Option Addr) (c : Nat) (ts : List Lx.Tok) (vs : List Value) (ln : Nat) (er at_ : Int) (g : Nat → Ps.Res Ps.Node) (w : World) (h : RS w pb a c ts vs ln (.bad er at_)) :
    Calls Tryd.prog 63 #[.pointer (some ⟨pb, 0, none⟩)] w fun e w' => SPost w pb a c ts vs ln ((St.bad er at_).step ts ln g) e w' := by
  have HK := Lib.hid (((KR.start h).own (.cells (nodeC 0 (.slice none 0 0)) 42) rfl).own (.cells (nodeC 0 (.slice none 0 0)) 42) rfl)
  have HRS := Lib.hid (obj_alloc_old (obj_alloc_new w (.cells (nodeC 0 (.slice none 0 0)) 42)) (.cells (nodeC 0 (.slice none 0 0)) 42))
  have HND := Lib.hid (obj_alloc_new (w.alloc (.cells (nodeC 0 (.slice none 0 0)) 42)) (.cells (nodeC 0 (.slice none 0 0)) 42))
  have HNB := Lib.hid (show (w.alloc (.cells (nodeC 0 (.slice none 0 0)) 42)).heap.size = w.heap.size + 1 from by simp)
  rw [HNB.out] at HK HND
  clear h
  go_enter Tryd.func63, Tryd.ntmps63
  go_upto_region 3 with (fail)
  have HK := Lib.hid HK.out
  simp only [nodeC] at HK HRS HND
  generalize (w.alloc (.cells #[.int .i64 0, .slice none 0 0, .string ⟨#[]⟩, .slice none 0 0, .slice none 0 0, .slice none 0 0] 42)).alloc (.cells #[.int .i64 0, .slice none 0 0, .string ⟨#[]⟩, .slice none 0 0, .slice none 0 0, .slice none 0 0] 42) = w2 at *
  obtain ⟨x3, e3, e4⟩ := HK.out.rs.bad3
  obtain ⟨m0, m1, m2, m3, m4, m5, mf⟩ := six_cells HND.out
  obtain ⟨r0, r1, r2, r3, r4, r5, rf⟩ := six_cells HRS.out
  generalize hrb : w.heap.size = rb at *
  go_wp2_with fail
  refine bodyPost_ret (v := .agg (nodeC 0 (.slice none 0 0))) (by simp [results, Tryd.results63, go_sem, nodeC, r0, r1, r2, r3, r4, r5]) rfl ?_
  refine HK.out.finH (nodeC_six 0 none 0 0) (o := none) (fun n hn => by cases hn) (F := [rb]) ?_ (by simp)
  exact (Chg.refl [rb] w2).six rb (.int .i64 0) (.slice none 0 0) (.string ⟨#[]⟩) (.slice none 0 0) (.slice none 0 0) (.slice none 0 0) (.inl (by simp))

set_option maxHeartbeats 8000000 in
set_option maxRecDepth 10000 in
theorem scommand_step (pb : Nat) (a : Option Addr) (c : Nat) (ts : List Lx.Tok) (vs : List Value) (ln deep D : Nat) (cmd : Nat → Ps.Res Ps.Node) (hcmd : Does 63 pb a c ts vs ln (deep + 1) cmd) (hmv : Moves cmd) (hD : (deep = 16 ∧ D = 0) ∨ (deep < 16 ∧ ∃ D', D = D' + 1 ∧ cmd = Ps.cmdP ts D')) :
    Does 63 pb a c ts vs ln deep (Ps.cmdP ts D) := by
  intro st w hat h
  cases st with
  | bad e t => exact scommand_bad pb a c ts vs ln e t _ w h
  | ok p d =>
  obtain rfl : d = deep := hat
  have HLI := Lib.hid (show ListDoes pb a c ts vs ln (d + 1) cmd from fun em st w hat h => slist pb a c ts vs ln (d + 1) cmd hcmd hmv em st w hat h)
  have GOOD := Lib.hid h.1.good
  have hle := h.2.1
  have hfew := h.1.few
  have HK := Lib.hid (((KR.start h).own (.cells (nodeC 0 (.slice none 0 0)) 42) rfl).own (.cells (nodeC 0 (.slice none 0 0)) 42) rfl)
  have HRS := Lib.hid (obj_alloc_old (obj_alloc_new w (.cells (nodeC 0 (.slice none 0 0)) 42)) (.cells (nodeC 0 (.slice none 0 0)) 42))
  have HND := Lib.hid (obj_alloc_new (w.alloc (.cells (nodeC 0 (.slice none 0 0)) 42)) (.cells (nodeC 0 (.slice none 0 0)) 42))
  have HNB := Lib.hid (show (w.alloc (.cells (nodeC 0 (.slice none 0 0)) 42)).heap.size = w.heap.size + 1 from by simp)
  rw [HNB.out] at HK HND
  have hRR : (St.ok p d).step ts ln (Ps.cmdP ts D) = toS ts ln d (Ps.cmdP ts D p) := rfl
  rw [hRR]
  obtain ⟨i0, hi, hz0, hz1, hz2⟩ := info_parts Tryd.infoNodeR
  clear h hcmd hRR HNB
  obtain ⟨RR, hRR⟩ : ∃ RR, toS ts ln d (Ps.cmdP ts D p) = RR := ⟨_, rfl⟩
  rw [hRR]
  go_enter Tryd.func63, Tryd.ntmps63
  go_upto_region 3 with (fail)
  have HK := Lib.hid HK.out
  simp only [nodeC] at HK HRS HND
  generalize (w.alloc (.cells #[.int .i64 0, .slice none 0 0, .string ⟨#[]⟩, .slice none 0 0, .slice none 0 0, .slice none 0 0] 42)).alloc (.cells #[.int .i64 0, .slice none 0 0, .string ⟨#[]⟩, .slice none 0 0, .slice none 0 0, .slice none 0 0] 42) = w2 at *
  generalize w.heap.size = rb at *
  have x3 := HK.out.rs.1.c3
  have IS := fun (k : Int) (x : List UInt8) (hx : x ≠ []) (b : Bool) (hb : St.is ts k x (.ok p d) = b) (W : World) (hW : RS W pb a c ts vs ln (.ok p d)) => hb ▸ sis pb a c ts vs ln (.ok p d) W k x hx hW
  rcases cmd_cases ts GOOD.out p with ⟨h1, h2, h3, h4, h5, hC⟩ | ⟨h1, h2, h3, h4, h5, hC⟩ | ⟨hlt, h1, hC0, hC⟩ | ⟨hlt, h1, h2, hC0, hC⟩ | ⟨hlt, h1, h2, h3, hC0, hC⟩ | ⟨hlt, h1, h2, h3, h4, hC0, hC⟩
  · have J0 := Lib.hid (IS 2 [40] (by decide) _ h1)
    have J1 := Lib.hid (IS 1 Ps.kwIf (by decide) _ h2)
    have J2 := Lib.hid (IS 1 Ps.kwWhile (by decide) _ h3)
    have J3 := Lib.hid (IS 1 Ps.kwFor (by decide) _ h4)
    clear IS h1 h2 h3 h4
    go_wp2_with fail
    refine (J0.out _ (HK.out.rs)).mono ?_
    rintro e wq0 ⟨rfl, n0, rfl⟩
    go_wp2_with fail
    refine (J1.out _ (HK.out.rs.drewN _)).mono ?_
    rintro e wq1 ⟨rfl, n1, rfl⟩
    go_wp2_with fail
    refine (J2.out _ (HK.out.rs.drewN _)).mono ?_
    rintro e wq2 ⟨rfl, n2, rfl⟩
    go_wp2_with fail
    refine (J3.out _ (HK.out.rs.drewN _)).mono ?_
    rintro e wq3 ⟨rfl, n3, rfl⟩
    have hC5 := (((Chg.refl [] w2).drewN (n0 + n1 + n2)).drewN n3)
    have HK5 := Lib.hid (HK.out.kept0 hC5)
    have HND5 := Lib.hid (hC5.obj HND.out (by simp))
    have HRS5 := Lib.hid (hC5.obj HRS.out (by simp))
    clear hC5 HK HND HRS x3 J0 J1 J2 J3
    generalize (w2.drewN (n0 + n1 + n2)).drewN n3 = w5 at *

    have HST := Lib.hid (fun W (h : RS W pb a c ts vs ln (.ok p d)) => sstops pb a c ts vs ln (.ok p d) W h)
    rw [show St.stops ts (.ok p d) = true from h5] at HST
    clear h5
    go_wp2_with fail
    refine (HST.out _ HK5.out.rs).mono ?_
    rintro e w5b ⟨rfl, hC5⟩
    have HK5 := Lib.hid (HK5.out.kept0 hC5)
    have HND5 := Lib.hid (hC5.obj HND5.out (by simp))
    have HRS5 := Lib.hid (hC5.obj HRS5.out (by simp))
    clear hC5 HST
    go_wp2_with fail

    have HR := Lib.hid (show RR = (St.bad 10 (posR ts ln p), none) from by rw [← hRR, hC D]; rfl)
    clear hRR hC
    refine (sfail pb a c ts vs ln (.ok p d) _ 10 (by decide) HK5.out.rs).mono ?_
    rintro e w6 ⟨rfl, hP6, hC6⟩
    have HK6 := Lib.hid (HK5.out.call (st' := .bad 10 (posR ts ln p)) hC6 hP6 (fun q e h => by cases h))
    have HND6 := Lib.hid (HK5.out.priv (by simp) HND5.out hC6)
    have HRS6 := Lib.hid (HK5.out.priv (by simp) HRS5.out hC6)
    clear hC6 hP6 HK5 HND5 HRS5
    obtain ⟨m0, m1, m2, m3, m4, m5, mf⟩ := six_cells HND6.out
    obtain ⟨r0, r1, r2, r3, r4, r5, rf⟩ := six_cells HRS6.out
    go_wp2_with fail
    refine bodyPost_ret (v := .agg (nodeC 0 (.slice none 0 0))) (by simp [results, Tryd.results63, go_sem, nodeC, r0, r1, r2, r3, r4, r5]) rfl ?_
    rw [HR.out]
    refine HK6.out.finH (nodeC_six 0 none 0 0) (o := none) (fun n hn => by cases hn) (F := [rb]) ?_ (by simp)
    exact (Chg.refl [rb] w6).six rb (.int .i64 0) (.slice none 0 0) (.string ⟨#[]⟩) (.slice none 0 0) (.slice none 0 0) (.slice none 0 0) (.inl (by simp))
  · have J0 := Lib.hid (IS 2 [40] (by decide) _ h1)
    have J1 := Lib.hid (IS 1 Ps.kwIf (by decide) _ h2)
    have J2 := Lib.hid (IS 1 Ps.kwWhile (by decide) _ h3)
    have J3 := Lib.hid (IS 1 Ps.kwFor (by decide) _ h4)
    clear IS h1 h2 h3 h4
    go_wp2_with fail
    refine (J0.out _ (HK.out.rs)).mono ?_
    rintro e wq0 ⟨rfl, n0, rfl⟩
    go_wp2_with fail
    refine (J1.out _ (HK.out.rs.drewN _)).mono ?_
    rintro e wq1 ⟨rfl, n1, rfl⟩
    go_wp2_with fail
    refine (J2.out _ (HK.out.rs.drewN _)).mono ?_
    rintro e wq2 ⟨rfl, n2, rfl⟩
    go_wp2_with fail
    refine (J3.out _ (HK.out.rs.drewN _)).mono ?_
    rintro e wq3 ⟨rfl, n3, rfl⟩
    have hC5 := (((Chg.refl [] w2).drewN (n0 + n1 + n2)).drewN n3)
    have HK5 := Lib.hid (HK.out.kept0 hC5)
    have HND5 := Lib.hid (hC5.obj HND.out (by simp))
    have HRS5 := Lib.hid (hC5.obj HRS.out (by simp))
    clear hC5 HK HND HRS x3 J0 J1 J2 J3
    generalize (w2.drewN (n0 + n1 + n2)).drewN n3 = w5 at *

    have HST := Lib.hid (fun W (h : RS W pb a c ts vs ln (.ok p d)) => sstops pb a c ts vs ln (.ok p d) W h)
    rw [show St.stops ts (.ok p d) = false from h5] at HST
    clear h5
    go_wp2_with fail
    refine (HST.out _ HK5.out.rs).mono ?_
    rintro e w5b ⟨rfl, hC5⟩
    have HK5 := Lib.hid (HK5.out.kept0 hC5)
    have HND5 := Lib.hid (hC5.obj HND5.out (by simp))
    have HRS5 := Lib.hid (hC5.obj HRS5.out (by simp))
    clear hC5 HST
    go_wp2_with fail

    have SI := ssimple pb a c ts vs ln p d _ HK5.out.rs
    rw [← hC D, hRR] at SI
    refine SI.mono ?_
    rintro e w6 hpost
    obtain ⟨cs, hsix, rfl, hC6, hP6, hN6⟩ := hpost
    have HK6 := Lib.hid (HK5.out.call hC6 hP6 (fun q e _ => ⟨p, d, rfl⟩))
    have HN6 := Lib.hid (show HeldAt w (.slice a ts.length c) vs [rb + 1, rb] RR.2 cs w6 from fun n hn => HK5.out.got (hN6 n hn) (Nat.le_refl _))
    have hnd6 := HK5.out.priv (by simp) HND5.out hC6
    have HRS6 := Lib.hid (HK5.out.priv (by simp) HRS5.out hC6)
    have HSIX := Lib.hid hsix
    obtain ⟨k3, s3, ka3, wa3, sa3, ra3, kn3, kc3, wn3, wc3, sn3, sc3, rn3, rc3, rfl⟩ := hsix
    obtain ⟨m0, m1, m2, m3, m4, m5, mf⟩ := six_cells hnd6
    have HND7 := Lib.hid (six_obj hnd6 (.int .i64 k3) (.slice ka3 kn3 kc3) (.string (Lx.strB s3)) (.slice wa3 wn3 wc3) (.slice sa3 sn3 sc3) (.slice ra3 rn3 rc3))
    have HC7 := Lib.hid ((Chg.refl [rb + 1] w6).six (rb + 1) (.int .i64 k3) (.slice ka3 kn3 kc3) (.string (Lx.strB s3)) (.slice wa3 wn3 wc3) (.slice sa3 sn3 sc3) (.slice ra3 rn3 rc3) (.inl (by simp)))
    clear hC6 hP6 hN6 hnd6 HK5 HND5 HRS5
    go_upto_region 31 with (fail)
    unfold sixW at HND7 HC7
    generalize (((((w6.setCell ⟨rb + 1, 0, none⟩ (.int .i64 k3)).setCell ⟨rb + 1, 1, none⟩ (.slice ka3 kn3 kc3)).setCell ⟨rb + 1, 2, none⟩ (.string (Lx.strB s3))).setCell ⟨rb + 1, 3, none⟩ (.slice wa3 wn3 wc3)).setCell ⟨rb + 1, 4, none⟩ (.slice sa3 sn3 sc3)).setCell ⟨rb + 1, 5, none⟩ (.slice ra3 rn3 rc3) = w7 at *
    have HRS7 := Lib.hid (HC7.out.obj HRS6.out (by simp))
    clear m0 m1 m2 m3 m4 m5 mf
    obtain ⟨m0, m1, m2, m3, m4, m5, mf⟩ := six_cells HND7.out
    obtain ⟨r0, r1, r2, r3, r4, r5, rf⟩ := six_cells HRS7.out
    go_wp2_with fail
    refine bodyPost_ret (v := .agg #[.int .i64 k3, .slice ka3 kn3 kc3, .string (Lx.strB s3), .slice wa3 wn3 wc3, .slice sa3 sn3 sc3, .slice ra3 rn3 rc3]) (by simp [results, Tryd.results63, go_sem, r0, r1, r2, r3, r4, r5]) rfl ?_
    have hK7 := HK6.out.kept HC7.out (by simp)
    refine hK7.finH HSIX.out (HK6.out.heldC HN6.out HC7.out (by simp)) (F := [rb]) ?_ (by simp)
    exact (Chg.refl [rb] w7).six rb (.int .i64 k3) (.slice ka3 kn3 kc3) (.string (Lx.strB s3)) (.slice wa3 wn3 wc3) (.slice sa3 sn3 sc3) (.slice ra3 rn3 rc3) (.inl (by simp))
  · have J0 := Lib.hid (IS 2 [40] (by decide) _ h1)
    clear IS h1
    go_wp2_with fail
    refine (J0.out _ (HK.out.rs)).mono ?_
    rintro e wq0 ⟨rfl, n0, rfl⟩
    have hC5 := ((Chg.refl [] w2).drewN n0)
    have HK5 := Lib.hid (HK.out.kept0 hC5)
    have HND5 := Lib.hid (hC5.obj HND.out (by simp))
    have HRS5 := Lib.hid (hC5.obj HRS.out (by simp))
    clear hC5 HK HND HRS x3 J0
    generalize w2.drewN n0 = w5 at *
    go_wp2_with fail
    refine (rdown_ok pb a c ts vs ln p d _ HK5.out.rs hlt).mono ?_
    rintro e w6 ⟨rfl, hC6, hR6⟩
    obtain ⟨s1, hs1⟩ : ∃ s1, (St.ok p d).down ts ln = s1 := ⟨_, rfl⟩
    have hR6 : RS w6 pb a c ts vs ln s1 := by
      rw [← hs1]
      simp only [St.down]
      by_cases h16 : d = 16
      · rw [if_pos h16] at hR6 ⊢; exact hR6
      · rw [if_neg h16] at hR6 ⊢; exact hR6
    have HK6 := Lib.hid (HK5.out.call hC6 hR6 (fun q e _ => ⟨p, d, rfl⟩))
    have HND6 := Lib.hid (HK5.out.priv (by simp) HND5.out hC6)
    have HRS6 := Lib.hid (HK5.out.priv (by simp) HRS5.out hC6)
    have HA6 := Lib.hid (show s1.At (d + 1) from hs1 ▸ down_at ts ln p d)
    have HS1 := Lib.hid hs1
    clear hC6 hR6 HK5 HND5 HRS5 hs1
    go_wp2_with fail
    refine (HLI.out false s1 _ HA6.out HK6.out.rs).mono ?_
    obtain ⟨T, hT⟩ : ∃ T, s1.step ts ln (listQ ts cmd true) = T := ⟨_, rfl⟩
    rw [show (!false) = true from rfl, hT]
    rintro e w7 ⟨cs, hsix, rfl, hC7, hP7, hN7⟩
    have HK7 := Lib.hid (HK6.out.add (w2 := w7) (w3 := w7.alloc (.cells cs.toArray 42)) hC7 hsix hP7 (fun q e h => hT ▸ step_g (hT.symm ▸ h)) hN7 (F := []) (by simp) (Chg.refl _ _) (v' := .slice (some ⟨w7.heap.size, 0, none⟩) 1 1) (Row.new (obj_alloc_new w7 _) hsix.one.1 (by decide) (by decide)) ((Chg.refl _ _).alloc _) (by simp [rowBlock]) (by decide))
    have HA7 := Lib.hid (show T.1.At (d + 1) from hT ▸ step_at HA6.out)
    have HT := Lib.hid hT
    obtain ⟨k3, s3, ka3, wa3, sa3, ra3, kn3, kc3, wn3, wc3, sn3, sc3, rn3, rc3, rfl⟩ := hsix
    have hnd7 := obj_alloc_old (HK6.out.priv (by simp) HND6.out hC7) (.cells #[.int .i64 k3, .slice ka3 kn3 kc3, .string (Lx.strB s3), .slice wa3 wn3 wc3, .slice sa3 sn3 sc3, .slice ra3 rn3 rc3] 42)
    have HRS7 := Lib.hid (obj_alloc_old (HK6.out.priv (by simp) HRS6.out hC7) (.cells #[.int .i64 k3, .slice ka3 kn3 kc3, .string (Lx.strB s3), .slice wa3 wn3 wc3, .slice sa3 sn3 sc3, .slice ra3 rn3 rc3] 42))
    have HND8 := Lib.hid (six_obj hnd7 (.int .i64 9) (.slice (some ⟨w7.heap.size, 0, none⟩) 1 1) (.string ⟨#[]⟩) (.slice none 0 0) (.slice none 0 0) (.slice none 0 0))
    have HC8 := Lib.hid ((Chg.refl [rb + 1] (w7.alloc (.cells #[.int .i64 k3, .slice ka3 kn3 kc3, .string (Lx.strB s3), .slice wa3 wn3 wc3, .slice sa3 sn3 sc3, .slice ra3 rn3 rc3] 42))).six (rb + 1) (.int .i64 9) (.slice (some ⟨w7.heap.size, 0, none⟩) 1 1) (.string ⟨#[]⟩) (.slice none 0 0) (.slice none 0 0) (.slice none 0 0) (.inl (by simp)))
    obtain ⟨m0, m1, m2, m3, m4, m5, mf⟩ := six_cells_alloc (HK6.out.priv (by simp) HND6.out hC7)
    clear hC7 hP7 hN7 hnd7 hT HK6 HND6 HRS6 HA6
    go_upto_region 8 with (fail)
    unfold sixW at HND8 HC8
    have HK8 := Lib.hid (HK7.out.kept HC8.out (by simp))
    have HRS8 := Lib.hid (HC8.out.obj HRS7.out (by simp))
    clear m0 m1 m2 m3 m4 m5 mf HK7 HRS7 HC8
    generalize ((((((w7.alloc (.cells #[.int .i64 k3, .slice ka3 kn3 kc3, .string (Lx.strB s3), .slice wa3 wn3 wc3, .slice sa3 sn3 sc3, .slice ra3 rn3 rc3] 42)).setCell ⟨rb + 1, 0, none⟩ (.int .i64 9)).setCell ⟨rb + 1, 1, none⟩ (.slice (some ⟨w7.heap.size, 0, none⟩) 1 1)).setCell ⟨rb + 1, 2, none⟩ (.string ⟨#[]⟩)).setCell ⟨rb + 1, 3, none⟩ (.slice none 0 0)).setCell ⟨rb + 1, 4, none⟩ (.slice none 0 0)).setCell ⟨rb + 1, 5, none⟩ (.slice none 0 0) = w8 at *
    have HO := Lib.hid (openG hD hC0 hC HS1.out HT.out)
    clear hD hC hC0 HS1 HT
    have HA8 := HA7
    clear HA7
    go_wp2_with fail
    refine (sneed pb a c ts vs ln T.1 _ 2 [41] (by decide) HK8.out.rs).mono ?_
    rintro e w9 ⟨rfl, hP9, hC9⟩
    have HK9 := Lib.hid (HK8.out.call hC9 hP9 (fun q e h => need_ok2 h))
    have HND9 := Lib.hid (HK8.out.priv (by simp) HND8.out hC9)
    have HRS9 := Lib.hid (HK8.out.priv (by simp) HRS8.out hC9)
    have HA9 := Lib.hid (show (T.1.need ts ln 2 [41]).At (d + 1) from need_at HA8.out)
    clear hP9 hC9 HK8 HND8 HRS8 HA8
    obtain ⟨⟨d5, x5⟩, f5⟩ := HK9.out.rs.c5
    go_upto_region 31 with (fail)
    have hCu := Chg.setP w9 pb 5 (.int .i64 (wrap64 (d5 - 1)))
    have HKu := Lib.hid (HK9.out.call hCu (upR HK9.out.rs x5 (At.pos HA9.out)) (fun q e h => up_ok h))
    have HNDu := Lib.hid (HK9.out.priv (by simp) HND9.out hCu)
    have HRSu := Lib.hid (HK9.out.priv (by simp) HRS9.out hCu)
    clear hCu x5 f5 HK9 HND9 HRS9 HA9
    generalize w9.setCell ⟨pb, 5, none⟩ (.int .i64 (wrap64 (d5 - 1))) = wu at *
    obtain ⟨m0, m1, m2, m3, m4, m5, mf⟩ := six_cells HNDu.out
    obtain ⟨r0, r1, r2, r3, r4, r5, rf⟩ := six_cells HRSu.out
    go_wp2_with fail
    refine bodyPost_ret (v := .agg (nodeC 9 (.slice (some ⟨w7.heap.size, 0, none⟩) 1 1))) (by simp [results, Tryd.results63, go_sem, nodeC, r0, r1, r2, r3, r4, r5]) rfl ?_
    rw [← hRR]
    refine HO.out.fin HKu.out (F := [rb]) ?_ (by simp)
    exact (Chg.refl [rb] wu).six rb (.int .i64 9) (.slice (some ⟨w7.heap.size, 0, none⟩) 1 1) (.string ⟨#[]⟩) (.slice none 0 0) (.slice none 0 0) (.slice none 0 0) (.inl (by simp))
  · have J0 := Lib.hid (IS 2 [40] (by decide) _ h1)
    have J1 := Lib.hid (IS 1 Ps.kwIf (by decide) _ h2)
    clear IS h1 h2
    go_wp2_with fail
    refine (J0.out _ (HK.out.rs)).mono ?_
    rintro e wq0 ⟨rfl, n0, rfl⟩
    go_wp2_with fail
    refine (J1.out _ (HK.out.rs.drewN _)).mono ?_
    rintro e wq1 ⟨rfl, n1, rfl⟩
    have hC5 := (((Chg.refl [] w2).drewN n0).drewN n1)
    have HK5 := Lib.hid (HK.out.kept0 hC5)
    have HND5 := Lib.hid (hC5.obj HND.out (by simp))
    have HRS5 := Lib.hid (hC5.obj HRS.out (by simp))
    clear hC5 HK HND HRS x3 J0 J1
    generalize (w2.drewN n0).drewN n1 = w5 at *
    go_wp2_with fail
    refine (rdown_ok pb a c ts vs ln p d _ HK5.out.rs hlt).mono ?_
    rintro e w6 ⟨rfl, hC6, hR6⟩
    obtain ⟨s1, hs1⟩ : ∃ s1, (St.ok p d).down ts ln = s1 := ⟨_, rfl⟩
    have hR6 : RS w6 pb a c ts vs ln s1 := by
      rw [← hs1]
      simp only [St.down]
      by_cases h16 : d = 16
      · rw [if_pos h16] at hR6 ⊢; exact hR6
      · rw [if_neg h16] at hR6 ⊢; exact hR6
    have HK6 := Lib.hid (HK5.out.call hC6 hR6 (fun q e _ => ⟨p, d, rfl⟩))
    have HND6 := Lib.hid (HK5.out.priv (by simp) HND5.out hC6)
    have HRS6 := Lib.hid (HK5.out.priv (by simp) HRS5.out hC6)
    have HA6 := Lib.hid (show s1.At (d + 1) from hs1 ▸ down_at ts ln p d)
    have HS1 := Lib.hid hs1
    clear hC6 hR6 HK5 HND5 HRS5 hs1
    go_wp2_with fail
    refine (HLI.out false s1 _ HA6.out HK6.out.rs).mono ?_
    obtain ⟨T, hT⟩ : ∃ T, s1.step ts ln (listQ ts cmd true) = T := ⟨_, rfl⟩
    rw [show (!false) = true from rfl, hT]
    rintro e w7 ⟨cs, hsix, rfl, hC7, hP7, hN7⟩
    have HK7 := Lib.hid (HK6.out.add (w2 := w7) (w3 := w7.alloc (.cells cs.toArray 42)) hC7 hsix hP7 (fun q e h => hT ▸ step_g (hT.symm ▸ h)) hN7 (F := []) (by simp) (Chg.refl _ _) (v' := .slice (some ⟨w7.heap.size, 0, none⟩) 1 1) (Row.new (obj_alloc_new w7 _) hsix.one.1 (by decide) (by decide)) ((Chg.refl _ _).alloc _) (by simp [rowBlock]) (by decide))
    have HA7 := Lib.hid (show T.1.At (d + 1) from hT ▸ step_at HA6.out)
    have HT := Lib.hid hT
    obtain ⟨k3, s3, ka3, wa3, sa3, ra3, kn3, kc3, wn3, wc3, sn3, sc3, rn3, rc3, rfl⟩ := hsix
    have hnd7 := obj_alloc_old (HK6.out.priv (by simp) HND6.out hC7) (.cells #[.int .i64 k3, .slice ka3 kn3 kc3, .string (Lx.strB s3), .slice wa3 wn3 wc3, .slice sa3 sn3 sc3, .slice ra3 rn3 rc3] 42)
    have HRS7 := Lib.hid (obj_alloc_old (HK6.out.priv (by simp) HRS6.out hC7) (.cells #[.int .i64 k3, .slice ka3 kn3 kc3, .string (Lx.strB s3), .slice wa3 wn3 wc3, .slice sa3 sn3 sc3, .slice ra3 rn3 rc3] 42))
    have HND8 := Lib.hid (six_obj hnd7 (.int .i64 6) (.slice (some ⟨w7.heap.size, 0, none⟩) 1 1) (.string ⟨#[]⟩) (.slice none 0 0) (.slice none 0 0) (.slice none 0 0))
    have HC8 := Lib.hid ((Chg.refl [rb + 1] (w7.alloc (.cells #[.int .i64 k3, .slice ka3 kn3 kc3, .string (Lx.strB s3), .slice wa3 wn3 wc3, .slice sa3 sn3 sc3, .slice ra3 rn3 rc3] 42))).six (rb + 1) (.int .i64 6) (.slice (some ⟨w7.heap.size, 0, none⟩) 1 1) (.string ⟨#[]⟩) (.slice none 0 0) (.slice none 0 0) (.slice none 0 0) (.inl (by simp)))
    obtain ⟨m0, m1, m2, m3, m4, m5, mf⟩ := six_cells_alloc (HK6.out.priv (by simp) HND6.out hC7)
    clear hC7 hP7 hN7 hnd7 hT HK6 HND6 HRS6 HA6
    go_upto_region 13 with (fail)
    unfold sixW at HND8 HC8
    have HK8 := Lib.hid (HK7.out.kept HC8.out (by simp))
    have HRS8 := Lib.hid (HC8.out.obj HRS7.out (by simp))
    clear m0 m1 m2 m3 m4 m5 mf HK7 HRS7 HC8
    generalize ((((((w7.alloc (.cells #[.int .i64 k3, .slice ka3 kn3 kc3, .string (Lx.strB s3), .slice wa3 wn3 wc3, .slice sa3 sn3 sc3, .slice ra3 rn3 rc3] 42)).setCell ⟨rb + 1, 0, none⟩ (.int .i64 6)).setCell ⟨rb + 1, 1, none⟩ (.slice (some ⟨w7.heap.size, 0, none⟩) 1 1)).setCell ⟨rb + 1, 2, none⟩ (.string ⟨#[]⟩)).setCell ⟨rb + 1, 3, none⟩ (.slice none 0 0)).setCell ⟨rb + 1, 4, none⟩ (.slice none 0 0)).setCell ⟨rb + 1, 5, none⟩ (.slice none 0 0) = w8 at *
    have HA8 := HA7
    clear HA7
    go_wp2_with fail
    refine (sneed pb a c ts vs ln T.1 _ 1 Ps.kwThen (by decide) HK8.out.rs).mono ?_
    rintro e w9 ⟨rfl, hP9, hC9⟩
    have HK9 := Lib.hid (HK8.out.call hC9 hP9 (fun q e h => need_ok2 h))
    have HND9 := Lib.hid (HK8.out.priv (by simp) HND8.out hC9)
    have HRS9 := Lib.hid (HK8.out.priv (by simp) HRS8.out hC9)
    have HA9 := Lib.hid (show (T.1.need ts ln 1 Ps.kwThen).At (d + 1) from need_at HA8.out)
    clear hP9 hC9 HK8 HND8 HRS8 HA8
    obtain ⟨U, hU⟩ : ∃ U, (T.1.need ts ln 1 Ps.kwThen).step ts ln (listQ ts cmd true) = U := ⟨_, rfl⟩
    have HLU := Lib.hid (fun W (h : RS W pb a c ts vs ln (T.1.need ts ln 1 Ps.kwThen)) => (show Calls Tryd.prog 16 #[.pointer (some ⟨pb, 0, none⟩), .bool false] W fun e w' => SPost W pb a c ts vs ln U e w' from by have := HLI.out false (T.1.need ts ln 1 Ps.kwThen) W HA9.out h; rw [show (!false) = true from rfl, hU] at this; exact this))
    have HGU := Lib.hid (show ∀ p d, U.1 = .ok p d → (∃ p' d', (T.1.need ts ln 1 Ps.kwThen) = .ok p' d') ∧ ∃ n, U.2 = some n from fun q e h => hU ▸ step_g (hU.symm ▸ h))
    have HAB := Lib.hid (show U.1.At (d + 1) from hU ▸ step_at HA9.out)
    have HU := Lib.hid hU
    have d1 := (six_cells HND9.out).2.1
    have HNE := Lib.hid (show rb + 1 ∉ [pb] from by have := (HK9.out.b_ne (b := rb + 1) (by simp)).1; simpa using this)
    have HNR := Lib.hid (show rb + 1 ∉ rowBlock (.slice (some ⟨w7.heap.size, 0, none⟩) 1 1) from fun hj => (HK9.out.new _ hj).2 (by simp))
    have HNR2 := Lib.hid (show rb ∉ rowBlock (.slice (some ⟨w7.heap.size, 0, none⟩) 1 1) from fun hj => (HK9.out.new _ hj).2 (by simp))
    clear hU HA9
    go_upto_region 14 with (fail)
    go_cut [] (fun wx => ∃ (kv' : Value) (xs' : List Value), KR w pb a c ts vs ln [rb + 1, rb] U.1 2 (T.2.toList ++ U.2.toList) kv' xs' wx ∧ Hid (wx.heap[rb + 1]? = some (.cells (nodeC 6 kv') 42 (0, 0))) ∧ Hid (wx.heap[rb]? = some (.cells (nodeC 0 (.slice none 0 0)) 42 (0, 0))))
    case first =>
      go_region_law ((first | (refine step_append_row (by rfl) _ _ 37 (by rfl) 42 i0 _ 6 120 Tryd.underlying37 hi hz0 hz1 hz2 (by rfl) (by decide) _ 1 _ (by rfl) (HROW.out.alloc _) _ 1 1 [.int .i64 k4, .slice ka4 kn4 kc4, .string (Lx.strB s4), .slice wa4 wn4 wc4, .slice sa4 sn4 sc4, .slice ra4 rn4 rc4] (by rfl) (by rfl) (srcNew _ _ _ _) HONE.out (by unfold maxLen; omega) (by omega) ?_; intro v' wv r8 q8 g8; replace r8 : Row wv 42 6 v' 2 _ := r8; obtain ⟨av, cap, rfl, hav, hcap⟩ := r8.shape; have o8 := q8.obj (obj_alloc_old HNDx.out _) HNR.out; have f8 := free_of_obj o8 1; have c8 := cell_of_obj o8 (j := 1) rfl) | (go_simp; refine (HLU.out _ HK9.out.rs.drew).mono ?_; rintro e wu ⟨csu, ⟨k4, s4, ka4, wa4, sa4, ra4, kn4, kc4, wn4, wc4, sn4, sc4, rn4, rc4, rfl⟩, rfl, hC7, hP7, hN7⟩; have u1 := hC7.cell d1 HNE.out; have u1a := fun (o : Obj) => ((Chg.refl [] wu).alloc o).cell u1 (by simp); have HNDx := Lib.hid (HK9.out.priv (by simp) HND9.out hC7.drew0); have HRSx := Lib.hid (HK9.out.priv (by simp) HRS9.out hC7.drew0); have HROW := Lib.hid (HK9.out.call hC7.drew0 hP7 (fun p d h => (HGU.out p d h).1)).row; have HONE := Lib.hid (Six.one ⟨k4, s4, ka4, wa4, sa4, ra4, kn4, kc4, wn4, wc4, sn4, sc4, rn4, rc4, rfl⟩).2; have HC7 := Lib.hid hC7.drew0; have HP7 := Lib.hid hP7; have HN7 := Lib.hid hN7; clear hC7 hP7 hN7)))
      all_goals
        have hK8 := HK9.out.add (w2 := wu.alloc (.cells #[.int .i64 k4, .slice ka4 kn4 kc4, .string (Lx.strB s4), .slice wa4 wn4 wc4, .slice sa4 sn4 sc4, .slice ra4 rn4 rc4] 42)) (w3 := wv) HC7.out ⟨k4, s4, ka4, wa4, sa4, ra4, kn4, kc4, wn4, wc4, sn4, sc4, rn4, rc4, rfl⟩ HP7.out HGU.out HN7.out (F := []) (by simp) ((Chg.refl _ _).alloc _) r8 q8 (fun x hx => (g8 x hx).imp id (fun h => by have h9 : wu.heap.size + 1 ≤ x := (by simpa using h); omega)) (by decide)
        have hC8 : Chg [rb + 1] wv (wv.setCell ⟨rb + 1, 1, none⟩ (.slice av 2 cap)) := (Chg.refl _ _).setCell _ _ (.inl (by simp))
        have HK2 := Lib.hid (hK8.kept hC8 (by simp))
        have HND2 := Lib.hid (obj_setCell o8 1 (.slice av 2 cap))
        have HRS2 := Lib.hid (hC8.obj (q8.obj (obj_alloc_old HRSx.out _) HNR2.out) (by simp))
        clear hK8 hC8 o8 f8 c8 r8 q8 g8 u1 u1a HNDx HRSx HROW HONE HC7 HP7 HN7 d1 HK9 HND9 HRS9 HLU
        go_wp2
        go_meet
        exact ⟨_, _, HK2.out, HND2, HRS2⟩
    case rest =>
      obtain ⟨kvB, xsB, hKB, HNDB, HRSB⟩ := hcut
      have HKB := Lib.hid hKB
      obtain ⟨aoB, coB, rfl, _, _⟩ := HKB.out.row.shape
      clear hKB d1 HK9 HND9 HRS9 HLU HNE HNR HNR2 HGU
      rename World => wB
      obtain ⟨V, hV⟩ : ∃ V, U.1.next.step ts ln (listQ ts cmd true) = V := ⟨_, rfl⟩
      have HB := Lib.hid (openB hD hC0 hC HS1.out HT.out HU.out hV)
      have HV := Lib.hid hV
      clear hD hC hC0 HS1 HT HU hV
      cases hel : U.1.is ts 1 Ps.kwElse with
      | false =>
        have HO := Lib.hid (HB.out.1 hel)
        have JE := Lib.hid (sis pb a c ts vs ln U.1 wB 1 Ps.kwElse (by decide) HKB.out.rs)
        rw [hel] at JE
        clear HB HV hel
        go_wp2_with fail
        refine JE.out.mono ?_
        rintro e wF ⟨rfl, nF, rfl⟩
        have hCF := (Chg.refl [] wB).drewN nF
        have HKF := Lib.hid (HKB.out.kept0 hCF)
        have HNDF := Lib.hid (hCF.obj HNDB.out (by simp))
        have HRSF := Lib.hid (hCF.obj HRSB.out (by simp))
        have HAF := HAB
        clear hCF HKB HNDB HRSB JE HAB
        generalize wB.drewN nF = wF at *
        go_wp2_with fail
        refine (sneed pb a c ts vs ln U.1 _ 1 Ps.kwFi (by decide) HKF.out.rs).mono ?_
        rintro e wE ⟨rfl, hPE, hCE⟩
        have HKE := Lib.hid (HKF.out.call hCE hPE (fun q e h => need_ok2 h))
        have HNDE := Lib.hid (HKF.out.priv (by simp) HNDF.out hCE)
        have HRSE := Lib.hid (HKF.out.priv (by simp) HRSF.out hCE)
        have HAE := Lib.hid (show (U.1.need ts ln 1 Ps.kwFi).At (d + 1) from need_at HAF.out)
        clear hPE hCE HKF HNDF HRSF HAF
        obtain ⟨⟨d5, x5⟩, f5⟩ := HKE.out.rs.c5
        go_upto_region 31 with (fail)
        have hCu := Chg.setP wE pb 5 (.int .i64 (wrap64 (d5 - 1)))
        have HKu := Lib.hid (HKE.out.call hCu (upR HKE.out.rs x5 (At.pos HAE.out)) (fun q e h => up_ok h))
        have HNDu := Lib.hid (HKE.out.priv (by simp) HNDE.out hCu)
        have HRSu := Lib.hid (HKE.out.priv (by simp) HRSE.out hCu)
        clear hCu x5 f5 HKE HNDE HRSE HAE
        generalize wE.setCell ⟨pb, 5, none⟩ (.int .i64 (wrap64 (d5 - 1))) = wu at *
        obtain ⟨m0, m1, m2, m3, m4, m5, mf⟩ := six_cells HNDu.out
        obtain ⟨r0, r1, r2, r3, r4, r5, rf⟩ := six_cells HRSu.out
        go_wp2_with fail
        refine bodyPost_ret (v := .agg (nodeC 6 (.slice aoB 2 coB))) (by simp [results, Tryd.results63, go_sem, nodeC, r0, r1, r2, r3, r4, r5]) rfl ?_
        rw [← hRR]
        refine HO.out.fin HKu.out (F := [rb]) ?_ (by simp)
        exact (Chg.refl [rb] wu).six rb (.int .i64 6) (.slice aoB 2 coB) (.string ⟨#[]⟩) (.slice none 0 0) (.slice none 0 0) (.slice none 0 0) (.inl (by simp))
      | true =>
        have HO := Lib.hid (HB.out.2 hel)
        have JE := Lib.hid (sis pb a c ts vs ln U.1 wB 1 Ps.kwElse (by decide) HKB.out.rs)
        rw [hel] at JE
        obtain ⟨qe, de, hUe, hTe⟩ := is_ok hel
        have hlte := isT_lt hTe
        have HUE := Lib.hid hUe
        clear HB hel hTe
        go_wp2_with fail
        refine JE.out.mono ?_
        rintro e wF ⟨rfl, nF, rfl⟩
        have hCF := (Chg.refl [] wB).drewN nF
        have HKF := Lib.hid (HKB.out.kept0 hCF)
        have HNDF := Lib.hid (hCF.obj HNDB.out (by simp))
        have HRSF := Lib.hid (hCF.obj HRSB.out (by simp))
        clear hCF HKB HNDB HRSB JE hUe
        generalize wB.drewN nF = wF at *
        have hrsF := HKF.out.rs
        rw [HUE.out] at hrsF
        have x1 := hrsF.1.c1
        have f1 := hrsF.1.free 1
        have qe9 : (qe : Int) ≤ 100000 := by omega
        have HAG := Lib.hid (show U.1.next.At (d + 1) from by have h := HAB.out; rw [HUE.out] at h ⊢; exact h)
        go_upto_region 17 with (fail)
        have hCG := Chg.setP wF pb 1 (.int .i64 ((qe : Int) + 1))
        have HKG := Lib.hid (HKF.out.call hCG (st' := U.1.next) (by rw [HUE.out]; exact ROk.setAt hrsF _ (by omega) (by omega)) (fun q e _ => ⟨_, _, HUE.out⟩))
        have HNDG := Lib.hid (HKF.out.priv (by simp) HNDF.out hCG)
        have HRSG := Lib.hid (HKF.out.priv (by simp) HRSF.out hCG)
        clear hCG x1 f1 hrsF HKF HNDF HRSF HAB
        generalize wF.setCell ⟨pb, 1, none⟩ (.int .i64 ((qe : Int) + 1)) = wG at *
        have hU := HV.out
        have HLU := Lib.hid (fun W (h : RS W pb a c ts vs ln (U.1.next)) => (show Calls Tryd.prog 16 #[.pointer (some ⟨pb, 0, none⟩), .bool false] W fun e w' => SPost W pb a c ts vs ln V e w' from by have := HLI.out false (U.1.next) W HAG.out h; rw [show (!false) = true from rfl, hU] at this; exact this))
        have HGU := Lib.hid (show ∀ p d, V.1 = .ok p d → (∃ p' d', (U.1.next) = .ok p' d') ∧ ∃ n, V.2 = some n from fun q e h => hU ▸ step_g (hU.symm ▸ h))
        have HAH := Lib.hid (show V.1.At (d + 1) from hU ▸ step_at HAG.out)
        have HV := Lib.hid hU
        have d1 := (six_cells HNDG.out).2.1
        have HNE := Lib.hid (show rb + 1 ∉ [pb] from by have := (HKG.out.b_ne (b := rb + 1) (by simp)).1; simpa using this)
        have HNR := Lib.hid (show rb + 1 ∉ rowBlock (.slice aoB 2 coB) from fun hj => (HKG.out.new _ hj).2 (by simp))
        have HNR2 := Lib.hid (show rb ∉ rowBlock (.slice aoB 2 coB) from fun hj => (HKG.out.new _ hj).2 (by simp))
        clear hU HAG
        go_upto_region 17 with (fail)
        go_cut [] (fun wx => ∃ (kv' : Value) (xs' : List Value), KR w pb a c ts vs ln [rb + 1, rb] V.1 3 (T.2.toList ++ U.2.toList ++ V.2.toList) kv' xs' wx ∧ Hid (wx.heap[rb + 1]? = some (.cells (nodeC 6 kv') 42 (0, 0))) ∧ Hid (wx.heap[rb]? = some (.cells (nodeC 0 (.slice none 0 0)) 42 (0, 0))))
        case first =>
          go_region_law ((first | (refine step_append_row (by rfl) _ _ 37 (by rfl) 42 i0 _ 6 120 Tryd.underlying37 hi hz0 hz1 hz2 (by rfl) (by decide) _ 2 _ (by rfl) (HROW.out.alloc _) _ 1 1 [.int .i64 k5, .slice ka5 kn5 kc5, .string (Lx.strB s5), .slice wa5 wn5 wc5, .slice sa5 sn5 sc5, .slice ra5 rn5 rc5] (by rfl) (by rfl) (srcNew _ _ _ _) HONE.out (by unfold maxLen; omega) (by omega) ?_; intro v' wv r8 q8 g8; replace r8 : Row wv 42 6 v' 3 _ := r8; obtain ⟨av, cap, rfl, hav, hcap⟩ := r8.shape; have o8 := q8.obj (obj_alloc_old HNDx.out _) HNR.out; have f8 := free_of_obj o8 1; have c8 := cell_of_obj o8 (j := 1) rfl) | (go_simp; refine (HLU.out _ HKG.out.rs.drew).mono ?_; rintro e wu ⟨csu, ⟨k5, s5, ka5, wa5, sa5, ra5, kn5, kc5, wn5, wc5, sn5, sc5, rn5, rc5, rfl⟩, rfl, hC7, hP7, hN7⟩; have u1 := hC7.cell d1 HNE.out; have u1a := fun (o : Obj) => ((Chg.refl [] wu).alloc o).cell u1 (by simp); have HNDx := Lib.hid (HKG.out.priv (by simp) HNDG.out hC7.drew0); have HRSx := Lib.hid (HKG.out.priv (by simp) HRSG.out hC7.drew0); have HROW := Lib.hid (HKG.out.call hC7.drew0 hP7 (fun p d h => (HGU.out p d h).1)).row; have HONE := Lib.hid (Six.one ⟨k5, s5, ka5, wa5, sa5, ra5, kn5, kc5, wn5, wc5, sn5, sc5, rn5, rc5, rfl⟩).2; have HC7 := Lib.hid hC7.drew0; have HP7 := Lib.hid hP7; have HN7 := Lib.hid hN7; clear hC7 hP7 hN7)))
          all_goals
            have hK8 := HKG.out.add (w2 := wu.alloc (.cells #[.int .i64 k5, .slice ka5 kn5 kc5, .string (Lx.strB s5), .slice wa5 wn5 wc5, .slice sa5 sn5 sc5, .slice ra5 rn5 rc5] 42)) (w3 := wv) HC7.out ⟨k5, s5, ka5, wa5, sa5, ra5, kn5, kc5, wn5, wc5, sn5, sc5, rn5, rc5, rfl⟩ HP7.out HGU.out HN7.out (F := []) (by simp) ((Chg.refl _ _).alloc _) r8 q8 (fun x hx => (g8 x hx).imp id (fun h => by have h9 : wu.heap.size + 1 ≤ x := (by simpa using h); omega)) (by decide)
            have hC8 : Chg [rb + 1] wv (wv.setCell ⟨rb + 1, 1, none⟩ (.slice av 3 cap)) := (Chg.refl _ _).setCell _ _ (.inl (by simp))
            have HK2 := Lib.hid (hK8.kept hC8 (by simp))
            have HND2 := Lib.hid (obj_setCell o8 1 (.slice av 3 cap))
            have HRS2 := Lib.hid (hC8.obj (q8.obj (obj_alloc_old HRSx.out _) HNR2.out) (by simp))
            clear hK8 hC8 o8 f8 c8 r8 q8 g8 u1 u1a HNDx HRSx HROW HONE HC7 HP7 HN7 d1 HKG HNDG HRSG HLU
            go_wp2
            go_meet
            exact ⟨_, _, HK2.out, HND2, HRS2⟩
        case rest =>
          obtain ⟨kvH, xsH, hKH, HNDH, HRSH⟩ := hcut
          have HKH := Lib.hid hKH
          obtain ⟨aoH, coH, rfl, _, _⟩ := HKH.out.row.shape
          clear hKH d1 HKG HNDG HRSG HLU HNE HNR HNR2 HGU
          rename World => wH
          go_wp2_with fail
          refine (sneed pb a c ts vs ln V.1 _ 1 Ps.kwFi (by decide) HKH.out.rs).mono ?_
          rintro e wE ⟨rfl, hPE, hCE⟩
          have HKE := Lib.hid (HKH.out.call hCE hPE (fun q e h => need_ok2 h))
          have HNDE := Lib.hid (HKH.out.priv (by simp) HNDH.out hCE)
          have HRSE := Lib.hid (HKH.out.priv (by simp) HRSH.out hCE)
          have HAE := Lib.hid (show (V.1.need ts ln 1 Ps.kwFi).At (d + 1) from need_at HAH.out)
          clear hPE hCE HKH HNDH HRSH HAH
          obtain ⟨⟨d5, x5⟩, f5⟩ := HKE.out.rs.c5
          go_upto_region 31 with (fail)
          have hCu := Chg.setP wE pb 5 (.int .i64 (wrap64 (d5 - 1)))
          have HKu := Lib.hid (HKE.out.call hCu (upR HKE.out.rs x5 (At.pos HAE.out)) (fun q e h => up_ok h))
          have HNDu := Lib.hid (HKE.out.priv (by simp) HNDE.out hCu)
          have HRSu := Lib.hid (HKE.out.priv (by simp) HRSE.out hCu)
          clear hCu x5 f5 HKE HNDE HRSE HAE
          generalize wE.setCell ⟨pb, 5, none⟩ (.int .i64 (wrap64 (d5 - 1))) = wu at *
          obtain ⟨m0, m1, m2, m3, m4, m5, mf⟩ := six_cells HNDu.out
          obtain ⟨r0, r1, r2, r3, r4, r5, rf⟩ := six_cells HRSu.out
          go_wp2_with fail
          refine bodyPost_ret (v := .agg (nodeC 6 (.slice aoH 3 coH))) (by simp [results, Tryd.results63, go_sem, nodeC, r0, r1, r2, r3, r4, r5]) rfl ?_
          rw [← hRR]
          refine HO.out.fin HKu.out (F := [rb]) ?_ (by simp)
          exact (Chg.refl [rb] wu).six rb (.int .i64 6) (.slice aoH 3 coH) (.string ⟨#[]⟩) (.slice none 0 0) (.slice none 0 0) (.slice none 0 0) (.inl (by simp))
  · have J0 := Lib.hid (IS 2 [40] (by decide) _ h1)
    have J1 := Lib.hid (IS 1 Ps.kwIf (by decide) _ h2)
    have J2 := Lib.hid (IS 1 Ps.kwWhile (by decide) _ h3)
    clear IS h1 h2 h3
    go_wp2_with fail
    refine (J0.out _ (HK.out.rs)).mono ?_
    rintro e wq0 ⟨rfl, n0, rfl⟩
    go_wp2_with fail
    refine (J1.out _ (HK.out.rs.drewN _)).mono ?_
    rintro e wq1 ⟨rfl, n1, rfl⟩
    go_wp2_with fail
    refine (J2.out _ (HK.out.rs.drewN _)).mono ?_
    rintro e wq2 ⟨rfl, n2, rfl⟩
    have hC5 := (((Chg.refl [] w2).drewN (n0 + n1)).drewN n2)
    have HK5 := Lib.hid (HK.out.kept0 hC5)
    have HND5 := Lib.hid (hC5.obj HND.out (by simp))
    have HRS5 := Lib.hid (hC5.obj HRS.out (by simp))
    clear hC5 HK HND HRS x3 J0 J1 J2
    generalize (w2.drewN (n0 + n1)).drewN n2 = w5 at *
    go_wp2_with fail
    refine (rdown_ok pb a c ts vs ln p d _ HK5.out.rs hlt).mono ?_
    rintro e w6 ⟨rfl, hC6, hR6⟩
    obtain ⟨s1, hs1⟩ : ∃ s1, (St.ok p d).down ts ln = s1 := ⟨_, rfl⟩
    have hR6 : RS w6 pb a c ts vs ln s1 := by
      rw [← hs1]
      simp only [St.down]
      by_cases h16 : d = 16
      · rw [if_pos h16] at hR6 ⊢; exact hR6
      · rw [if_neg h16] at hR6 ⊢; exact hR6
    have HK6 := Lib.hid (HK5.out.call hC6 hR6 (fun q e _ => ⟨p, d, rfl⟩))
    have HND6 := Lib.hid (HK5.out.priv (by simp) HND5.out hC6)
    have HRS6 := Lib.hid (HK5.out.priv (by simp) HRS5.out hC6)
    have HA6 := Lib.hid (show s1.At (d + 1) from hs1 ▸ down_at ts ln p d)
    have HS1 := Lib.hid hs1
    clear hC6 hR6 HK5 HND5 HRS5 hs1
    go_wp2_with fail
    refine (HLI.out false s1 _ HA6.out HK6.out.rs).mono ?_
    obtain ⟨T, hT⟩ : ∃ T, s1.step ts ln (listQ ts cmd true) = T := ⟨_, rfl⟩
    rw [show (!false) = true from rfl, hT]
    rintro e w7 ⟨cs, hsix, rfl, hC7, hP7, hN7⟩
    have HK7 := Lib.hid (HK6.out.add (w2 := w7) (w3 := w7.alloc (.cells cs.toArray 42)) hC7 hsix hP7 (fun q e h => hT ▸ step_g (hT.symm ▸ h)) hN7 (F := []) (by simp) (Chg.refl _ _) (v' := .slice (some ⟨w7.heap.size, 0, none⟩) 1 1) (Row.new (obj_alloc_new w7 _) hsix.one.1 (by decide) (by decide)) ((Chg.refl _ _).alloc _) (by simp [rowBlock]) (by decide))
    have HA7 := Lib.hid (show T.1.At (d + 1) from hT ▸ step_at HA6.out)
    have HT := Lib.hid hT
    obtain ⟨k3, s3, ka3, wa3, sa3, ra3, kn3, kc3, wn3, wc3, sn3, sc3, rn3, rc3, rfl⟩ := hsix
    have hnd7 := obj_alloc_old (HK6.out.priv (by simp) HND6.out hC7) (.cells #[.int .i64 k3, .slice ka3 kn3 kc3, .string (Lx.strB s3), .slice wa3 wn3 wc3, .slice sa3 sn3 sc3, .slice ra3 rn3 rc3] 42)
    have HRS7 := Lib.hid (obj_alloc_old (HK6.out.priv (by simp) HRS6.out hC7) (.cells #[.int .i64 k3, .slice ka3 kn3 kc3, .string (Lx.strB s3), .slice wa3 wn3 wc3, .slice sa3 sn3 sc3, .slice ra3 rn3 rc3] 42))
    have HND8 := Lib.hid (six_obj hnd7 (.int .i64 7) (.slice (some ⟨w7.heap.size, 0, none⟩) 1 1) (.string ⟨#[]⟩) (.slice none 0 0) (.slice none 0 0) (.slice none 0 0))
    have HC8 := Lib.hid ((Chg.refl [rb + 1] (w7.alloc (.cells #[.int .i64 k3, .slice ka3 kn3 kc3, .string (Lx.strB s3), .slice wa3 wn3 wc3, .slice sa3 sn3 sc3, .slice ra3 rn3 rc3] 42))).six (rb + 1) (.int .i64 7) (.slice (some ⟨w7.heap.size, 0, none⟩) 1 1) (.string ⟨#[]⟩) (.slice none 0 0) (.slice none 0 0) (.slice none 0 0) (.inl (by simp)))
    obtain ⟨m0, m1, m2, m3, m4, m5, mf⟩ := six_cells_alloc (HK6.out.priv (by simp) HND6.out hC7)
    clear hC7 hP7 hN7 hnd7 hT HK6 HND6 HRS6 HA6
    go_upto_region 23 with (fail)
    unfold sixW at HND8 HC8
    have HK8 := Lib.hid (HK7.out.kept HC8.out (by simp))
    have HRS8 := Lib.hid (HC8.out.obj HRS7.out (by simp))
    clear m0 m1 m2 m3 m4 m5 mf HK7 HRS7 HC8
    generalize ((((((w7.alloc (.cells #[.int .i64 k3, .slice ka3 kn3 kc3, .string (Lx.strB s3), .slice wa3 wn3 wc3, .slice sa3 sn3 sc3, .slice ra3 rn3 rc3] 42)).setCell ⟨rb + 1, 0, none⟩ (.int .i64 7)).setCell ⟨rb + 1, 1, none⟩ (.slice (some ⟨w7.heap.size, 0, none⟩) 1 1)).setCell ⟨rb + 1, 2, none⟩ (.string ⟨#[]⟩)).setCell ⟨rb + 1, 3, none⟩ (.slice none 0 0)).setCell ⟨rb + 1, 4, none⟩ (.slice none 0 0)).setCell ⟨rb + 1, 5, none⟩ (.slice none 0 0) = w8 at *
    have HA8 := HA7
    clear HA7
    go_wp2_with fail
    refine (sneed pb a c ts vs ln T.1 _ 1 Ps.kwDo (by decide) HK8.out.rs).mono ?_
    rintro e w9 ⟨rfl, hP9, hC9⟩
    have HK9 := Lib.hid (HK8.out.call hC9 hP9 (fun q e h => need_ok2 h))
    have HND9 := Lib.hid (HK8.out.priv (by simp) HND8.out hC9)
    have HRS9 := Lib.hid (HK8.out.priv (by simp) HRS8.out hC9)
    have HA9 := Lib.hid (show (T.1.need ts ln 1 Ps.kwDo).At (d + 1) from need_at HA8.out)
    clear hP9 hC9 HK8 HND8 HRS8 HA8
    obtain ⟨U, hU⟩ : ∃ U, (T.1.need ts ln 1 Ps.kwDo).step ts ln (listQ ts cmd true) = U := ⟨_, rfl⟩
    have HLU := Lib.hid (fun W (h : RS W pb a c ts vs ln (T.1.need ts ln 1 Ps.kwDo)) => (show Calls Tryd.prog 16 #[.pointer (some ⟨pb, 0, none⟩), .bool false] W fun e w' => SPost W pb a c ts vs ln U e w' from by have := HLI.out false (T.1.need ts ln 1 Ps.kwDo) W HA9.out h; rw [show (!false) = true from rfl, hU] at this; exact this))
    have HGU := Lib.hid (show ∀ p d, U.1 = .ok p d → (∃ p' d', (T.1.need ts ln 1 Ps.kwDo) = .ok p' d') ∧ ∃ n, U.2 = some n from fun q e h => hU ▸ step_g (hU.symm ▸ h))
    have HAB := Lib.hid (show U.1.At (d + 1) from hU ▸ step_at HA9.out)
    have HU := Lib.hid hU
    have d1 := (six_cells HND9.out).2.1
    have HNE := Lib.hid (show rb + 1 ∉ [pb] from by have := (HK9.out.b_ne (b := rb + 1) (by simp)).1; simpa using this)
    have HNR := Lib.hid (show rb + 1 ∉ rowBlock (.slice (some ⟨w7.heap.size, 0, none⟩) 1 1) from fun hj => (HK9.out.new _ hj).2 (by simp))
    have HNR2 := Lib.hid (show rb ∉ rowBlock (.slice (some ⟨w7.heap.size, 0, none⟩) 1 1) from fun hj => (HK9.out.new _ hj).2 (by simp))
    clear hU HA9
    go_upto_region 24 with (fail)
    go_cut [] (fun wx => ∃ (kv' : Value) (xs' : List Value), KR w pb a c ts vs ln [rb + 1, rb] U.1 2 (T.2.toList ++ U.2.toList) kv' xs' wx ∧ Hid (wx.heap[rb + 1]? = some (.cells (nodeC 7 kv') 42 (0, 0))) ∧ Hid (wx.heap[rb]? = some (.cells (nodeC 0 (.slice none 0 0)) 42 (0, 0))))
    case first =>
      go_region_law ((first | (refine step_append_row (by rfl) _ _ 37 (by rfl) 42 i0 _ 6 120 Tryd.underlying37 hi hz0 hz1 hz2 (by rfl) (by decide) _ 1 _ (by rfl) (HROW.out.alloc _) _ 1 1 [.int .i64 k4, .slice ka4 kn4 kc4, .string (Lx.strB s4), .slice wa4 wn4 wc4, .slice sa4 sn4 sc4, .slice ra4 rn4 rc4] (by rfl) (by rfl) (srcNew _ _ _ _) HONE.out (by unfold maxLen; omega) (by omega) ?_; intro v' wv r8 q8 g8; replace r8 : Row wv 42 6 v' 2 _ := r8; obtain ⟨av, cap, rfl, hav, hcap⟩ := r8.shape; have o8 := q8.obj (obj_alloc_old HNDx.out _) HNR.out; have f8 := free_of_obj o8 1; have c8 := cell_of_obj o8 (j := 1) rfl) | (go_simp; refine (HLU.out _ HK9.out.rs.drew).mono ?_; rintro e wu ⟨csu, ⟨k4, s4, ka4, wa4, sa4, ra4, kn4, kc4, wn4, wc4, sn4, sc4, rn4, rc4, rfl⟩, rfl, hC7, hP7, hN7⟩; have u1 := hC7.cell d1 HNE.out; have u1a := fun (o : Obj) => ((Chg.refl [] wu).alloc o).cell u1 (by simp); have HNDx := Lib.hid (HK9.out.priv (by simp) HND9.out hC7.drew0); have HRSx := Lib.hid (HK9.out.priv (by simp) HRS9.out hC7.drew0); have HROW := Lib.hid (HK9.out.call hC7.drew0 hP7 (fun p d h => (HGU.out p d h).1)).row; have HONE := Lib.hid (Six.one ⟨k4, s4, ka4, wa4, sa4, ra4, kn4, kc4, wn4, wc4, sn4, sc4, rn4, rc4, rfl⟩).2; have HC7 := Lib.hid hC7.drew0; have HP7 := Lib.hid hP7; have HN7 := Lib.hid hN7; clear hC7 hP7 hN7)))
      all_goals
        have hK8 := HK9.out.add (w2 := wu.alloc (.cells #[.int .i64 k4, .slice ka4 kn4 kc4, .string (Lx.strB s4), .slice wa4 wn4 wc4, .slice sa4 sn4 sc4, .slice ra4 rn4 rc4] 42)) (w3 := wv) HC7.out ⟨k4, s4, ka4, wa4, sa4, ra4, kn4, kc4, wn4, wc4, sn4, sc4, rn4, rc4, rfl⟩ HP7.out HGU.out HN7.out (F := []) (by simp) ((Chg.refl _ _).alloc _) r8 q8 (fun x hx => (g8 x hx).imp id (fun h => by have h9 : wu.heap.size + 1 ≤ x := (by simpa using h); omega)) (by decide)
        have hC8 : Chg [rb + 1] wv (wv.setCell ⟨rb + 1, 1, none⟩ (.slice av 2 cap)) := (Chg.refl _ _).setCell _ _ (.inl (by simp))
        have HK2 := Lib.hid (hK8.kept hC8 (by simp))
        have HND2 := Lib.hid (obj_setCell o8 1 (.slice av 2 cap))
        have HRS2 := Lib.hid (hC8.obj (q8.obj (obj_alloc_old HRSx.out _) HNR2.out) (by simp))
        clear hK8 hC8 o8 f8 c8 r8 q8 g8 u1 u1a HNDx HRSx HROW HONE HC7 HP7 HN7 d1 HK9 HND9 HRS9 HLU
        go_wp2
        go_meet
        exact ⟨_, _, HK2.out, HND2, HRS2⟩
    case rest =>
      obtain ⟨kvB, xsB, hKB, HNDB, HRSB⟩ := hcut
      have HKB := Lib.hid hKB
      obtain ⟨aoB, coB, rfl, _, _⟩ := HKB.out.row.shape
      clear hKB d1 HK9 HND9 HRS9 HLU HNE HNR HNR2 HGU
      rename World => wB
      have HO := Lib.hid (openL hD hC0 hC HS1.out HT.out HU.out)
      clear hD hC hC0 HS1 HT HU
      go_wp2_with fail
      refine (sneed pb a c ts vs ln U.1 _ 1 Ps.kwDone (by decide) HKB.out.rs).mono ?_
      rintro e wE ⟨rfl, hPE, hCE⟩
      have HKE := Lib.hid (HKB.out.call hCE hPE (fun q e h => need_ok2 h))
      have HNDE := Lib.hid (HKB.out.priv (by simp) HNDB.out hCE)
      have HRSE := Lib.hid (HKB.out.priv (by simp) HRSB.out hCE)
      have HAE := Lib.hid (show (U.1.need ts ln 1 Ps.kwDone).At (d + 1) from need_at HAB.out)
      clear hPE hCE HKB HNDB HRSB HAB
      obtain ⟨⟨d5, x5⟩, f5⟩ := HKE.out.rs.c5
      go_upto_region 31 with (fail)
      have hCu := Chg.setP wE pb 5 (.int .i64 (wrap64 (d5 - 1)))
      have HKu := Lib.hid (HKE.out.call hCu (upR HKE.out.rs x5 (At.pos HAE.out)) (fun q e h => up_ok h))
      have HNDu := Lib.hid (HKE.out.priv (by simp) HNDE.out hCu)
      have HRSu := Lib.hid (HKE.out.priv (by simp) HRSE.out hCu)
      clear hCu x5 f5 HKE HNDE HRSE HAE
      generalize wE.setCell ⟨pb, 5, none⟩ (.int .i64 (wrap64 (d5 - 1))) = wu at *
      obtain ⟨m0, m1, m2, m3, m4, m5, mf⟩ := six_cells HNDu.out
      obtain ⟨r0, r1, r2, r3, r4, r5, rf⟩ := six_cells HRSu.out
      go_wp2_with fail
      refine bodyPost_ret (v := .agg (nodeC 7 (.slice aoB 2 coB))) (by simp [results, Tryd.results63, go_sem, nodeC, r0, r1, r2, r3, r4, r5]) rfl ?_
      rw [← hRR]
      refine HO.out.fin HKu.out (F := [rb]) ?_ (by simp)
      exact (Chg.refl [rb] wu).six rb (.int .i64 7) (.slice aoB 2 coB) (.string ⟨#[]⟩) (.slice none 0 0) (.slice none 0 0) (.slice none 0 0) (.inl (by simp))
  · have J0 := Lib.hid (IS 2 [40] (by decide) _ h1)
    have J1 := Lib.hid (IS 1 Ps.kwIf (by decide) _ h2)
    have J2 := Lib.hid (IS 1 Ps.kwWhile (by decide) _ h3)
    have J3 := Lib.hid (IS 1 Ps.kwFor (by decide) _ h4)
    clear IS h1 h2 h3 h4
    go_wp2_with fail
    refine (J0.out _ (HK.out.rs)).mono ?_
    rintro e wq0 ⟨rfl, n0, rfl⟩
    go_wp2_with fail
    refine (J1.out _ (HK.out.rs.drewN _)).mono ?_
    rintro e wq1 ⟨rfl, n1, rfl⟩
    go_wp2_with fail
    refine (J2.out _ (HK.out.rs.drewN _)).mono ?_
    rintro e wq2 ⟨rfl, n2, rfl⟩
    go_wp2_with fail
    refine (J3.out _ (HK.out.rs.drewN _)).mono ?_
    rintro e wq3 ⟨rfl, n3, rfl⟩
    have hC5 := (((Chg.refl [] w2).drewN (n0 + n1 + n2)).drewN n3)
    have HK5 := Lib.hid (HK.out.kept0 hC5)
    have HND5 := Lib.hid (hC5.obj HND.out (by simp))
    have HRS5 := Lib.hid (hC5.obj HRS.out (by simp))
    clear hC5 HK HND HRS x3 J0 J1 J2 J3
    generalize (w2.drewN (n0 + n1 + n2)).drewN n3 = w5 at *

    have HSE := Lib.hid (show (if d = 16 then ((St.bad 12 (posR ts ln p), none) : St × Option Ps.Node) else toS ts ln d (Ps.eachP ts cmd (p + 1))) = RR from by
      rcases hD with ⟨e1, e2⟩ | ⟨e1, D', e2, e3⟩
      · rw [if_pos e1, ← hRR, e2, hC0]; rfl
      · rw [if_neg (by omega), ← hRR, e2, hC, e3])
    have SE := Lib.hid (seach pb a c ts vs ln p d cmd HLI.out w5 HK5.out.rs hlt)
    rw [HSE.out] at SE
    clear hlt hC hC0 hD HSE
    go_wp2_with fail
    refine SE.out.mono ?_
    rintro e w6 hpost
    obtain ⟨cs, hsix, rfl, hC6, hP6, hN6⟩ := hpost
    have HK6 := Lib.hid (HK5.out.call hC6 hP6 (fun q e _ => ⟨p, d, rfl⟩))
    have HN6 := Lib.hid (show HeldAt w (.slice a ts.length c) vs [rb + 1, rb] RR.2 cs w6 from fun n hn => HK5.out.got (hN6 n hn) (Nat.le_refl _))
    have hnd6 := HK5.out.priv (by simp) HND5.out hC6
    have HRS6 := Lib.hid (HK5.out.priv (by simp) HRS5.out hC6)
    have HSIX := Lib.hid hsix
    obtain ⟨k3, s3, ka3, wa3, sa3, ra3, kn3, kc3, wn3, wc3, sn3, sc3, rn3, rc3, rfl⟩ := hsix
    obtain ⟨m0, m1, m2, m3, m4, m5, mf⟩ := six_cells hnd6
    have HND7 := Lib.hid (six_obj hnd6 (.int .i64 k3) (.slice ka3 kn3 kc3) (.string (Lx.strB s3)) (.slice wa3 wn3 wc3) (.slice sa3 sn3 sc3) (.slice ra3 rn3 rc3))
    have HC7 := Lib.hid ((Chg.refl [rb + 1] w6).six (rb + 1) (.int .i64 k3) (.slice ka3 kn3 kc3) (.string (Lx.strB s3)) (.slice wa3 wn3 wc3) (.slice sa3 sn3 sc3) (.slice ra3 rn3 rc3) (.inl (by simp)))
    clear hC6 hP6 hN6 hnd6 HK5 HND5 HRS5
    go_upto_region 31 with (fail)
    unfold sixW at HND7 HC7
    generalize (((((w6.setCell ⟨rb + 1, 0, none⟩ (.int .i64 k3)).setCell ⟨rb + 1, 1, none⟩ (.slice ka3 kn3 kc3)).setCell ⟨rb + 1, 2, none⟩ (.string (Lx.strB s3))).setCell ⟨rb + 1, 3, none⟩ (.slice wa3 wn3 wc3)).setCell ⟨rb + 1, 4, none⟩ (.slice sa3 sn3 sc3)).setCell ⟨rb + 1, 5, none⟩ (.slice ra3 rn3 rc3) = w7 at *
    have HRS7 := Lib.hid (HC7.out.obj HRS6.out (by simp))
    clear m0 m1 m2 m3 m4 m5 mf
    obtain ⟨m0, m1, m2, m3, m4, m5, mf⟩ := six_cells HND7.out
    obtain ⟨r0, r1, r2, r3, r4, r5, rf⟩ := six_cells HRS7.out
    go_wp2_with fail
    refine bodyPost_ret (v := .agg #[.int .i64 k3, .slice ka3 kn3 kc3, .string (Lx.strB s3), .slice wa3 wn3 wc3, .slice sa3 sn3 sc3, .slice ra3 rn3 rc3]) (by simp [results, Tryd.results63, go_sem, r0, r1, r2, r3, r4, r5]) rfl ?_
    have hK7 := HK6.out.kept HC7.out (by simp)
    refine hK7.finH HSIX.out (HK6.out.heldC HN6.out HC7.out (by simp)) (F := [rb]) ?_ (by simp)
    exact (Chg.refl [rb] w7).six rb (.int .i64 k3) (.slice ka3 kn3 kc3) (.string (Lx.strB s3)) (.slice wa3 wn3 wc3) (.slice sa3 sn3 sc3) (.slice ra3 rn3 rc3) (.inl (by simp))

theorem scommand (pb : Nat) (a : Option Addr) (c : Nat) (ts : List Lx.Tok) (vs : List Value) (ln : Nat) : ∀ D deep : Nat, deep + D = 16 → Does 63 pb a c ts vs ln deep (Ps.cmdP ts D)
  | 0, deep, h => scommand_step pb a c ts vs ln deep 0 (Ps.cmdP ts 0) (fun st w hat h2 => by
      cases st with
      | bad e t => exact scommand_bad pb a c ts vs ln e t _ w h2
      | ok p d =>
        have h3 : d = deep + 1 := hat
        have := h2.2.2
        omega) (cmdP_moves 0) (.inl ⟨by omega, rfl⟩)
  | D + 1, deep, h => scommand_step pb a c ts vs ln deep (D + 1) (Ps.cmdP ts D) (scommand pb a c ts vs ln D (deep + 1) (by omega)) (cmdP_moves D) (.inr ⟨by omega, D, rfl, rfl⟩)

end Go.Proofs.YtfgbbmnmblchiaaDoor
