/-
  The law's 'same': two trees in memory of one plain tree are the same: walked. (Printed by gensamer.py.)
-/
import Derived.Test.YtfgbbmnmblchiaaDoorPm10
import Derived.StillTailTactics
import Derived.Deep.RegionHeld3
namespace Go.Proofs.YtfgbbmnmblchiaaDoor
open Go.RowKit
set_option linter.unusedVariables false

/-- what 'same' says of a tree. -/
def SameN (n : Ps.Node) : Prop := SmN n → ∀ (S T : Nat → Prop) (cs ds : List Value) (w : World), NodeAt w S n cs → NodeAt w T n ds →
  Calls Tryd.prog 11 #[.agg cs.toArray, .agg ds.toArray] w fun e w' => e = .returned (.bool true) ∧ Chg [] w w'

theorem Sl.shape {w : World} {S : Nat → Prop} {off m : Nat} {v : Value} {xs : List Value} (h : Sl w S off v m xs) : ∃ a c, v = .slice a m c ∧ m ≤ maxLen := by
  obtain ⟨a, c, h1, h2, h3, _⟩ := h
  exact ⟨a, c, h1, by omega⟩

set_option maxHeartbeats 8000000 in
set_option maxRecDepth 10000 in
theorem same_tree : ∀ n : Ps.Node, SameN n := by
  refine Ps.Node.induct (fun kind kids name words sets reds IH => ?_)
  intro hsm S T cs ds w h h2
  unfold SmN at hsm
  unfold NodeAt at h h2
  obtain ⟨kv, wv, sv, rv, kx, wx, sx, rx, rfl, hk, hkn, hw, hwn, hs, hsn, hr, hrn⟩ := h
  obtain ⟨kv2, wv2, sv2, rv2, kx2, wx2, sx2, rx2, rfl, hk2, hkn2, hw2, hwn2, hs2, hsn2, hr2, hrn2⟩ := h2
  obtain ⟨ka, kc, rfl, kl⟩ := hk.shape
  obtain ⟨wa, wc, rfl, wl⟩ := hw.shape
  obtain ⟨sa, sc, rfl, sl⟩ := hs.shape
  obtain ⟨ra, rc, rfl, rl⟩ := hr.shape
  obtain ⟨ka2, kc2, rfl, _⟩ := hk2.shape
  obtain ⟨wa2, wc2, rfl, _⟩ := hw2.shape
  obtain ⟨sa2, sc2, rfl, _⟩ := hs2.shape
  obtain ⟨ra2, rc2, rfl, _⟩ := hr2.shape
  have kl9 : (kids.length : Int) ≤ 9223372036854775807 := by unfold maxLen at kl; omega
  have sl9 : (sets.length : Int) ≤ 9223372036854775807 := by unfold maxLen at sl; omega
  have rl9 : (reds.length : Int) ≤ 9223372036854775807 := by unfold maxLen at rl; omega
  have hal : Chg [] w ((w.alloc (.cells #[.int .i64 kind, .slice ka kids.length kc, .string (Lx.strB name), .slice wa words.length wc, .slice sa sets.length sc, .slice ra reds.length rc] 30)).alloc (.cells #[.int .i64 kind, .slice ka2 kids.length kc2, .string (Lx.strB name), .slice wa2 words.length wc2, .slice sa2 sets.length sc2, .slice ra2 reds.length rc2] 42)) := ((Chg.refl [] w).alloc _).alloc _
  have hsz : (w.alloc (.cells #[.int .i64 kind, .slice ka kids.length kc, .string (Lx.strB name), .slice wa words.length wc, .slice sa sets.length sc, .slice ra reds.length rc] 30)).heap.size = w.heap.size + 1 := by simp
  have hb1 := obj_alloc_old (obj_alloc_new w (.cells #[.int .i64 kind, .slice ka kids.length kc, .string (Lx.strB name), .slice wa words.length wc, .slice sa sets.length sc, .slice ra reds.length rc] 30)) (.cells #[.int .i64 kind, .slice ka2 kids.length kc2, .string (Lx.strB name), .slice wa2 words.length wc2, .slice sa2 sets.length sc2, .slice ra2 reds.length rc2] 42)
  have hb2 := obj_alloc_new (w.alloc (.cells #[.int .i64 kind, .slice ka kids.length kc, .string (Lx.strB name), .slice wa words.length wc, .slice sa sets.length sc, .slice ra reds.length rc] 30)) (.cells #[.int .i64 kind, .slice ka2 kids.length kc2, .string (Lx.strB name), .slice wa2 words.length wc2, .slice sa2 sets.length sc2, .slice ra2 reds.length rc2] 42)
  rw [hsz] at hb2
  have HB1 := Lib.hid hb1
  have HB2 := Lib.hid hb2
  have HAL := Lib.hid hal
  have HK := Lib.hid (hk.kept0 hal)
  have HK2 := Lib.hid (hk2.kept0 hal)
  have HS := Lib.hid (hs.kept0 hal)
  have HS2 := Lib.hid (hs2.kept0 hal)
  have HR := Lib.hid (hr.kept0 hal)
  have HR2 := Lib.hid (hr2.kept0 hal)
  have HKN := Lib.hid (NodesAt.kept hal (by simp) _ _ hkn)
  have HKN2 := Lib.hid (NodesAt.kept hal (by simp) _ _ hkn2)
  have HSN := Lib.hid (SetsAt.kept hal (by simp) hsn)
  have HSN2 := Lib.hid (SetsAt.kept hal (by simp) hsn2)
  have HRN := Lib.hid (RedsAt.kept hal (by simp) hrn)
  have HRN2 := Lib.hid (RedsAt.kept hal (by simp) hrn2)
  have HIH := Lib.hid (fun (m : Ps.Node) (hm : m ∈ kids) (W : World) (cs ds : List Value) (h1 : NodeAt W S m cs) (h2 : NodeAt W T m ds) => IH m hm (SmNs.mem hsm.1 m hm) S T cs ds W h1 h2)
  have HSM := Lib.hid hsm.2
  have WO := Lib.hid (words_in S T words wa wa2 words.length wc words.length wc2 wx wx2 kind name ka2 sa2 ra2 kids.length kc2 sets.length sc2 reds.length rc2 _ (hw.kept0 hal) (WordsAt.kept hal (by simp) hwn) (hw2.kept0 hal) (WordsAt.kept hal (by simp) hwn2) hsm.2.1)
  clear hb1 hb2 hal hk hkn hw hwn hs hsn hr hrn hk2 hkn2 hw2 hwn2 hs2 hsn2 hr2 hrn2 IH hsm hsz
  go_enter Tryd.func11, Tryd.ntmps11
  go_upto_region 1 with (fail)
  generalize (w.alloc (.cells #[.int .i64 kind, .slice ka kids.length kc, .string (Lx.strB name), .slice wa words.length wc, .slice sa sets.length sc, .slice ra reds.length rc] 30)).alloc (.cells #[.int .i64 kind, .slice ka2 kids.length kc2, .string (Lx.strB name), .slice wa2 words.length wc2, .slice sa2 sets.length sc2, .slice ra2 reds.length rc2] 42) = w2 at *
  generalize hnb : w.heap.size = nb at *
  obtain ⟨a0, a1, a2, a3, a4, a5, _⟩ := six_cells HB1.out
  obtain ⟨b0, b1, b2, b3, b4, b5, _⟩ := six_cells HB2.out
  go_wp2_with fail
  refine WO.out.mono ?_
  rintro e w3 ⟨rfl, hC3⟩
  have HC3 := Lib.hid hC3
  clear hC3 WO a0 a1 a2 a3 a4 a5 b0 b1 b2 b3 b4 b5
  go_wp2_with fail
  go_loopg [5] (kids.length + 1) (fun g cc wr => ∃ j : Nat, kids.length < j + g ∧ j ≤ kids.length ∧ cc = .int .i64 j ∧ Hid (Chg [] w2 wr))
  case atStart => exact ⟨0, by omega, by omega, rfl, HC3⟩
  case round =>
    obtain ⟨j, hg, hj, rfl, HC⟩ := hrel
    have j0 : (0 : Int) ≤ (j : Int) := by omega
    have aF := HC.out.cell ((six_cells HB1.out).2.1) (by simp)
    have bF := HC.out.cell ((six_cells HB2.out).2.1) (by simp)
    by_cases hlt : j < kids.length
    · cases gk with
      | zero => omega
      | succ g =>
      have hd : decide (j < kids.length) = true := decide_eq_true hlt
      have j1 : (j : Int) < (kids.length : Int) := by omega
      have j2 : 0 < kids.length := by omega
      have HG := Lib.hid hg
      have hc2 := HC.out
      obtain ⟨m, hm⟩ : ∃ m, kids[j]? = some m := ⟨_, List.getElem?_eq_getElem hlt⟩
      obtain ⟨cs, n1, f1⟩ := HKN.out.nth j m hm
      obtain ⟨ds, n2, f2⟩ := HKN2.out.nth j m hm
      obtain ⟨k1, s1, ka1, wa1, sa1, ra1, kn1, kc1, wn1, wc1, sn1, sc1, rn1, rc1, rfl⟩ := n1.Six
      obtain ⟨k3, s3, ka3, wa3, sa3, ra3, kn3, kc3, wn3, wc3, sn3, sc3, rn3, rc3, rfl⟩ := n2.Six
      obtain ⟨g1, rfl, x1⟩ := HK.out.cells (by intro e; have h0 := f1 0 (by decide); rw [e] at h0; simp at h0)
      obtain ⟨g2, rfl, x2⟩ := HK2.out.cells (by intro e; have h0 := f2 0 (by decide); rw [e] at h0; simp at h0)
      have y0 := hc2.cell (x1 _ _ ((f1 0 (by decide)).trans rfl)) (by simp)
      have y1 := hc2.cell (x1 _ _ ((f1 1 (by decide)).trans rfl)) (by simp)
      have y2 := hc2.cell (x1 _ _ ((f1 2 (by decide)).trans rfl)) (by simp)
      have y3 := hc2.cell (x1 _ _ ((f1 3 (by decide)).trans rfl)) (by simp)
      have y4 := hc2.cell (x1 _ _ ((f1 4 (by decide)).trans rfl)) (by simp)
      have y5 := hc2.cell (x1 _ _ ((f1 5 (by decide)).trans rfl)) (by simp)
      have z0 := hc2.cell (x2 _ _ ((f2 0 (by decide)).trans rfl)) (by simp)
      have z1 := hc2.cell (x2 _ _ ((f2 1 (by decide)).trans rfl)) (by simp)
      have z2 := hc2.cell (x2 _ _ ((f2 2 (by decide)).trans rfl)) (by simp)
      have z3 := hc2.cell (x2 _ _ ((f2 3 (by decide)).trans rfl)) (by simp)
      have z4 := hc2.cell (x2 _ _ ((f2 4 (by decide)).trans rfl)) (by simp)
      have z5 := hc2.cell (x2 _ _ ((f2 5 (by decide)).trans rfl)) (by simp)
      rw [Nat.zero_add] at y0 y1 y2 y3 y4 y5 z0 z1 z2 z3 z4 z5
      rw [Nat.add_zero] at y0 z0
      have CALL := Lib.hid (HIH.out m (List.mem_of_getElem? hm) wr.drew _ _ (NodeAt.kept (hc2.then0 (Chg.refl [] wr).drew) (by simp) _ _ n1) (NodeAt.kept (hc2.then0 (Chg.refl [] wr).drew) (by simp) _ _ n2))
      clear hg hm n1 n2 f1 f2 x1 x2 hc2
      go_upto_region 6 with (fail)
      go_still_tail 10, (by kernel_rfl)
      change wpList _ _ _ _ _ wr.drew
      have HCd := Lib.hid (HC.out.then0 (Chg.refl [] wr).drew)
      clear y0 y1 y2 y3 y4 y5 z0 z1 z2 z3 z4 z5 aF bF
      generalize wr.drew = w5 at *
      go_wp2_with fail
      refine CALL.out.mono ?_
      rintro e w6 ⟨rfl, hC6⟩
      go_wp2
      go_roundg g
      case measure => omega
      case rel => exact ⟨j + 1, by have := HG.out; omega, by omega, by go_num, Lib.hid (HCd.out.then0 hC6)⟩
    · obtain rfl : j = kids.length := by omega
      have hd : decide (kids.length < kids.length) = false := decide_eq_false (by omega)
      have HCN := HC
      clear hg hj HC
      go_wp2_with fail
      clear aF bF
      go_loopg [6] (sets.length + 1) (fun g cc wr => ∃ j : Nat, sets.length < j + g ∧ j ≤ sets.length ∧ cc = .int .i64 j ∧ Hid (Chg [] w2 wr))
      case atStart => exact ⟨0, by omega, by omega, rfl, HCN⟩
      case round =>
        obtain ⟨j, hg, hj, rfl, HC⟩ := hrel
        have j0 : (0 : Int) ≤ (j : Int) := by omega
        have aF := HC.out.cell ((six_cells HB1.out).2.2.2.2.1) (by simp)
        have bF := HC.out.cell ((six_cells HB2.out).2.2.2.2.1) (by simp)
        by_cases hlt : j < sets.length
        · cases gk with
          | zero => omega
          | succ g =>
          have hd : decide (j < sets.length) = true := decide_eq_true hlt
          have j1 : (j : Int) < (sets.length : Int) := by omega
          have j2 : 0 < sets.length := by omega
          have HG := Lib.hid hg
          have hc2 := HC.out
          obtain ⟨p, hp⟩ : ∃ p, sets[j]? = some p := ⟨_, List.getElem?_eq_getElem hlt⟩
          have hps : p.word.length ≤ 1000000 := by have := HSM.out.2.1 p (List.mem_of_getElem? hp); omega
          obtain ⟨v1, n1, c1, o1, f1, f1b, i1⟩ := HSN.out.nth j p hp
          obtain ⟨v2, n2, c2, o2, f2, f2b, i2⟩ := HSN2.out.nth j p hp
          obtain ⟨g1, rfl, x1⟩ := HS.out.cells (by intro e; rw [e] at f1; simp at f1)
          obtain ⟨g2, rfl, x2⟩ := HS2.out.cells (by intro e; rw [e] at f2; simp at f2)
          have y1 := hc2.cell (x1 _ _ f1) (by simp)
          have y1b := hc2.cell (x1 _ _ f1b) (by simp)
          have y2 := hc2.cell (x2 _ _ f2) (by simp)
          have y2b := hc2.cell (x2 _ _ f2b) (by simp)
          rw [Nat.zero_add] at y1 y1b y2 y2b
          have PI := Lib.hid (fun W (h : Chg [] wr W) => parts_in S o1 v1 n1 c1 p.word W ((i1.kept0 hc2).kept0 h) hps)
          have SI := Lib.hid (fun W a3 n3 c3 (h : Chg [] wr W) (h3 : WordIn W (fun _ => True) 0 (.slice a3 n3 c3) p.word) => same_in (fun _ => True) T 0 o2 a3 v2 n3 c3 n2 c2 p.word W h3 ((i2.kept0 hc2).kept0 h) hps)
          clear hg hp f1 f2 f1b f2b x1 x2 i1 i2 hc2 hps
          go_wp2_with fail
          go_region_held3 (fun w' => w'.cell? ⟨nb, 4, none⟩ = some (.slice (some ⟨g1, 0, none⟩) sets.length sc) ∧ w'.cell? ⟨nb + 1, 4, none⟩ = some (.slice (some ⟨g2, 0, none⟩) sets.length sc2) ∧ w'.cell? ⟨g1, j * 2, none⟩ = some (.string (Lx.strB p.name)) ∧ w'.cell? ⟨g1, j * 2 + 1, none⟩ = some (.slice v1 n1 c1) ∧ w'.cell? ⟨g2, j * 2, none⟩ = some (.string (Lx.strB p.name)) ∧ w'.cell? ⟨g2, j * 2 + 1, none⟩ = some (.slice v2 n2 c2))
            (first | exact ⟨aF, bF, y1, y1b, y2, y2b⟩ | exact S2.out | exact S1.out)
            (first
              | (go_at_call 20; refine (PI.out _ (Chg.refl [] wr).drew).mono ?_; rintro e w5 ⟨a5, n5, c5, rfl, P5, C5⟩; have HC5 := Lib.hid ((Chg.refl [] wr).drew.then0 C5); have HP5 := Lib.hid P5; have S1 := Lib.hid (show _ ∧ _ ∧ _ ∧ _ ∧ _ ∧ _ from ⟨HC5.out.cell aF (by simp), HC5.out.cell bF (by simp), HC5.out.cell y1 (by simp), HC5.out.cell y1b (by simp), HC5.out.cell y2 (by simp), HC5.out.cell y2b (by simp)⟩); clear P5 C5)
              | (go_at_call 19; refine (SI.out _ a5 n5 c5 HC5.out HP5.out).mono ?_; rintro e w6 ⟨rfl, C6⟩; have HC6 := Lib.hid (HC5.out.then0 C6); have S2 := Lib.hid (show _ ∧ _ ∧ _ ∧ _ ∧ _ ∧ _ from ⟨HC6.out.cell aF (by simp), HC6.out.cell bF (by simp), HC6.out.cell y1 (by simp), HC6.out.cell y1b (by simp), HC6.out.cell y2 (by simp), HC6.out.cell y2b (by simp)⟩); clear C6))
          all_goals
            go_wp2
            go_roundg g
            case measure => omega
            case rel => exact ⟨j + 1, by have := HG.out; omega, by omega, by go_num, Lib.hid (HC.out.then0 HC6.out)⟩
        · obtain rfl : j = sets.length := by omega
          have hd : decide (sets.length < sets.length) = false := decide_eq_false (by omega)
          have HCN := HC
          clear hg hj HC
          go_wp2_with fail
          clear aF bF
          go_loopg [7] (reds.length + 1) (fun g cc wr => ∃ j : Nat, reds.length < j + g ∧ j ≤ reds.length ∧ cc = .int .i64 j ∧ Hid (Chg [] w2 wr))
          case atStart => exact ⟨0, by omega, by omega, rfl, HCN⟩
          case round =>
            obtain ⟨j, hg, hj, rfl, HC⟩ := hrel
            have j0 : (0 : Int) ≤ (j : Int) := by omega
            have aF := HC.out.cell ((six_cells HB1.out).2.2.2.2.2.1) (by simp)
            have bF := HC.out.cell ((six_cells HB2.out).2.2.2.2.2.1) (by simp)
            by_cases hlt : j < reds.length
            · cases gk with
              | zero => omega
              | succ g =>
              have hd : decide (j < reds.length) = true := decide_eq_true hlt
              have j1 : (j : Int) < (reds.length : Int) := by omega
              have j2 : 0 < reds.length := by omega
              have HG := Lib.hid hg
              have hc2 := HC.out
              obtain ⟨p, hp⟩ : ∃ p, reds[j]? = some p := ⟨_, List.getElem?_eq_getElem hlt⟩
              have hps : p.word.length ≤ 1000000 := by have := HSM.out.2.2 p (List.mem_of_getElem? hp); omega
              obtain ⟨v1, n1, c1, f1, f1b, i1⟩ := HRN.out.nth j p hp
              obtain ⟨v2, n2, c2, f2, f2b, i2⟩ := HRN2.out.nth j p hp
              obtain ⟨g1, rfl, x1⟩ := HR.out.cells (by intro e; rw [e] at f1; simp at f1)
              obtain ⟨g2, rfl, x2⟩ := HR2.out.cells (by intro e; rw [e] at f2; simp at f2)
              have y1 := hc2.cell (x1 _ _ f1) (by simp)
              have y1b := hc2.cell (x1 _ _ f1b) (by simp)
              have y2 := hc2.cell (x2 _ _ f2) (by simp)
              have y2b := hc2.cell (x2 _ _ f2b) (by simp)
              rw [Nat.zero_add] at y1 y1b y2 y2b
              have PI := Lib.hid (fun W (h : Chg [] wr W) => parts_in S 0 v1 n1 c1 p.word W ((i1.kept0 hc2).kept0 h) hps)
              have SI := Lib.hid (fun W a3 n3 c3 (h : Chg [] wr W) (h3 : WordIn W (fun _ => True) 0 (.slice a3 n3 c3) p.word) => same_in (fun _ => True) T 0 0 a3 v2 n3 c3 n2 c2 p.word W h3 ((i2.kept0 hc2).kept0 h) hps)
              clear hg hp f1 f2 f1b f2b x1 x2 i1 i2 hc2 hps
              go_wp2_with fail
              go_region_held3 (fun w' => w'.cell? ⟨nb, 5, none⟩ = some (.slice (some ⟨g1, 0, none⟩) reds.length rc) ∧ w'.cell? ⟨nb + 1, 5, none⟩ = some (.slice (some ⟨g2, 0, none⟩) reds.length rc2) ∧ w'.cell? ⟨g1, j * 2, none⟩ = some (.int .i64 p.kind) ∧ w'.cell? ⟨g1, j * 2 + 1, none⟩ = some (.slice v1 n1 c1) ∧ w'.cell? ⟨g2, j * 2, none⟩ = some (.int .i64 p.kind) ∧ w'.cell? ⟨g2, j * 2 + 1, none⟩ = some (.slice v2 n2 c2))
                (first | exact ⟨aF, bF, y1, y1b, y2, y2b⟩ | exact S2.out | exact S1.out)
                (first
                  | (go_at_call 20; refine (PI.out _ (Chg.refl [] wr).drew).mono ?_; rintro e w5 ⟨a5, n5, c5, rfl, P5, C5⟩; have HC5 := Lib.hid ((Chg.refl [] wr).drew.then0 C5); have HP5 := Lib.hid P5; have S1 := Lib.hid (show _ ∧ _ ∧ _ ∧ _ ∧ _ ∧ _ from ⟨HC5.out.cell aF (by simp), HC5.out.cell bF (by simp), HC5.out.cell y1 (by simp), HC5.out.cell y1b (by simp), HC5.out.cell y2 (by simp), HC5.out.cell y2b (by simp)⟩); clear P5 C5)
                  | (go_at_call 19; refine (SI.out _ a5 n5 c5 HC5.out HP5.out).mono ?_; rintro e w6 ⟨rfl, C6⟩; have HC6 := Lib.hid (HC5.out.then0 C6); have S2 := Lib.hid (show _ ∧ _ ∧ _ ∧ _ ∧ _ ∧ _ from ⟨HC6.out.cell aF (by simp), HC6.out.cell bF (by simp), HC6.out.cell y1 (by simp), HC6.out.cell y1b (by simp), HC6.out.cell y2 (by simp), HC6.out.cell y2b (by simp)⟩); clear C6))
              all_goals
                go_wp2
                go_roundg g
                case measure => omega
                case rel => exact ⟨j + 1, by have := HG.out; omega, by omega, by go_num, Lib.hid (HC.out.then0 HC6.out)⟩
            · obtain rfl : j = reds.length := by omega
              have hd : decide (reds.length < reds.length) = false := decide_eq_false (by omega)
              have HCN := HC
              clear hg hj HC
              go_wp2
              go_ret
              exact ⟨rfl, HAL.out.then0 HCN.out⟩

end Go.Proofs.YtfgbbmnmblchiaaDoor
