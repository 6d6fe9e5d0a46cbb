/-
  awake of the commands' layer: true.
-/
import Derived.Test.YtfgbbmnmblchiaaDoorReads
import Derived.KernelRfl
namespace Go.Proofs.YtfgbbmnmblchiaaDoor
open Go.RowKit
set_option linter.unusedVariables false

theorem NodesAt.get {w : World} {S : Nat → Prop} : ∀ {ns : List Ps.Node} {xs : List Value} {i : Nat} {k : Ps.Node}, NodesAt w S ns xs → ns[i]? = some k → ∃ cs, NodeAt w S k cs ∧ ∀ (j : Nat) (u : Value), cs[j]? = some u → xs[i * 6 + j]? = some u
  | [], xs, i, k, _, h2 => by simp at h2
  | n :: ns, xs, 0, k, h, h2 => by
    unfold NodesAt at h
    obtain ⟨cs, ys, rfl, h3, h4⟩ := h
    simp at h2
    subst h2
    refine ⟨cs, h3, fun j u hj => ?_⟩
    rw [Nat.zero_mul, Nat.zero_add]
    have hlt := (List.getElem?_eq_some_iff.1 hj).1
    rw [List.getElem?_append_left hlt]
    exact hj
  | n :: ns, xs, i + 1, k, h, h2 => by
    unfold NodesAt at h
    obtain ⟨cs, ys, rfl, h3, h4⟩ := h
    obtain ⟨ds, h5, h6⟩ := NodesAt.get h4 (by simpa using h2)
    refine ⟨ds, h5, fun j u hj => ?_⟩
    have hl := h3.one.1
    rw [List.getElem?_append_right (by omega), ← h6 j u hj]
    congr 1
    omega

/-- a node's kid. -/
theorem NodeAt.kid {w : World} {S : Nat → Prop} {n k : Ps.Node} {cs : List Value} {i : Nat} (h : NodeAt w S n cs) (hk : n.kids[i]? = some k) :
    ∃ b c ds, cs[1]? = some (.slice (some ⟨b, 0, none⟩) n.kids.length c) ∧ NodeAt w S k ds ∧ ∀ (j : Nat) (u : Value), ds[j]? = some u → w.cell? ⟨b, i * 6 + j, none⟩ = some u := by
  cases n with
  | mk kind kids name words sets reds =>
    unfold NodeAt at h
    obtain ⟨kv, wv, sv, rv, kx, wx, sx, rx, rfl, ⟨a, c, rfl, hle, hcm, hx⟩, h3, _⟩ := h
    obtain ⟨ds, h5, h6⟩ := NodesAt.get h3 hk
    have hne : kx ≠ [] := fun e => by
      have hl := NodesAt.len h3
      rw [e] at hl
      have := (List.getElem?_eq_some_iff.1 hk).1
      simp only [Ps.Node.kids] at this
      simp at hl
      omega
    obtain ⟨b, rfl, hS, hc⟩ := hx hne
    exact ⟨b, c, ds, rfl, h5, fun j u hj => by rw [← Nat.zero_add (i * 6 + j)]; exact hc _ u (h6 j u hj)⟩

/-- six cells, the text a letter. -/
theorem NodeAt.cells6 {w : World} {S : Nat → Prop} {n : Ps.Node} {cs : List Value} (h : NodeAt w S n cs) {z : Int} (hz : n.kind = z) :
    ∃ (s : ByteArray) (ka wa sa ra : Option Addr) (kn kc wn wc sn sc rn rc : Nat), cs = [.int .i64 z, .slice ka kn kc, .string s, .slice wa wn wc, .slice sa sn sc, .slice ra rn rc] ∧ kn = n.kids.length ∧ wn = n.words.length ∧ sn = n.sets.length ∧ rn = n.reds.length := by
  obtain ⟨ka, wa, sa, ra, kn, kc, wn, wc, sn, sc, rn, rc, rfl, h1, h2, h3, h4⟩ := h.six
  subst hz
  exact ⟨_, ka, wa, sa, ra, kn, kc, wn, wc, sn, sc, rn, rc, rfl, h1, h2, h3, h4⟩

def aw1 : List UInt8 := [97, 32, 38, 38, 32, 98, 32, 124, 32, 99]
def aw2 : List UInt8 := [105, 102, 32, 97, 59, 32, 116, 104, 101, 110, 32, 102, 105]
def cmd1 (x : List UInt8) : Ps.Node := .mk 5 [] [] [[⟨1, x⟩]] [] []
theorem awake_one : Ps.program aw1 = (0, 0, Ps.node 1 [Ps.node 2 [cmd1 [97], Ps.node 4 [cmd1 [98], cmd1 [99]]]]) := by kernel_rfl
theorem awake_two : Ps.program aw2 = (10, 11, Ps.node 0 []) := by kernel_rfl

theorem U8.chg {w w' : World} (h : Hid (U8 w)) (hc : Chg [] w w') : Hid (U8 w') := u8_kept (F := []) h hc (by simp) (by simp)

set_option maxHeartbeats 2000000 in
set_option maxRecDepth 10000 in
theorem awake_any (w : World) (hT : Hid (U8 w)) (m : Int) (hm : w.cell? ⟨2, 0, none⟩ = some (.int .i64 m)) : Calls Tryd.prog 9 #[] w fun e w' => e = .returned (.bool true) ∧ Chg [] w w' := by
  have HM := Lib.hid hm
  have h1 := program_any aw1 w (by decide) hT m hm
  rw [awake_one] at h1
  have H1 := Lib.hid h1
  have H2 := Lib.hid (fun (W : World) (hW : Chg [] w W) => program_any aw2 W (by decide) (U8.chg hT hW) m (hW.cell hm (by simp)))
  clear h1 hm hT
  go_enter Tryd.func9, Tryd.ntmps9
  go_wp2_with fail
  refine H1.out.mono ?_
  rintro e w1 ⟨hC1, cs, rfl, hN⟩
  obtain ⟨b0, c0, ds, hk0, hN0, hx0⟩ := hN.kid (i := 0) rfl
  obtain ⟨b1, c1, es, hk1, hN1, hx1⟩ := hN0.kid (i := 1) rfl
  obtain ⟨s, ka, wa, sa, ra, kn, kc, wn, wc, sn, sc, rn, rc, rfl, hkn, j1⟩ := hN.cells6 (z := 1) rfl
  obtain ⟨s0, ka0, wa0, sa0, ra0, kn0, kc0, wn0, wc0, sn0, sc0, rn0, rc0, rfl, hkn0, j2⟩ := hN0.cells6 (z := 2) rfl
  obtain ⟨s1, ka1, wa1, sa1, ra1, kn1, kc1, wn1, wc1, sn1, sc1, rn1, rc1, rfl, hkn1, j3⟩ := hN1.cells6 (z := 4) rfl
  have y0 := hx0 0 _ rfl
  have y1 := hx0 1 _ rfl
  have z0 := hx1 0 _ rfl
  obtain rfl : kn = 1 := hkn
  obtain rfl : kn0 = 2 := hkn0
  have e0 : Value.slice ka 1 kc = .slice (some ⟨b0, 0, none⟩) 1 c0 := Option.some.inj hk0
  have e1 : Value.slice ka0 2 kc0 = .slice (some ⟨b1, 0, none⟩) 2 c1 := Option.some.inj hk1
  cases e0
  cases e1
  clear j1 j2 j3 hx0 hx1 hk0 hk1 hkn1 hN hN0 hN1 H1
  have hal : Chg [] w1 (w1.alloc (.cells #[.int .i64 1, .slice (some ⟨b0, 0, none⟩) 1 c0, .string s, .slice wa wn wc, .slice sa sn sc, .slice ra rn rc] 30)) := (Chg.refl [] w1).alloc _
  have hob := obj_alloc_new w1 (.cells #[.int .i64 1, .slice (some ⟨b0, 0, none⟩) 1 c0, .string s, .slice wa wn wc, .slice sa sn sc, .slice ra rn rc] 30)
  have HC1 := Lib.hid (hC1.then0 hal)
  have HX := Lib.hid (And.intro (hal.cell y0 (by simp)) (And.intro (hal.cell y1 (by simp)) (hal.cell z0 (by simp))))
  clear hC1 hal y0 y1 z0
  go_upto_region 2 with (fail)
  generalize w1.alloc (.cells #[.int .i64 1, .slice (some ⟨b0, 0, none⟩) 1 c0, .string s, .slice wa wn wc, .slice sa sn sc, .slice ra rn rc] 30) = w2 at *
  generalize w1.heap.size = tb at *
  have h2 := H2.out w2 HC1.out
  rw [awake_two] at h2
  go_wp2_with fail
  refine h2.mono ?_
  clear h2 H2
  rintro e w3 ⟨hC3, cs3, rfl, hN3⟩
  obtain ⟨s3, ka3, wa3, sa3, ra3, kn3, kc3, wn3, wc3, sn3, sc3, rn3, rc3, rfl, j4⟩ := hN3.cells6 (z := 0) rfl
  clear j4
  have HC3 := Lib.hid (HC1.out.then0 hC3)
  have hob3 := hC3.obj hob (by simp)
  have y0 := hC3.cell HX.out.1 (by simp)
  have y1 := hC3.cell HX.out.2.1 (by simp)
  have z0 := hC3.cell HX.out.2.2 (by simp)
  obtain ⟨t0, t1, t2, t3, t4, t5, tf⟩ := six_cells_alloc hob3
  have y0a := fun (o : Obj) => ((Chg.refl [] w3).alloc o).cell y0 (by simp)
  have y1a := fun (o : Obj) => ((Chg.refl [] w3).alloc o).cell y1 (by simp)
  have z0a := fun (o : Obj) => ((Chg.refl [] w3).alloc o).cell z0 (by simp)
  clear hC3 hN3 hob hob3 HX HC1 t2 t3 t4 t5 tf y0 y1 z0
  go_wp2
  go_ret
  exact ⟨rfl, HC3.out.alloc _⟩

end Go.Proofs.YtfgbbmnmblchiaaDoor
