/-
  What a script of acts that came in is to the walks.
-/
import Derived.Test.YtihkanbkcnonoaaPair
import Derived.Test.YtihkanbkcnonoaaArgs2
import Derived.Deep.Fields
import Derived.ProofKit
namespace Go.Proofs.Ytihkanbkcnonoaa
open Go.ChangeShapes Go.WideShapes Go.ChangeAt Go.RowKit
set_option linter.unusedVariables false

theorem Addr.add_off (g o j : Nat) : (⟨g, o, none⟩ : Addr).add j = ⟨g, o + j, none⟩ := by
  unfold Addr.add; split <;> simp_all

/-- an act of the script, as it came in. -/
structure OpV where
  kind : Int
  id : Int
  n : Int
  wr : Bool
  a1 : Option Addr
  n1 : Nat
  c1 : Nat
  a2 : Option Addr
  n2 : Nat
  c2 : Nat
  da : Option Addr
  dl : Nat
  dc : Nat
  lab : Pi.Lab
  bs : List UInt8

structure OpAt (w : World) (b off i : Nat) (o : OpV) : Prop where
  c0 : w.cell? ⟨b, off + i * 7, none⟩ = some (.int .i64 o.kind)
  c1 : w.cell? ⟨b, off + i * 7 + 1, none⟩ = some (.int .i64 o.id)
  c2 : w.cell? ⟨b, off + i * 7 + 2, none⟩ = some (.int .i64 o.n)
  c3 : w.cell? ⟨b, off + i * 7 + 3, none⟩ = some (.bool o.wr)
  c4 : w.cell? ⟨b, off + i * 7 + 4, none⟩ = some (.slice o.a1 o.n1 o.c1)
  c5 : w.cell? ⟨b, off + i * 7 + 5, none⟩ = some (.slice o.a2 o.n2 o.c2)
  c6 : w.cell? ⟨b, off + i * 7 + 6, none⟩ = some (.slice o.da o.dl o.dc)
  l : LabAt w o.a1 o.n1 o.c1 o.a2 o.n2 o.c2 o.lab
  dn : o.bs.length = o.dl
  dcap : o.dl ≤ o.dc ∧ o.dc ≤ maxLen
  d : SrcAt w o.da (o.bs.map byteV)
  wid : (Lit.int .i64 o.id).wf = true
  wn : (Lit.int .i64 o.n).wf = true

structure OpsAt (w : World) (a : Option Addr) (len cap : Nat) (ops : List OpV) : Prop where
  ln : ops.length = len
  cap : len ≤ cap ∧ cap ≤ maxLen
  at_ : ∀ i o, ops[i]? = some o → ∃ b off, a = some ⟨b, off, none⟩ ∧ OpAt w b off i o

theorem open_bytes {H : Type} {enc : TypeId × Value → H} {W : World} {fuel : Nat} {cs : List Value} {x : DataW H × List MemPlace} (h : DataW.trod enc Try.prog W 0 (fun _ => true) true fuel 31 cs = some x) :
    ∃ a len cap zs, cs = [.slice a len cap] ∧ IsRow .u8 W a len cap zs := by
  rcases open_ints Try.underlying31 Try.underlying5 (by kernel_rfl) h with ⟨hcs, _⟩ | ⟨x, l, c, zs, hcs, _, hl, hm, hz, _, hcell, hwz⟩
  · exact ⟨none, 0, 0, [], hcs, .inl ⟨rfl, rfl, rfl, rfl⟩⟩
  · exact ⟨some x, l, c, zs, hcs, .inr ⟨x, rfl, hl, hm, by simpa using hz, hcell, hwz⟩⟩

theorem open_tags {H : Type} {enc : TypeId × Value → H} {W : World} {fuel : Nat} {cs : List Value} {x : DataW H × List MemPlace} (h : DataW.trod enc Try.prog W 0 (fun _ => true) true fuel 22 cs = some x) :
    ∃ a len cap zs, cs = [.slice a len cap] ∧ IsRow .i64 W a len cap zs := by
  rcases open_ints Try.underlying22 Try.underlying3 (by kernel_rfl) h with ⟨hcs, _⟩ | ⟨x, l, c, zs, hcs, _, hl, hm, hz, _, hcell, hwz⟩
  · exact ⟨none, 0, 0, [], hcs, .inl ⟨rfl, rfl, rfl, rfl⟩⟩
  · exact ⟨some x, l, c, zs, hcs, .inr ⟨x, rfl, hl, hm, by simpa using hz, hcell, hwz⟩⟩

theorem open_lab {H : Type} {enc : TypeId × Value → H} {W : World} {fuel : Nat} {cs : List Value} {x : DataW H × List MemPlace} (h : DataW.trod enc Try.prog W 0 (fun _ => true) true fuel 26 cs = some x) :
    ∃ a1 n1 c1 a2 n2 c2 l, cs = [.slice a1 n1 c1, .slice a2 n2 c2] ∧ LabAt W a1 n1 c1 a2 n2 c2 l := by
  obtain ⟨xs, n, _, rfl, hl, hxl, hf⟩ := DataW.trod_struct Try.underlying26 h
  rw [show Try.prog.cellsOf 26 = 2 from by kernel_rfl] at hl
  match cs, hl with
  | [c0, c1], _ =>
    have h0 : DataW.trod enc Try.prog W 0 (fun _ => true) true n 22 (List.take (Try.prog.cellsOf 22) (List.drop 0 [c0, c1])) = xs[0]? := hf 0 _ rfl
    have h1 : DataW.trod enc Try.prog W 0 (fun _ => true) true n 22 (List.take (Try.prog.cellsOf 22) (List.drop 1 [c0, c1])) = xs[1]? := hf 1 _ rfl
    have e1 : Try.prog.cellsOf 22 = 1 := by kernel_rfl
    simp only [e1, List.drop_zero, List.drop_succ_cons, List.take_succ_cons, List.take_zero] at h0 h1
    have k0 : ∃ y, DataW.trod enc Try.prog W 0 (fun _ => true) true n 22 [c0] = some y := ⟨_, h0.trans (by rw [List.getElem?_eq_getElem (by rw [hxl]; decide)])⟩
    have k1 : ∃ y, DataW.trod enc Try.prog W 0 (fun _ => true) true n 22 [c1] = some y := ⟨_, h1.trans (by rw [List.getElem?_eq_getElem (by rw [hxl]; decide)])⟩
    obtain ⟨_, k0⟩ := k0
    obtain ⟨_, k1⟩ := k1
    obtain ⟨a1, n1, d1, z1, q0, r0⟩ := open_tags k0
    obtain ⟨a2, n2, d2, z2, q1, r1⟩ := open_tags k1
    simp only [List.cons.injEq, and_true] at q0 q1
    subst q0 q1
    exact ⟨a1, n1, d1, a2, n2, d2, ⟨z1.take n1, z2.take n2⟩, rfl, ⟨r0.nums, r1.nums⟩⟩

theorem Try.cellsOp : Try.prog.cellsOf 48 = 7 := by kernel_rfl

theorem open_op {H : Type} {enc : TypeId × Value → H} {W : World} {fuel : Nat} {cs : List Value} {x : DataW H × List MemPlace} (h : DataW.trod enc Try.prog W 0 (fun _ => true) true fuel 48 cs = some x) :
    ∃ K I M b a1 n1 d1 a2 n2 d2 l a len cap zs, cs = [.int .i64 K, .int .i64 I, .int .i64 M, .bool b, .slice a1 n1 d1, .slice a2 n2 d2, .slice a len cap] ∧ LabAt W a1 n1 d1 a2 n2 d2 l ∧ IsRow .u8 W a len cap zs ∧ (Lit.int .i64 I).wf = true ∧ (Lit.int .i64 M).wf = true := by
  obtain ⟨xs, n, _, rfl, hl, hxl, hf⟩ := DataW.trod_struct Try.underlying48 h
  rw [Try.cellsOp] at hl
  match cs, hl with
  | [c0, c1, c2, c3, c4, c5, c6], _ =>
    have h0 : DataW.trod enc Try.prog W 0 (fun _ => true) true n 3 (List.take (Try.prog.cellsOf 3) (List.drop 0 [c0, c1, c2, c3, c4, c5, c6])) = xs[0]? := hf 0 _ rfl
    have h1 : DataW.trod enc Try.prog W 0 (fun _ => true) true n 3 (List.take (Try.prog.cellsOf 3) (List.drop 1 [c0, c1, c2, c3, c4, c5, c6])) = xs[1]? := hf 1 _ rfl
    have h2 : DataW.trod enc Try.prog W 0 (fun _ => true) true n 3 (List.take (Try.prog.cellsOf 3) (List.drop 2 [c0, c1, c2, c3, c4, c5, c6])) = xs[2]? := hf 2 _ rfl
    have h3 : DataW.trod enc Try.prog W 0 (fun _ => true) true n 4 (List.take (Try.prog.cellsOf 4) (List.drop 3 [c0, c1, c2, c3, c4, c5, c6])) = xs[3]? := hf 3 _ rfl
    have h4 : DataW.trod enc Try.prog W 0 (fun _ => true) true n 26 (List.take (Try.prog.cellsOf 26) (List.drop 4 [c0, c1, c2, c3, c4, c5, c6])) = xs[4]? := hf 4 _ rfl
    have h5 : DataW.trod enc Try.prog W 0 (fun _ => true) true n 31 (List.take (Try.prog.cellsOf 31) (List.drop 6 [c0, c1, c2, c3, c4, c5, c6])) = xs[5]? := hf 5 _ rfl
    have e3 : Try.prog.cellsOf 3 = 1 := by kernel_rfl
    have e4 : Try.prog.cellsOf 4 = 1 := by kernel_rfl
    have e5 : Try.prog.cellsOf 26 = 2 := by kernel_rfl
    have e26 : Try.prog.cellsOf 31 = 1 := by kernel_rfl
    simp only [e3, e4, e5, e26, List.drop_zero, List.drop_succ_cons, List.take_succ_cons, List.take_zero] at h0 h1 h2 h3 h4 h5
    have k0 : ∃ y, DataW.trod enc Try.prog W 0 (fun _ => true) true n 3 [c0] = some y := ⟨_, h0.trans (by rw [List.getElem?_eq_getElem (by rw [hxl]; decide)])⟩
    have k1 : ∃ y, DataW.trod enc Try.prog W 0 (fun _ => true) true n 3 [c1] = some y := ⟨_, h1.trans (by rw [List.getElem?_eq_getElem (by rw [hxl]; decide)])⟩
    have k2 : ∃ y, DataW.trod enc Try.prog W 0 (fun _ => true) true n 3 [c2] = some y := ⟨_, h2.trans (by rw [List.getElem?_eq_getElem (by rw [hxl]; decide)])⟩
    have k3 : ∃ y, DataW.trod enc Try.prog W 0 (fun _ => true) true n 4 [c3] = some y := ⟨_, h3.trans (by rw [List.getElem?_eq_getElem (by rw [hxl]; decide)])⟩
    have k4 : ∃ y, DataW.trod enc Try.prog W 0 (fun _ => true) true n 26 [c4, c5] = some y := ⟨_, h4.trans (by rw [List.getElem?_eq_getElem (by rw [hxl]; decide)])⟩
    have k5 : ∃ y, DataW.trod enc Try.prog W 0 (fun _ => true) true n 31 [c6] = some y := ⟨_, h5.trans (by rw [List.getElem?_eq_getElem (by rw [hxl]; decide)])⟩
    obtain ⟨_, k0⟩ := k0
    obtain ⟨_, k1⟩ := k1
    obtain ⟨_, k2⟩ := k2
    obtain ⟨_, k3⟩ := k3
    obtain ⟨_, k4⟩ := k4
    obtain ⟨_, k5⟩ := k5
    obtain ⟨K, q0, _, _⟩ := DataW.trod_int Try.underlying3 k0
    obtain ⟨I, q1, _, w1⟩ := DataW.trod_int Try.underlying3 k1
    obtain ⟨M, q2, _, w2⟩ := DataW.trod_int Try.underlying3 k2
    obtain ⟨b, q3, _⟩ := DataW.trod_bool Try.underlying4 k3
    obtain ⟨a1, n1, d1, a2, n2, d2, l, q4, hr4⟩ := open_lab k4
    obtain ⟨a, len, cap, zs, q5, hr⟩ := open_bytes k5
    simp only [List.cons.injEq, and_true] at q0 q1 q2 q3 q4 q5
    obtain ⟨q41, q42⟩ := q4
    subst q0 q1 q2 q3 q41 q42 q5
    exact ⟨K, I, M, b, a1, n1, d1, a2, n2, d2, l, a, len, cap, zs, rfl, hr4, hr, w1, w2⟩

theorem open_ops {H : Type} {enc : TypeId × Value → H} {W : World} {fuel : Nat} {cs : List Value} {x : DataW H × List MemPlace} (h : DataW.trod enc Try.prog W 0 (fun _ => true) true fuel 42 cs = some x) :
    ∃ a len cap ops, cs = [.slice a len cap] ∧ OpsAt W a len cap ops := by
  rcases Go.Deep.open_slice Try.underlying42 h with ⟨hcs, _⟩ | ⟨a, len, cap, m, n, D, Pl, hcs, _, hl, hm, hmm, _, hx⟩
  · exact ⟨none, 0, 0, [], hcs, ⟨rfl, ⟨Nat.le_refl _, Nat.zero_le _⟩, fun i o h => by simp at h⟩⟩
  · simp only [if_true] at hmm
    subst hmm
    rw [Try.cellsOp] at hx
    obtain ⟨b, off, spot⟩ := a
    have key : ∀ i, i < len → spot = none ∧ ∃ o, OpAt W b off i o := by
      intro i hi
      obtain ⟨cs', h1, h2⟩ := hx i (by omega)
      obtain ⟨_, hlen, hc⟩ := World.cells?_some h1
      obtain ⟨K, I, M, v, a1, n1, d1, a2, n2, d2, l, da, dl, dc, zs, rfl, hla, hr, w1, w2⟩ := open_op h2
      have c0 := hc 0 (by omega)
      have c1 := hc 1 (by omega)
      have c2 := hc 2 (by omega)
      have c3 := hc 3 (by omega)
      have c4 := hc 4 (by omega)
      have c5 := hc 5 (by omega)
      have c6 := hc 6 (by omega)
      have hspot : spot = none := by
        obtain ⟨cs0, g1, g2⟩ := hx 0 (by omega)
        obtain ⟨_, glen, gc⟩ := World.cells?_some g1
        obtain ⟨K', I', M', v', a1', n1', d1', a2', n2', d2', l', da', dl', dc', zs', rfl, _, _, _, _⟩ := open_op g2
        have := World.cell?_spot (gc 0 (by omega))
        simpa [Addr.add] using this
      subst hspot
      obtain ⟨bs, hb1, hb2, hb3, hb4⟩ := hr.bytes
      refine ⟨rfl, ⟨K, I, M, v, a1, n1, d1, a2, n2, d2, da, dl, dc, l, bs⟩, ?_, ?_, ?_, ?_, ?_, ?_, ?_, hla, hb1, ⟨hb2, hb3⟩, hb4, w1, w2⟩
      · rw [Addr.add_off, Addr.add_off] at c0; exact c0
      · rw [Addr.add_off, Addr.add_off] at c1; exact c1
      · rw [Addr.add_off, Addr.add_off] at c2; exact c2
      · rw [Addr.add_off, Addr.add_off] at c3; exact c3
      · rw [Addr.add_off, Addr.add_off] at c4; exact c4
      · rw [Addr.add_off, Addr.add_off] at c5; exact c5
      · rw [Addr.add_off, Addr.add_off] at c6; exact c6
    haveI : Inhabited OpV := ⟨⟨0, 0, 0, false, none, 0, 0, none, 0, 0, none, 0, 0, ⟨[], []⟩, []⟩⟩
    obtain ⟨V, hV⟩ := Go.Deep.choose_lt (α := OpV) (p := fun i o => OpAt W b off i o) (fun i hi => (key i hi).2)
    refine ⟨some ⟨b, off, spot⟩, len, _, (List.range len).map V, hcs, ⟨by simp, ⟨hl, hm⟩, fun i o h => ?_⟩⟩
    have hi : i < len := by
      have := (List.getElem?_eq_some_iff.1 h).1
      simpa using this
    obtain ⟨hs, _⟩ := key i hi
    subst hs
    simp [hi] at h
    subst h
    exact ⟨b, off, rfl, hV i hi⟩

end Go.Proofs.Ytihkanbkcnonoaa
