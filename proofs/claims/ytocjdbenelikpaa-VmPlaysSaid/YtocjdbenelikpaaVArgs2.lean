/-
  What a script that came in is to the walk.
-/
import Derived.Test.YtocjdbenelikpaaPlays
import Derived.Test.YtocjdbenelikpaaVArgs
import Derived.Deep.Fields
import Derived.ProofKit
namespace Go.Proofs.Ytocjdbenelikpaa
open Go.ChangeShapes Go.WideShapes Go.ChangeAt Go.RowKit
set_option linter.unusedVariables false

theorem open_bytes {H : Type} {enc : TypeId × Value → H} {W : World} {fuel : Nat} {cs : List Value} {x : DataW H × List MemPlace} (h : DataW.trod enc Try.prog W 0 (fun _ => true) true fuel 26 cs = some x) :
    ∃ a len cap zs, cs = [.slice a len cap] ∧ IsRow .u8 W a len cap zs := by
  rcases open_ints Try.underlying26 Try.underlying5 (by kernel_rfl) h with ⟨hcs, _⟩ | ⟨x, l, c, zs, hcs, _, hl, hm, hz, _, hcell, hwz⟩
  · exact ⟨none, 0, 0, [], hcs, .inl ⟨rfl, rfl, rfl, rfl⟩⟩
  · exact ⟨some x, l, c, zs, hcs, .inr ⟨x, rfl, hl, hm, by simpa using hz, hcell, hwz⟩⟩

theorem Try.cellsOp : Try.prog.cellsOf 56 = 4 := by kernel_rfl

theorem open_op {H : Type} {enc : TypeId × Value → H} {W : World} {fuel : Nat} {cs : List Value} {x : DataW H × List MemPlace} (h : DataW.trod enc Try.prog W 0 (fun _ => true) true fuel 56 cs = some x) :
    ∃ K A B a len cap zs, cs = [.int .i64 K, .int .i64 A, .int .i64 B, .slice a len cap] ∧ IsRow .u8 W a len cap zs ∧ (Lit.int .i64 A).wf = true ∧ (Lit.int .i64 B).wf = true := by
  obtain ⟨xs, n, _, rfl, hl, hxl, hf⟩ := DataW.trod_struct Try.underlying56 h
  rw [Try.cellsOp] at hl
  match cs, hl with
  | [c0, c1, c2, c3], _ =>
    have h0 : DataW.trod enc Try.prog W 0 (fun _ => true) true n 3 (List.take (Try.prog.cellsOf 3) (List.drop 0 [c0, c1, c2, c3])) = xs[0]? := hf 0 _ rfl
    have h1 : DataW.trod enc Try.prog W 0 (fun _ => true) true n 3 (List.take (Try.prog.cellsOf 3) (List.drop 1 [c0, c1, c2, c3])) = xs[1]? := hf 1 _ rfl
    have h2 : DataW.trod enc Try.prog W 0 (fun _ => true) true n 3 (List.take (Try.prog.cellsOf 3) (List.drop 2 [c0, c1, c2, c3])) = xs[2]? := hf 2 _ rfl
    have h3 : DataW.trod enc Try.prog W 0 (fun _ => true) true n 26 (List.take (Try.prog.cellsOf 26) (List.drop 3 [c0, c1, c2, c3])) = xs[3]? := hf 3 _ rfl
    have e3 : Try.prog.cellsOf 3 = 1 := by kernel_rfl
    have e26 : Try.prog.cellsOf 26 = 1 := by kernel_rfl
    simp only [e3, e26, List.drop_zero, List.drop_succ_cons, List.take_succ_cons, List.take_zero] at h0 h1 h2 h3
    have k0 : ∃ y, DataW.trod enc Try.prog W 0 (fun _ => true) true n 3 [c0] = some y := ⟨_, h0.trans (by rw [List.getElem?_eq_getElem (by rw [hxl]; decide)])⟩
    have k1 : ∃ y, DataW.trod enc Try.prog W 0 (fun _ => true) true n 3 [c1] = some y := ⟨_, h1.trans (by rw [List.getElem?_eq_getElem (by rw [hxl]; decide)])⟩
    have k2 : ∃ y, DataW.trod enc Try.prog W 0 (fun _ => true) true n 3 [c2] = some y := ⟨_, h2.trans (by rw [List.getElem?_eq_getElem (by rw [hxl]; decide)])⟩
    have k3 : ∃ y, DataW.trod enc Try.prog W 0 (fun _ => true) true n 26 [c3] = some y := ⟨_, h3.trans (by rw [List.getElem?_eq_getElem (by rw [hxl]; decide)])⟩
    obtain ⟨_, k0⟩ := k0
    obtain ⟨_, k1⟩ := k1
    obtain ⟨_, k2⟩ := k2
    obtain ⟨_, k3⟩ := k3
    obtain ⟨K, q0, _, _⟩ := DataW.trod_int Try.underlying3 k0
    obtain ⟨A, q1, _, w1⟩ := DataW.trod_int Try.underlying3 k1
    obtain ⟨B, q2, _, w2⟩ := DataW.trod_int Try.underlying3 k2
    obtain ⟨a, len, cap, zs, q3, hr⟩ := open_bytes k3
    simp only [List.cons.injEq, and_true] at q0 q1 q2 q3
    subst q0 q1 q2 q3
    exact ⟨K, A, B, a, len, cap, zs, rfl, hr, w1, w2⟩

theorem open_ops {H : Type} {enc : TypeId × Value → H} {W : World} {fuel : Nat} {cs : List Value} {x : DataW H × List MemPlace} (h : DataW.trod enc Try.prog W 0 (fun _ => true) true fuel 51 cs = some x) :
    ∃ a len cap ops, cs = [.slice a len cap] ∧ OpsAt W a len cap ops := by
  rcases Go.Deep.open_slice Try.underlying51 h with ⟨hcs, _⟩ | ⟨a, len, cap, m, n, D, Pl, hcs, _, hl, hm, hmm, _, hx⟩
  · exact ⟨none, 0, 0, [], hcs, ⟨rfl, ⟨Nat.le_refl _, Nat.zero_le _⟩, fun i o h => by simp at h⟩⟩
  · simp only [if_true] at hmm
    subst hmm
    rw [Try.cellsOp] at hx
    obtain ⟨b, off, spot⟩ := a
    have key : ∀ i, i < len → spot = none ∧ ∃ o, OpAt W b off i o := by
      intro i hi
      obtain ⟨cs', h1, h2⟩ := hx i (by omega)
      obtain ⟨_, hlen, hc⟩ := World.cells?_some h1
      obtain ⟨K, A, B, da, dl, dc, zs, rfl, hr, w1, w2⟩ := open_op h2
      have c0 := hc 0 (by omega)
      have c1 := hc 1 (by omega)
      have c2 := hc 2 (by omega)
      have c3 := hc 3 (by omega)
      have hspot : spot = none := by
        obtain ⟨cs0, g1, g2⟩ := hx 0 (by omega)
        obtain ⟨_, glen, gc⟩ := World.cells?_some g1
        obtain ⟨K', A', B', da', dl', dc', zs', rfl, _, _, _⟩ := open_op g2
        have := World.cell?_spot (gc 0 (by omega))
        simpa [Addr.add] using this
      subst hspot
      refine ⟨rfl, ⟨K, A, B, da, dl, dc, (zs.take dl).map Vm.byteOf⟩, ?_, ?_, ?_, ?_, hr.bytes, ?_, w1, w2⟩
      · rw [Addr.add_off, Addr.add_off] at c0; exact c0
      · rw [Addr.add_off, Addr.add_off] at c1; exact c1
      · rw [Addr.add_off, Addr.add_off] at c2; exact c2
      · rw [Addr.add_off, Addr.add_off] at c3; exact c3
      · intro x hx h0
        exact hr.src.2.2.2.2.2 x hx (by have := hr.src.2.1; simp only at h0; omega)
    haveI : Inhabited OpV := ⟨⟨0, 0, 0, none, 0, 0, []⟩⟩
    obtain ⟨V, hV⟩   := Go.Deep.choose_lt (α := OpV) (p := fun i o => OpAt W b off i o) (fun i hi => (key i hi).2)
    refine ⟨some ⟨b, off, spot⟩, len, _, (List.range len).map V, hcs, ⟨by simp, ⟨hl, hm⟩, fun i o h => ?_⟩⟩
    have hi : i < len := by
      have := (List.getElem?_eq_some_iff.1 h).1
      simpa using this
    obtain ⟨hs, _⟩ := key i hi
    subst hs
    simp [hi] at h
    subst h
    exact ⟨b, off, rfl, hV i hi⟩

end Go.Proofs.Ytocjdbenelikpaa
