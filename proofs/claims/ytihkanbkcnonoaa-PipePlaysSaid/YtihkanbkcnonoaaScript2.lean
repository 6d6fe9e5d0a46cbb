/-
  The bytes that a script of acts bears are within the form's reach.
-/
import Derived.Test.YtihkanbkcnonoaaScript
import Derived.SizedLaws
namespace Go.Proofs.Ytihkanbkcnonoaa
open Go.ChangeShapes Go.WideShapes Go.ChangeAt Go.RowKit
set_option linter.unusedVariables false

/-- all that a datum bears is within the reach. -/
def Lt {H : Type} (t : TypeId) (d : DataW H) : Prop := ∀ n ∈ d.weights Try.prog t, n ≤ reachBytes

theorem Lt.part {H : Type} {t : TypeId} {fs : Array Field} (hu : Try.prog.underlying t = some (.struct fs)) {parts : List (DataW H)} (h : Lt t (.agg parts)) {j : Nat} {t' : TypeId} {d : DataW H}
    (ht : (fs.toList.map (·.type))[j]? = some t') (hd : parts[j]? = some d) : Lt t' d := fun n hn => h n (by
  simp only [DataW.weights, hu]
  exact DataW.weights_mem_each ht hd n hn)

theorem mem_all {H : Type} {e : TypeId} {d : DataW H} {n : Nat} (hn : n ∈ d.weights Try.prog e) : ∀ {l : List (DataW H)}, d ∈ l → n ∈ DataW.weightsAll Try.prog e l
  | [], h => by simp at h
  | x :: r, h => by
    simp only [DataW.weightsAll, List.mem_append]
    rcases List.mem_cons.1 h with rfl | h
    · exact .inl hn
    · exact .inr (mem_all hn h)

theorem Lt.elem {H : Type} {t e : TypeId} (hu : Try.prog.underlying t = some (.slice e)) {elems spare : List (DataW H)} (h : Lt t (.slice elems spare)) {d : DataW H} (hd : d ∈ elems) : Lt e d := fun n hn => h n (by
  simp only [DataW.weights, hu, List.mem_cons, List.mem_append]
  exact .inr (.inl (mem_all hn hd)))

theorem Lt.self {H : Type} {t e : TypeId} (hu : Try.prog.underlying t = some (.slice e)) {elems spare : List (DataW H)} (h : Lt t (.slice elems spare)) : (elems.length + spare.length) * Try.prog.bytesOf e ≤ reachBytes :=
  h _ (by simp [DataW.weights, hu])

theorem bytes_reach {H : Type} {enc : TypeId × Value → H} {W : World} {fuel : Nat} {a : Option Addr} {len cap : Nat} {x : DataW H × List MemPlace} (h : DataW.trod enc Try.prog W 0 (fun _ => true) true fuel 31 [.slice a len cap] = some x)
    (hL : Lt 31 x.1) : cap ≤ reachBytes := by
  rcases open_ints Try.underlying31 Try.underlying5 (by kernel_rfl) h with ⟨hcs, _⟩ | ⟨x, l, c, zs, hcs, _, hl, hm, hz, rfl, hcell, hwz⟩
  · cases hcs; exact Nat.zero_le _
  · cases hcs
    have := hL.self Try.underlying31
    rw [show Try.prog.bytesOf 5 = 1 from by kernel_rfl] at this
    simp [lits] at this hz
    omega

theorem op_reach {H : Type} {enc : TypeId × Value → H} {W : World} {fuel : Nat} {cs : List Value} {x : DataW H × List MemPlace} {a : Option Addr} {len cap : Nat} (h : DataW.trod enc Try.prog W 0 (fun _ => true) true fuel 48 cs = some x)
    (hL : Lt 48 x.1) (hc : cs[6]? = some (.slice a len cap)) : cap ≤ reachBytes := by
  obtain ⟨xs, n, _, rfl, hl, hxl, hf⟩ := DataW.trod_struct Try.underlying48 h
  rw [Try.cellsOp] at hl
  match cs, hl with
  | [c0, c1, c2, c3, c4, c5, c6], _ =>
    have h5 : DataW.trod enc Try.prog W 0 (fun _ => true) true n 31 (List.take (Try.prog.cellsOf 31) (List.drop 6 [c0, c1, c2, c3, c4, c5, c6])) = xs[5]? := hf 5 _ rfl
    have e26 : Try.prog.cellsOf 31 = 1 := by kernel_rfl
    simp only [e26, List.drop_zero, List.drop_succ_cons, List.take_succ_cons, List.take_zero] at h5
    have hx : 5 < xs.length := by rw [hxl]; decide
    rw [List.getElem?_eq_getElem hx] at h5
    have hc6 : c6 = .slice a len cap := by simpa using hc
    rw [hc6] at h5
    exact bytes_reach h5 (hL.part Try.underlying48 (j := 5) (by rfl) (by simp [hx]))

theorem ops_reach {H : Type} {enc : TypeId × Value → H} {W : World} {fuel : Nat} {a : Option Addr} {len cap : Nat} {ops : List OpV} {x : DataW H × List MemPlace} (h : DataW.trod enc Try.prog W 0 (fun _ => true) true fuel 42 [.slice a len cap] = some x)
    (ho : OpsAt W a len cap ops) (hL : Lt 42 x.1) : ∀ (i : Nat) (o : OpV), ops[i]? = some o → o.dc ≤ 140737488351232 := by
  intro i o hi
  obtain ⟨b, off, rfl, hat⟩ := ho.at_ i o hi
  have hil : i < len := by
    have := (List.getElem?_eq_some_iff.1 hi).1
    have := ho.ln
    omega
  rcases Go.Deep.open_slice Try.underlying42 h with ⟨hcs, _⟩ | ⟨a, len', cap', m, n, D, Pl, hcs, _, hl, hm, hmm, rfl, hx⟩
  · cases hcs
  · simp only [List.cons.injEq, and_true] at hcs
    cases hcs
    simp only [if_true] at hmm
    subst hmm
    rw [Try.cellsOp] at hx
    obtain ⟨cs', g1, g2⟩ := hx i (by omega)
    obtain ⟨_, hlen, hc⟩ := World.cells?_some g1
    have c6 := hc 6 (by omega)
    rw [Addr.add_off, Addr.add_off, hat.c6] at c6
    have hd : D i ∈ (List.range len).map D := List.mem_map.2 ⟨i, by simpa using hil, rfl⟩
    exact op_reach g2 (hL.elem Try.underlying42 hd) c6.symm

end Go.Proofs.Ytihkanbkcnonoaa
