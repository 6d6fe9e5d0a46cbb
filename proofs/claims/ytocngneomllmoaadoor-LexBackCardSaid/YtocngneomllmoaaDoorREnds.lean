/-
  The document's ends, size, sign: walked.
-/
import Derived.Test.YtocngneomllmoaaDoorRAdd
namespace Go.Proofs.YtocngneomllmoaaDoor
open Go.RowKit
set_option linter.unusedVariables false

def endL : List UInt8 := [32, 9, 10, 59, 38, 124, 60, 62, 40, 41]
theorem endB_L (c : UInt8) : Lx.endB c = endL.contains c := rfl

set_option maxHeartbeats 1000000 in
theorem rends_any (c : UInt8) (x : Nat) (hx : c.toNat = x) (w : World) : Calls Tryd.prog 34 #[.int .u8 x] w fun e w' => e = .returned (.bool (Lx.endB c)) ∧ w = w' := by
  have HX := Lib.hid hx
  clear hx
  go_enter Tryd.func34, Tryd.ntmps34
  go_wp2
  go_loopg [4] 11 (fun g c4 wr => ∃ k : Nat, 10 < k + g ∧ k ≤ 10 ∧ c4 = .int .i64 k ∧ wr = w ∧ Hid (∀ j, j < k → endL.getD j 0 ≠ c))
  case atStart => exact ⟨0, by omega, by omega, rfl, rfl, Lib.hid (fun j hj => by omega)⟩
  case round =>
    obtain ⟨k, hg, hk, rfl, rfl, ha⟩ := hrel
    by_cases hlt : k < 10
    · cases gk with
      | zero => omega
      | succ g =>
        have k0 : (0 : Int) ≤ (k : Int) := by omega
        have k1 : (k : Int) < 10 := by omega
        obtain ⟨d, hd⟩ : ∃ d, endL.getD k 0 = d := ⟨_, rfl⟩
        obtain ⟨z, hz⟩ : ∃ z, d.toNat = z := ⟨_, rfl⟩
        have hy : ∀ h, ((⟨#[32, 9, 10, 59, 38, 124, 60, 62, 40, 41]⟩ : ByteArray)[k]'h).toNat = z := fun h => by
          have := Lx.strB_get endL k h
          rw [hd, hz] at this
          exact this
        have hcd : d = c ↔ z = x := ⟨fun e => by rw [← hz, e, HX.out], fun e => UInt8.toNat_inj.1 (by rw [hz, e, HX.out])⟩
        have HCD := Lib.hid hcd
        have HD := Lib.hid hd
        have HG := Lib.hid hg
        clear hz hcd hd hg
        by_cases he : z = x
        · have e1 : ((z : Int) == (x : Int)) = true := by rw [beq_iff_eq]; omega
          have hb := Lib.hid (show Lx.endB c = true from by
            rw [endB_L, List.contains_iff_mem, ← HCD.out.2 he, ← HD.out, List.getD_eq_getElem?_getD, List.getElem?_eq_getElem (by exact hlt)]
            exact List.getElem_mem _)
          clear he
          go_wp2
          go_ret
          exact ⟨ret_bool hb.out.symm, rfl⟩
        · have e1 : ((z : Int) == (x : Int)) = false := by rw [beq_eq_false_iff_ne]; omega
          have HNE := Lib.hid (show d ≠ c from fun e => he (HCD.out.1 e))
          clear he
          go_wp2
          go_roundg g
          case measure => omega
          case rel => exact ⟨k + 1, by have := HG.out; omega, by omega, by go_num, rfl, Lib.hid (fun j hj => by
              by_cases hjk : j = k
              · subst hjk; rw [HD.out]; exact HNE.out
              · exact ha.out j (by omega))⟩
    · have k1 : (10 : Int) ≤ (k : Int) := by omega
      obtain rfl : k = 10 := by omega
      have hb := Lib.hid (show Lx.endB c = false from by
        cases h : Lx.endB c with
        | false => rfl
        | true =>
          rw [endB_L, List.contains_iff_mem] at h
          obtain ⟨j, hj, he⟩ := List.mem_iff_getElem.1 h
          refine absurd ?_ (ha.out j hj)
          rw [List.getD_eq_getElem?_getD, List.getElem?_eq_getElem hj]
          exact he)
      go_wp2
      go_ret
      exact ⟨ret_bool hb.out.symm, rfl⟩

set_option maxHeartbeats 1000000 in
theorem rsize_any (l : List UInt8) (i : Nat) (hi : i < l.length) (hl : l.length ≤ 1000000) (w : World) :
    Calls Tryd.prog 37 #[.string (Lx.strB l), .int .i64 i] w fun e w' => e = .returned (.int .i64 (Lx.wid (l.drop i))) ∧ Chg [] w w' := by
  have hsz := Lx.strB_size l
  have i0 : (0 : Int) ≤ (i : Int) := by omega
  have i1 : (i : Int) ≤ (l.length : Int) := by omega
  have hx : (Lx.strB l).extract i l.length = Lx.strB (l.drop i) := by rw [← Lx.strB_tail, hsz]
  obtain ⟨r, hr⟩ : ∃ r, l.drop i = r := ⟨_, rfl⟩
  have hrl : r.length = l.length - i := by rw [← hr, List.length_drop]
  rw [hr] at hx ⊢
  have hrz := Lx.strB_size r
  have hit0 := World.iter_heap w (Lx.strB r) 0
  have HC0 := Lib.hid ((Chg.refl [] w).iter (Lx.strB r) 0)
  have HRL := Lib.hid hrl
  have l1 : (l.length : Int) ≤ 1000000 := by omega
  clear hr hrl
  go_enter Tryd.func37, Tryd.ntmps37
  go_wp2
  go_loopg [5] 3 (fun g c5 wr => ∃ pos : Nat, (pos = 0 ∧ g = 3 ∨ pos = Lx.wid r ∧ 1 ≤ g) ∧ wr.heap[w.heap.size]? = some (.stringIter (Lx.strB r) pos) ∧ Chg [] w wr)
  case atStart => exact ⟨0, .inl ⟨rfl, rfl⟩, hit0, HC0.out⟩
  case round =>
    obtain ⟨pos, hg, hit, hch⟩ := hrel
    have HC := Lib.hid hch
    clear hch hit0 HC0
    have HRL2 := HRL.out
    have hne : r ≠ [] := by intro e; rw [e] at HRL2; simp at HRL2; omega
    have hwp := Lx.wid_pos r hne
    have hwl := Lx.wid_le r hne
    by_cases h0 : pos = 0
    · subst h0
      have hg3 : gk = 3 := by omega
      subst hg3
      have hnx := fun ty => next_at wr w.heap.size r 0 ty hit (by omega)
      rw [List.drop_zero] at hnx
      have hit2 := Lib.iterAt_heap wr w.heap.size (Lx.strB r) 0 (0 + Lx.wid r) hit
      have HC2 := Lib.hid (HC.out.iterAt w.heap.size (Nat.le_refl _) (Lx.strB r) (0 + Lx.wid r))
      rw [Nat.zero_add] at hnx hit2 HC2
      generalize wr.iterAt w.heap.size (Lx.strB r) (Lx.wid r) = w2 at *
      generalize hwid : Lx.wid r = n at *
      have d0 : decide ((0 : Int) < 0) = false := by decide
      clear hit hne hwl HRL2 hg
      go_wp2
      go_roundg 2
      case measure => omega
      case rel => exact ⟨n, .inr ⟨rfl, by omega⟩, hit2, HC2.out⟩
    · have hpe : pos = Lx.wid r := by omega
      by_cases hp : pos < r.length
      · have hnx := fun ty => next_at wr w.heap.size r pos ty hit hp
        have HC2 := Lib.hid (HC.out.iterAt w.heap.size (Nat.le_refl _) (Lx.strB r) (pos + Lx.wid (r.drop pos)))
        generalize wr.iterAt w.heap.size (Lx.strB r) (pos + Lx.wid (r.drop pos)) = w2 at *
        have p0 : decide ((0 : Int) < (pos : Int)) = true := decide_eq_true (by omega)
        have p1 : decide (0 < pos) = true := decide_eq_true (by omega)
        have p2 : 0 < pos := by omega
        have HP := Lib.hid hpe
        clear hit hne hwl hwp HRL2 hg hpe h0
        go_wp2
        go_ret
        exact ⟨ret_i64 (by rw [HP.out]), HC2.out⟩
      · have hnx := fun ty => next_end wr w.heap.size r pos ty hit hp
        have HP := Lib.hid (show (l.length : Int) - (i : Int) = (Lx.wid r : Int) from by omega)
        clear hit hne hwl hwp HRL2 hg hpe h0 hp
        go_wp2
        go_ret
        exact ⟨ret_i64 HP.out, HC.out⟩

end Go.Proofs.YtocngneomllmoaaDoor
