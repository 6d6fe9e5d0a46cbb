/-
  label.May, Same and Flows, walked.
-/
import Derived.Test.YtihkanbkcnonoaaLab3
namespace Go.Proofs.Ytihkanbkcnonoaa
open Go.RowKit
set_option linter.unusedVariables false

/-- A label's two slices. -/
structure LabAt (w : World) (a1 : Option Addr) (n1 c1 : Nat) (a2 : Option Addr) (n2 c2 : Nat) (l : Pi.Lab) : Prop where
  s : Nums w a1 n1 c1 l.S
  i : Nums w a2 n2 c2 l.I

theorem LabAt.kept {w w' : World} {F : List Nat} {a1 : Option Addr} {n1 c1 : Nat} {a2 : Option Addr} {n2 c2 : Nat} {l : Pi.Lab} (h : LabAt w a1 n1 c1 a2 n2 c2 l) (hc : Chg F w w')
    (h1 : ∀ x, a1 = some x → x.block ∉ F) (h2 : ∀ x, a2 = some x → x.block ∉ F) : LabAt w' a1 n1 c1 a2 n2 c2 l := ⟨h.s.kept hc h1, h.i.kept hc h2⟩
theorem LabAt.kept0 {w w' : World} {a1 : Option Addr} {n1 c1 : Nat} {a2 : Option Addr} {n2 c2 : Nat} {l : Pi.Lab} (h : LabAt w a1 n1 c1 a2 n2 c2 l) (hc : Chg [] w w') : LabAt w' a1 n1 c1 a2 n2 c2 l :=
  ⟨h.s.kept0 hc, h.i.kept0 hc⟩
theorem LabAt.alloc {w : World} {a1 : Option Addr} {n1 c1 : Nat} {a2 : Option Addr} {n2 c2 : Nat} {l : Pi.Lab} (h : LabAt w a1 n1 c1 a2 n2 c2 l) (o : Obj) : LabAt (w.alloc o) a1 n1 c1 a2 n2 c2 l :=
  ⟨h.s.alloc o, h.i.alloc o⟩

theorem may_any (a1 : Option Addr) (n1 c1 : Nat) (a2 : Option Addr) (n2 c2 : Nat) (l : Pi.Lab) (w : World) (h : LabAt w a1 n1 c1 a2 n2 c2 l) :
    Calls Try.prog 23 #[.agg #[.slice a1 n1 c1, .slice a2 n2 c2]] w fun e w' => e = .returned (.bool (Pi.mayB l)) ∧ Chg [] w w' := by
  have hx := h.alloc (.cells #[.slice a1 n1 c1, .slice a2 n2 c2] 26)
  cases hs : Pi.setB l.S with
  | false =>
    have hf := Lib.hid (show Pi.mayB l = false from by unfold Pi.mayB; rw [hs]; rfl)
    go_enter Try.func23, Try.ntmps23
    go_wp2_with fail
    refine (set_any a1 n1 c1 _ _ hx.s).mono ?_
    rintro e w' ⟨rfl, rfl⟩
    go_wp2
    go_ret
    exact ⟨ret_bool (by rw [hf.out]), (Chg.refl _ _).alloc _⟩
  | true =>
    have hf := Lib.hid (show Pi.mayB l = Pi.setB l.I from by unfold Pi.mayB; rw [hs]; rfl)
    go_enter Try.func23, Try.ntmps23
    go_wp2_with fail
    refine (set_any a1 n1 c1 _ _ hx.s).mono ?_
    rintro e w' ⟨rfl, rfl⟩
    go_wp2_with fail
    refine (set_any a2 n2 c2 _ _ hx.i).mono ?_
    rintro e w' ⟨rfl, rfl⟩
    go_wp2
    go_ret
    exact ⟨ret_bool (by rw [hf.out]), (Chg.refl _ _).alloc _⟩

/-- the two labels behind two new blocks, and those blocks' cells. -/
def Two (w : World) (B : Nat) (a1 : Option Addr) (n1 c1 : Nat) (a2 : Option Addr) (n2 c2 : Nat) (x : Pi.Lab) (b1 : Option Addr) (m1 d1 : Nat) (b2 : Option Addr) (m2 d2 : Nat) (y : Pi.Lab) : Prop :=
  (w.cell? ⟨B, 0, none⟩ = some (.slice a1 n1 c1) ∧ w.cell? ⟨B, 1, none⟩ = some (.slice a2 n2 c2) ∧ w.cell? ⟨B + 1, 0, none⟩ = some (.slice b1 m1 d1) ∧ w.cell? ⟨B + 1, 1, none⟩ = some (.slice b2 m2 d2)) ∧
  LabAt w a1 n1 c1 a2 n2 c2 x ∧ LabAt w b1 m1 d1 b2 m2 d2 y

theorem Two.kept0 {w w' : World} {B : Nat} {a1 : Option Addr} {n1 c1 : Nat} {a2 : Option Addr} {n2 c2 : Nat} {x : Pi.Lab} {b1 : Option Addr} {m1 d1 : Nat} {b2 : Option Addr} {m2 d2 : Nat} {y : Pi.Lab}
    (h : Two w B a1 n1 c1 a2 n2 c2 x b1 m1 d1 b2 m2 d2 y) (hc : Chg [] w w') : Two w' B a1 n1 c1 a2 n2 c2 x b1 m1 d1 b2 m2 d2 y :=
  ⟨⟨hc.cell h.1.1 (by simp), hc.cell h.1.2.1 (by simp), hc.cell h.1.2.2.1 (by simp), hc.cell h.1.2.2.2 (by simp)⟩, h.2.1.kept0 hc, h.2.2.kept0 hc⟩

theorem two_new {w : World} {a1 : Option Addr} {n1 c1 : Nat} {a2 : Option Addr} {n2 c2 : Nat} {x : Pi.Lab} {b1 : Option Addr} {m1 d1 : Nat} {b2 : Option Addr} {m2 d2 : Nat} {y : Pi.Lab}
    (hx : LabAt w a1 n1 c1 a2 n2 c2 x) (hy : LabAt w b1 m1 d1 b2 m2 d2 y) (E : TypeId) (f g : Nat × Nat) :
    Two ((w.alloc (.cells #[.slice a1 n1 c1, .slice a2 n2 c2] E f)).alloc (.cells #[.slice b1 m1 d1, .slice b2 m2 d2] E g)) w.heap.size a1 n1 c1 a2 n2 c2 x b1 m1 d1 b2 m2 d2 y := by
  have h1 : (w.alloc (.cells #[.slice a1 n1 c1, .slice a2 n2 c2] E f)).heap.size = w.heap.size + 1 := by simp
  have o1 := obj_alloc_old (obj_alloc_new w (.cells #[.slice a1 n1 c1, .slice a2 n2 c2] E f)) (.cells #[.slice b1 m1 d1, .slice b2 m2 d2] E g)
  have o2 := obj_alloc_new (w.alloc (.cells #[.slice a1 n1 c1, .slice a2 n2 c2] E f)) (.cells #[.slice b1 m1 d1, .slice b2 m2 d2] E g)
  rw [h1] at o2
  exact ⟨⟨cell_of_obj o1 rfl, cell_of_obj o1 rfl, cell_of_obj o2 rfl, cell_of_obj o2 rfl⟩, (hx.alloc _).alloc _, (hy.alloc _).alloc _⟩

set_option maxHeartbeats 1000000 in
theorem same_any (a1 : Option Addr) (n1 c1 : Nat) (a2 : Option Addr) (n2 c2 : Nat) (x : Pi.Lab) (b1 : Option Addr) (m1 d1 : Nat) (b2 : Option Addr) (m2 d2 : Nat) (y : Pi.Lab) (w : World)
    (hx : LabAt w a1 n1 c1 a2 n2 c2 x) (hy : LabAt w b1 m1 d1 b2 m2 d2 y) (r1 : n1 ≤ 16) (r2 : n2 ≤ 16) (r3 : m1 ≤ 16) (r4 : m2 ≤ 16) :
    Calls Try.prog 26 #[.agg #[.slice a1 n1 c1, .slice a2 n2 c2], .agg #[.slice b1 m1 d1, .slice b2 m2 d2]] w fun e w' => e = .returned (.bool (Pi.sameB x y)) ∧ Chg [] w w' := by
  have ht := two_new hx hy 26 (0, 0) (0, 0)
  have hc0 := ((Chg.refl [] w).alloc (.cells #[.slice a1 n1 c1, .slice a2 n2 c2] 26)).alloc (.cells #[.slice b1 m1 d1, .slice b2 m2 d2] 26)
  have HT := Lib.hid ht
  have HC := Lib.hid hc0
  clear ht hc0 hx hy
  go_enter Try.func26, Try.ntmps26
  go_wp2_with fail
  refine (sub_any _ _ _ _ _ _ _ _ _ HT.out.2.1.s HT.out.2.2.s (by omega)).mono ?_
  rintro e w1 ⟨rfl, h1⟩
  have HT1 := Lib.hid (HT.out.kept0 h1)
  have HC1 := Lib.hid (HC.out.then0 h1)
  clear HT HC h1
  cases hs1 : Pi.subB x.S y.S with
  | false =>
    have hf := Lib.hid (show Pi.sameB x y = false from by unfold Pi.sameB; rw [hs1]; rfl)
    clear hs1
    go_wp2
    go_ret
    exact ⟨ret_bool (by rw [hf.out]), HC1.out⟩
  | true =>
    have hs1 := Lib.hid hs1
    obtain ⟨⟨k0, k1, k2, k3⟩, _⟩ := HT1.out
    go_wp2_with fail
    refine (sub_any _ _ _ _ _ _ _ _ _ HT1.out.2.2.s HT1.out.2.1.s (by omega)).mono ?_
    rintro e w2 ⟨rfl, h1⟩
    have HT2 := Lib.hid (HT1.out.kept0 h1)
    have HC2 := Lib.hid (HC1.out.then0 h1)
    clear HT1 HC1 h1 k0 k1 k2 k3
    cases hs2 : Pi.subB y.S x.S with
    | false =>
      have hf := Lib.hid (show Pi.sameB x y = false from by unfold Pi.sameB; rw [hs1.out, hs2]; rfl)
      clear hs2
      go_wp2
      go_ret
      exact ⟨ret_bool (by rw [hf.out]), HC2.out⟩
    | true =>
      have hs2 := Lib.hid hs2
      obtain ⟨⟨k0, k1, k2, k3⟩, _⟩ := HT2.out
      go_wp2_with fail
      refine (sub_any _ _ _ _ _ _ _ _ _ HT2.out.2.1.i HT2.out.2.2.i (by omega)).mono ?_
      rintro e w3 ⟨rfl, h1⟩
      have HT3 := Lib.hid (HT2.out.kept0 h1)
      have HC3 := Lib.hid (HC2.out.then0 h1)
      clear HT2 HC2 h1 k0 k1 k2 k3
      cases hs3 : Pi.subB x.I y.I with
      | false =>
        have hf := Lib.hid (show Pi.sameB x y = false from by unfold Pi.sameB; rw [hs1.out, hs2.out, hs3]; rfl)
        clear hs3
        go_wp2
        go_ret
        exact ⟨ret_bool (by rw [hf.out]), HC3.out⟩
      | true =>
        have hf := Lib.hid (show Pi.sameB x y = Pi.subB y.I x.I from by unfold Pi.sameB; rw [hs1.out, hs2.out, hs3]; rfl)
        clear hs3
        obtain ⟨⟨k0, k1, k2, k3⟩, _⟩ := HT3.out
        go_wp2_with fail
        refine (sub_any _ _ _ _ _ _ _ _ _ HT3.out.2.2.i HT3.out.2.1.i (by omega)).mono ?_
        rintro e w4 ⟨rfl, h1⟩
        have HC4 := Lib.hid (HC3.out.then0 h1)
        clear HT3 HC3 h1 k0 k1 k2 k3
        go_wp2
        go_ret
        exact ⟨ret_bool (by rw [hf.out]), HC4.out⟩

theorem flows_any (a1 : Option Addr) (n1 c1 : Nat) (a2 : Option Addr) (n2 c2 : Nat) (x : Pi.Lab) (b1 : Option Addr) (m1 d1 : Nat) (b2 : Option Addr) (m2 d2 : Nat) (y : Pi.Lab) (w : World)
    (hx : LabAt w a1 n1 c1 a2 n2 c2 x) (hy : LabAt w b1 m1 d1 b2 m2 d2 y) (r1 : n1 ≤ 16) (r4 : m2 ≤ 16) :
    Calls Try.prog 25 #[.agg #[.slice a1 n1 c1, .slice a2 n2 c2], .agg #[.slice b1 m1 d1, .slice b2 m2 d2]] w fun e w' => e = .returned (.bool (Pi.flowsB x y)) ∧ Chg [] w w' := by
  have ht := two_new hx hy 26 (0, 0) (0, 0)
  have hc0 := ((Chg.refl [] w).alloc (.cells #[.slice a1 n1 c1, .slice a2 n2 c2] 26)).alloc (.cells #[.slice b1 m1 d1, .slice b2 m2 d2] 26)
  have HT := Lib.hid ht
  have HC := Lib.hid hc0
  clear ht hc0 hx hy
  go_enter Try.func25, Try.ntmps25
  go_wp2_with fail
  refine (sub_any _ _ _ _ _ _ _ _ _ HT.out.2.1.s HT.out.2.2.s (by omega)).mono ?_
  rintro e w1 ⟨rfl, h1⟩
  have HT1 := Lib.hid (HT.out.kept0 h1)
  have HC1 := Lib.hid (HC.out.then0 h1)
  clear HT HC h1
  cases hs1 : Pi.subB x.S y.S with
  | false =>
    have hf := Lib.hid (show Pi.flowsB x y = false from by unfold Pi.flowsB; rw [hs1]; rfl)
    clear hs1
    go_wp2
    go_ret
    exact ⟨ret_bool (by rw [hf.out]), HC1.out⟩
  | true =>
    have hf := Lib.hid (show Pi.flowsB x y = Pi.subB y.I x.I from by unfold Pi.flowsB; rw [hs1]; rfl)
    clear hs1
    obtain ⟨⟨k0, k1, k2, k3⟩, _⟩ := HT1.out
    go_wp2_with fail
    refine (sub_any _ _ _ _ _ _ _ _ _ HT1.out.2.2.i HT1.out.2.1.i (by omega)).mono ?_
    rintro e w2 ⟨rfl, h1⟩
    have HC2 := Lib.hid (HC1.out.then0 h1)
    clear HT1 HC1 h1 k0 k1 k2 k3
    go_wp2
    go_ret
    exact ⟨ret_bool (by rw [hf.out]), HC2.out⟩

end Go.Proofs.Ytihkanbkcnonoaa
