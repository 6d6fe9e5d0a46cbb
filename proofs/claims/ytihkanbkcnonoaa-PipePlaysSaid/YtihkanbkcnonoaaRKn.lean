/-
  What is known while the document's Write and Read are walked.
-/
import Derived.Test.YtihkanbkcnonoaaRMake
namespace Go.Proofs.Ytihkanbkcnonoaa
open Go.RowKit Go.Maps
set_option linter.unusedVariables false

structure RK (w0 w : World) (B P : Nat) (a1 : Option Addr) (n1 c1 : Nat) (a2 : Option Addr) (n2 c2 : Nat) (wl : Pi.Lab) (id : Int) (b1 : Option Addr) (m1 d1 : Nat) (b2 : Option Addr) (m2 d2 : Nat) (p : Pi.Pp) : Prop where
  chg : Chg [] w0 w
  box : w.heap[B]? = some (.cells #[.slice a1 n1 c1, .slice a2 n2 c2] 26 (0, 0))
  pp : w.heap[P]? = some (.cells #[.int .i64 id, .int .i64 p.heirs, .int .i64 p.readers, .slice b1 m1 d1, .slice b2 m2 d2, .string (strB p.b)] 71 (0, 0))
  mine : LabAt w a1 n1 c1 a2 n2 c2 wl
  its : LabAt w b1 m1 d1 b2 m2 d2 p.lab

section
variable {w0 w w' : World} {B P : Nat} {a1 : Option Addr} {n1 c1 : Nat} {a2 : Option Addr} {n2 c2 : Nat} {wl : Pi.Lab} {id : Int} {b1 : Option Addr} {m1 d1 : Nat} {b2 : Option Addr} {m2 d2 : Nat} {p : Pi.Pp}

theorem RK.kept0 (h : RK w0 w B P a1 n1 c1 a2 n2 c2 wl id b1 m1 d1 b2 m2 d2 p) (hc : Chg [] w w') : RK w0 w' B P a1 n1 c1 a2 n2 c2 wl id b1 m1 d1 b2 m2 d2 p :=
  ⟨h.chg.then0 hc, hc.obj h.box (by simp), hc.obj h.pp (by simp), h.mine.kept0 hc, h.its.kept0 hc⟩

theorem RK.cells (h : RK w0 w B P a1 n1 c1 a2 n2 c2 wl id b1 m1 d1 b2 m2 d2 p) :
    w.cell? ⟨B, 0, none⟩ = some (.slice a1 n1 c1) ∧ w.cell? ⟨B, 1, none⟩ = some (.slice a2 n2 c2) ∧ w.cell? ⟨P, 1, none⟩ = some (.int .i64 p.heirs) ∧ w.cell? ⟨P, 2, none⟩ = some (.int .i64 p.readers) ∧
    w.cell? ⟨P, 3, none⟩ = some (.slice b1 m1 d1) ∧ w.cell? ⟨P, 4, none⟩ = some (.slice b2 m2 d2) ∧ w.cell? ⟨P, 5, none⟩ = some (.string (strB p.b)) :=
  ⟨cell_of_obj h.box rfl, cell_of_obj h.box rfl, cell_of_obj h.pp rfl, cell_of_obj h.pp rfl, cell_of_obj h.pp rfl, cell_of_obj h.pp rfl, cell_of_obj h.pp rfl⟩

theorem RK.new (h : LabAt w a1 n1 c1 a2 n2 c2 wl) (h' : LabAt w b1 m1 d1 b2 m2 d2 p.lab) :
    RK w ((w.alloc (.cells #[.slice a1 n1 c1, .slice a2 n2 c2] 26)).alloc (.cells #[.int .i64 id, .int .i64 p.heirs, .int .i64 p.readers, .slice b1 m1 d1, .slice b2 m2 d2, .string (strB p.b)] 71))
      w.heap.size (w.heap.size + 1) a1 n1 c1 a2 n2 c2 wl id b1 m1 d1 b2 m2 d2 p := by
  have e : (w.alloc (.cells #[.slice a1 n1 c1, .slice a2 n2 c2] 26)).heap.size = w.heap.size + 1 := by simp
  have h2 := obj_alloc_new (w.alloc (.cells #[.slice a1 n1 c1, .slice a2 n2 c2] 26)) (.cells #[.int .i64 id, .int .i64 p.heirs, .int .i64 p.readers, .slice b1 m1 d1, .slice b2 m2 d2, .string (strB p.b)] 71)
  rw [e] at h2
  have hc := ((Chg.refl [] w).alloc (.cells #[.slice a1 n1 c1, .slice a2 n2 c2] 26)).alloc (.cells #[.int .i64 id, .int .i64 p.heirs, .int .i64 p.readers, .slice b1 m1 d1, .slice b2 m2 d2, .string (strB p.b)] 71)
  exact ⟨hc, obj_alloc_old (obj_alloc_new w _) _, h2, h.kept0 hc, h'.kept0 hc⟩
end

theorem put_self {l : List (Int × Pi.Pp)} {id : Int} {p : Pi.Pp} (hn : (l.map (·.1)).Nodup) (h : Pi.find l id = some p) : Pi.put l id p = l := by
  rcases place_cases l id with ⟨h0, _⟩ | ⟨p', i, h1, _, h3⟩
  · rw [h0] at h; cases h
  · rw [h1] at h
    cases h
    rw [put_at l i id p p hn h3]
    apply List.ext_getElem?
    intro j
    by_cases hj : i = j
    · subst hj
      rw [List.getElem?_set_self (List.getElem?_eq_some_iff.1 h3).1, h3]
    · rw [List.getElem?_set_ne hj]

theorem RefAt.nodup {w : World} {rb : Nat} {own : List Nat} {s : Pi.Tb} (h : RefAt w rb own s) : (s.ps.map (·.1)).Nodup := by
  obtain ⟨a, n, cap, es, h1, h2, h3, h4, h5, _⟩ := h
  exact h5

theorem ret2_sv {a b : ByteArray} {x y : Int} (h : a = b) (h' : x = y) : Ending.returned (.tuple #[.string a, .int .i64 x]) = .returned (.tuple #[.string b, .int .i64 y]) := by rw [h, h']

end Go.Proofs.Ytihkanbkcnonoaa
