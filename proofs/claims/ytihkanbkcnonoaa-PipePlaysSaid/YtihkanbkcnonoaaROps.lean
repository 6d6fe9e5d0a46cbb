/-
  The document's table, walked: Hold, Drop.
-/
import Derived.Test.YtihkanbkcnonoaaRAt
namespace Go.Proofs.Ytihkanbkcnonoaa
open Go.RowKit Go.Maps
set_option linter.unusedVariables false

/-- What a call on the document's table leaves. -/
def RLeft (w w' : World) (rb : Nat) (own : List Nat) (s : Pi.Tb) : Prop := ∃ own', RefAt w' rb own' s ∧ (∀ k ∈ own', k ∈ own ∨ w.heap.size ≤ k) ∧ Chg own w w'

theorem RLeft.same {w : World} {rb : Nat} {own : List Nat} {s : Pi.Tb} (h : RefAt w rb own s) : RLeft w w rb own s := ⟨own, h, fun k hk => .inl hk, Chg.refl _ _⟩
theorem RLeft.same0 {w w' : World} {rb : Nat} {own : List Nat} {s : Pi.Tb} (h : RefAt w rb own s) (hc : Chg [] w w') : RLeft w w' rb own s := ⟨own, h.kept0 hc, fun k hk => .inl hk, hc.mono (by simp)⟩

/-- one cell of an entry has turned. -/
theorem RFoc.left {w w1 : World} {rb : Nat} {own : List Nat} {s : Pi.Tb} {id : Int} {p : Pi.Pp} {g n cap i : Nat} {a1 : Option Addr} {n1 c1 : Nat} {a2 : Option Addr} {n2 c2 : Nat}
    (F : RFoc w rb own s id p g n cap i a1 n1 c1 a2 n2 c2) (hc : Chg [] w w1) (q : Pi.Pp) (j : Nat) (v : Value) (hq : q.lab = p.lab) (hj : j < 6) (he : ecells id a1 n1 c1 a2 n2 c2 q = (ecells id a1 n1 c1 a2 n2 c2 p).set j v) :
    RLeft w (w1.setCell ⟨g, i * 6 + j, none⟩ v) rb own { s with ps := Pi.put s.ps id q } :=
  ⟨own, F.upd w1 q j v hc hq hj he, fun k hk => .inl hk, (hc.mono (by simp)).setCell _ _ (.inl F.gown)⟩

set_option maxHeartbeats 1000000 in
theorem rhold_any (rb : Nat) (own : List Nat) (s : Pi.Tb) (id : Int) (write : Bool) (N : Nat) (w : World) (h : RefAt w rb own s) (hN : Counts N s) (hN2 : N ≤ 1000000) :
    Calls Try.prog 18 #[.pointer (some ⟨rb, 0, none⟩), .int .i64 id, .bool write] w fun e w' => e = .returned (.int .i64 (Pi.hold s id write).1) ∧ RLeft w w' rb own (Pi.hold s id write).2 := by
  have HR := Lib.hid h
  rcases h.focus (id := id) with ⟨hf, hpl⟩ | ⟨p, g, n, cap, i, a1, n1, c1, a2, n2, c2, hf, F⟩
  · have hr := Lib.hid (show Pi.hold s id write = (61, s) from by unfold Pi.hold; rw [hf])
    have HP := Lib.hid hpl
    clear hf hpl h
    go_enter Try.func18, Try.ntmps18
    go_wp2_with fail
    refine (rat_any rb own s id _ HR.out).mono ?_
    rw [HP.out]
    rintro e w' ⟨rfl, rfl⟩
    go_wp2
    go_ret
    rw [hr.out]
    exact ⟨rfl, RLeft.same HR.out⟩
  · have hb := hN _ (find_mem hf)
    simp only at hb
    have hr := Lib.hid (show Pi.hold s id write = (0, { s with ps := Pi.put s.ps id (if write then { p with heirs := p.heirs + 1 } else { p with readers := p.readers + 1 }) }) from by unfold Pi.hold; rw [hf])
    have HF := Lib.hid F
    have hi0 : (0 : Int) ≤ (i : Int) := by omega
    have hi1 : (i : Int) < (n : Int) := by have := F.lt; omega
    have hi2 := F.lt
    have k0 := F.hd
    have k1 := F.k1
    have k2 := F.k2
    have f1 := F.free (i * 6 + 1)
    have f2 := F.free (i * 6 + 2)
    clear hf h F
    cases write with
    | false =>
      go_enter Try.func18, Try.ntmps18
      go_wp2_with fail
      refine (rat_any rb own s id _ HR.out).mono ?_
      rw [HF.out.place]
      rintro e w' ⟨rfl, rfl⟩
      go_wp2
      go_ret
      rw [hr.out]
      exact ⟨rfl, HF.out.left (Chg.refl [] w) { p with readers := p.readers + 1 } 2 _ rfl (by omega) rfl⟩
    | true =>
      go_enter Try.func18, Try.ntmps18
      go_wp2_with fail
      refine (rat_any rb own s id _ HR.out).mono ?_
      rw [HF.out.place]
      rintro e w' ⟨rfl, rfl⟩
      go_wp2
      go_ret
      rw [hr.out]
      exact ⟨rfl, HF.out.left (Chg.refl [] w) { p with heirs := p.heirs + 1 } 1 _ rfl (by omega) rfl⟩

end Go.Proofs.Ytihkanbkcnonoaa
