/-
  The laws' Parts and SameParts: walked.
-/
import Derived.Test.YtocngneomllmoaaDoorRTokP
namespace Go.Proofs.YtocngneomllmoaaDoor
open Go.RowKit
set_option linter.unusedVariables false

theorem PartsAt.cells2 {w : World} {a : Option Addr} {n c : Nat} {ps : List Lx.Part} (h : PartsAt w (.slice a n c) ps) (k : Nat) (p : Lx.Part) (hk : ps[k]? = some p) :
    ∃ g, a = some ⟨g, 0, none⟩ ∧ w.cell? ⟨g, k * 2, none⟩ = some (.int .i64 p.kind) ∧ w.cell? ⟨g, k * 2 + 1, none⟩ = some (.string (Lx.strB p.text)) := by
  obtain ⟨g, rfl, _, _, hc⟩ := h.cells (by have := (List.getElem?_eq_some_iff.1 hk).1; omega)
  have := hc k p hk
  exact ⟨g, rfl, by rw [Nat.mul_comm]; exact this.kind, by rw [Nat.mul_comm]; exact this.text⟩

theorem PartsR.cells2 {w : World} {a : Option Addr} {n c : Nat} {ps : List Lx.Part} (h : PartsR w (.slice a n c) ps) (k : Nat) (p : Lx.Part) (hk : ps[k]? = some p) :
    ∃ g, a = some ⟨g, 0, none⟩ ∧ w.cell? ⟨g, k * 2, none⟩ = some (.int .i64 p.kind) ∧ w.cell? ⟨g, k * 2 + 1, none⟩ = some (.string (Lx.strB p.text)) := by
  obtain ⟨g, rfl, _, _, hc⟩ := h.cells (by have := (List.getElem?_eq_some_iff.1 hk).1; omega)
  have := hc k p hk
  exact ⟨g, rfl, by rw [Nat.mul_comm]; exact this.kind, by rw [Nat.mul_comm]; exact this.text⟩

theorem pcells_snoc (ps : List Lx.Part) (k : Nat) (p : Lx.Part) (h : ps[k]? = some p) : pcells (ps.take (k + 1)) = pcells (ps.take k) ++ partCells p := by
  obtain ⟨hl, he⟩ := List.getElem?_eq_some_iff.1 h
  rw [List.take_succ_eq_append_getElem hl, he, pcells_append]
  simp [pcells]

set_option maxHeartbeats 2000000 in
theorem parts_any (a : Option Addr) (n c : Nat) (ps : List Lx.Part) (w : World) (h : PartsAt w (.slice a n c) ps) (hn : ps.length ≤ 1000000) :
    Calls Tryd.prog 13 #[.slice a n c] w fun e w' => ∃ a' n' c', e = .returned (.slice a' n' c') ∧ PartsR w' (.slice a' n' c') ps ∧ Chg [] w w' := by
  obtain ⟨i0, hi, hz0, hz1, hz2⟩ := info_parts Tryd.infoPartR
  have hnl := h.len.1
  have n0 : (n : Int) ≤ 1000000 := by omega
  have n1 : n ≤ 1000000 := by omega
  have HP := Lib.hid h
  have HNL := Lib.hid hnl
  clear h hn hnl
  go_enter Tryd.func13, Tryd.ntmps13
  go_wp2_with fail
  go_loopg [3, 4] (n + 1) (fun g c3 c4 wr => ∃ k : Nat, n < k + g ∧ k ≤ n ∧ c4 = .int .i64 k ∧ Row wr 60 2 c3 k (pcells (ps.take k)) ∧ Chg [] w wr ∧ ∀ x ∈ rowBlock c3, w.heap.size ≤ x)
  case atStart => exact ⟨0, by omega, by omega, rfl, by simpa [pcells] using Row.nil w _ 2 none, Chg.refl _ _, by simp [rowBlock]⟩
  case round =>
    obtain ⟨k, hg, hk, rfl, hrow, hch, hnew⟩ := hrel
    obtain ⟨a3, cap3, rfl, _⟩ := hrow.shape
    have HR := Lib.hid hrow
    have HC := Lib.hid hch
    have HN := Lib.hid hnew
    clear hrow hch hnew
    have k0 : (0 : Int) ≤ (k : Int) := by omega
    by_cases hlt : k < n
    · cases gk with
      | zero => omega
      | succ g =>
        have hd : decide (k < n) = true := decide_eq_true hlt
        have k1 : (k : Int) < (n : Int) := by omega
        have k2 : 0 < n := by omega
        obtain ⟨p, hp⟩ : ∃ p, ps[k]? = some p := ⟨_, List.getElem?_eq_getElem (by have := HNL.out; omega)⟩
        obtain ⟨g1, rfl, x0, x1⟩ := (HP.out.kept0 HC.out).cells2 k p hp
        have HSN := Lib.hid (pcells_snoc ps k p hp)
        have HG := Lib.hid hg
        have HLT := Lib.hid hlt
        clear hg hp hlt
        go_wp2_with fail
        go_region_law ((refine step_append_row (by rfl) _ _ 42 (by rfl) 60 i0 _ 2 24 Tryd.underlying42 hi hz0 hz1 hz2 (by rfl) (by decide) _ k (pcells (ps.take k)) (by rfl) (HR.out.kept0 ((Chg.refl [] _).drew.alloc _)) _ 1 1 (partCells p) (by rfl) (by simp [partCells]) (srcNew _ _ _ _) (one_part _) (by unfold maxLen; omega) (by omega) ?_; intro v' w5 r5 q5 g5; have FIN := Lib.hid (And.intro r5 (And.intro q5 g5)); clear r5 q5 g5))
        all_goals
          go_wp2
          go_roundg g
          case measure => omega
          case rel => exact ⟨k + 1, by have := HG.out; omega, by have := HLT.out; omega, by go_num, by rw [HSN.out]; exact FIN.out.1, (HC.out.then0 ((Chg.refl [] _).drew.alloc _)).trans FIN.out.2.1 (fun x hx => .inr (HN.out x hx)), fun x hx => by
              rcases FIN.out.2.2 x hx with h1 | h1
              · exact HN.out x h1
              · have := HC.out.size
                have h1 : wr.heap.size + 1 ≤ x := by simpa using h1
                omega⟩
    · obtain rfl : k = n := by omega
      have hd : decide (k < k) = false := decide_eq_false (by omega)
      have hfin := HR.out
      rw [List.take_of_length_le (by have := HNL.out; omega)] at hfin
      have HF := Lib.hid (show PartsR wr (.slice a3 k cap3) ps from by unfold PartsR; rw [← HNL.out]; exact hfin)
      clear hfin hg
      go_wp2
      go_ret
      exact ⟨a3, k, cap3, rfl, HF.out, HC.out⟩

set_option maxHeartbeats 2000000 in
theorem same_any (a a2 : Option Addr) (n c n2 c2 : Nat) (ps : List Lx.Part) (w : World) (h : PartsR w (.slice a n c) ps) (h2 : PartsR w (.slice a2 n2 c2) ps) (hn : ps.length ≤ 1000000) :
    Calls Tryd.prog 12 #[.slice a n c, .slice a2 n2 c2] w fun e w' => e = .returned (.bool true) ∧ Chg [] w w' := by
  have hnl := h.len.1
  obtain rfl : n2 = n := by rw [hnl, h2.len.1]
  have n0 : (n2 : Int) ≤ 1000000 := by omega
  have n1 : n2 ≤ 1000000 := by omega
  have HP := Lib.hid h
  have HP2 := Lib.hid h2
  have HNL := Lib.hid hnl
  clear h h2 hn hnl
  go_enter Tryd.func12, Tryd.ntmps12
  go_wp2_with fail
  go_loopg [5] (n2 + 1) (fun g c5 wr => ∃ k : Nat, n2 < k + g ∧ k ≤ n2 ∧ c5 = .int .i64 k ∧ Chg [] w wr)
  case atStart => exact ⟨0, by omega, by omega, rfl, Chg.refl _ _⟩
  case round =>
    obtain ⟨k, hg, hk, rfl, hch⟩ := hrel
    have HC := Lib.hid hch
    clear hch
    have k0 : (0 : Int) ≤ (k : Int) := by omega
    by_cases hlt : k < n2
    · cases gk with
      | zero => omega
      | succ g =>
        have hd : decide (k < n2) = true := decide_eq_true hlt
        have k1 : (k : Int) < (n2 : Int) := by omega
        have k2 : 0 < n2 := by omega
        obtain ⟨p, hp⟩ : ∃ p, ps[k]? = some p := ⟨_, List.getElem?_eq_getElem (by have := HNL.out; omega)⟩
        obtain ⟨g1, rfl, x0, x1⟩ := (HP.out.kept0 HC.out).cells2 k p hp
        obtain ⟨g2, rfl, y0, y1⟩ := (HP2.out.kept0 HC.out).cells2 k p hp
        have HG := Lib.hid hg
        clear hg hp
        go_wp2_with fail
        go_quiet (fail)
        all_goals
          go_wp2
          go_roundg g
          case measure => omega
          case rel => exact ⟨k + 1, by have := HG.out; omega, by omega, by go_num, HC.out.drewN _⟩
    · obtain rfl : k = n2 := by omega
      have hd : decide (k < k) = false := decide_eq_false (by omega)
      clear hg
      go_wp2
      go_ret
      exact ⟨rfl, HC.out⟩

end Go.Proofs.YtocngneomllmoaaDoor
