/-
  The document's table, walked: at, label.
-/
import Derived.Test.YtihkanbkcnonoaaRTab
import Derived.Deep.RegionHeld3
import Derived.Deep.RegionLaw
namespace Go.Proofs.Ytihkanbkcnonoaa
open Go.RowKit Go.Maps
set_option linter.unusedVariables false

set_option maxHeartbeats 1000000 in
theorem rat_any (rb : Nat) (own : List Nat) (s : Pi.Tb) (id : Int) (w : World) (h : RefAt w rb own s) :
    Calls Try.prog 31 #[.pointer (some ⟨rb, 0, none⟩), .int .i64 id] w fun e w' => e = .returned (.int .i64 (place s.ps id)) ∧ w = w' := by
  obtain ⟨a, n, cap, es, h1, h2, h3, h4, h5, rfl, h7, h8⟩ := h
  have hlen : es.length = n := by have := h2.1; rw [rcells_len] at this; omega
  have hpl : s.ps.length = n := by rw [h4, List.length_map, hlen]
  have k0 := cell_of_obj h1 (j := 0) rfl
  have hm : n ≤ 9223372036854775807 := by
    obtain ⟨_, _, e, h9, h10⟩ := h2.shape
    unfold maxLen at h10
    omega
  by_cases hn : n = 0
  · subst hn
    have hp := Lib.hid (place_none (l := s.ps) (id := id) (fun j y hj => by
      have := (List.getElem?_eq_some_iff.1 hj).1
      omega))
    clear h1 h2 h3 h4 h5 h7 h8 hpl hlen
    go_enter Try.func31, Try.ntmps31
    go_wp2
    refine wp_loop_rounds 1 ?_
    rw [rounds_succ]
    go_wp2
    go_ret
    exact ⟨ret_i64 hp.out.symm, rfl⟩
  · obtain ⟨g, cur, rfl, hg, ht, hc1, hc2⟩ := h2.obj (by omega)
    have hid : ∀ k, k < n → ∃ z : Int, ∃ p, w.cell? ⟨g, k * 6, none⟩ = some (.int .i64 z) ∧ s.ps[k]? = some (z, p) := by
      intro k hk
      have hk' : k < es.length := by omega
      refine ⟨es[k].id, es[k].p, ?_, ?_⟩
      · exact cells_of_take (j := k * 6) hg ht (by
          have := rcells_get es k 0 es[k] (List.getElem?_eq_getElem hk') (by omega)
          rw [Nat.add_zero] at this
          rw [this]; rfl)
      · rw [h4, List.getElem?_map, List.getElem?_eq_getElem hk']; rfl
    have HID := Lib.hid hid
    have HPL := Lib.hid hpl
    clear h1 h2 h3 h4 h5 h7 h8 hpl hlen hid ht hg
    go_enter Try.func31, Try.ntmps31
    go_wp2
    go_loopg [5] n (fun gk c wr => ∃ k : Nat, k + gk = n ∧ c = .int .i64 k ∧ wr = w ∧ Hid (∀ j : Nat, j < k → ∀ y, s.ps[j]? = some y → y.1 ≠ id))
    case atStart => exact ⟨0, by omega, rfl, rfl, Lib.hid (by omega)⟩
    case round =>
      obtain ⟨k, hk, rfl, rfl, hr⟩ := hrel
      cases gk with
      | zero =>
        obtain rfl : k = n := by omega
        have hp := Lib.hid (place_none (l := s.ps) (id := id) (fun j y hj => hr.out j (by
          have := (List.getElem?_eq_some_iff.1 hj).1
          have := HPL.out
          omega) y hj))
        go_wp2
        go_ret
        exact ⟨ret_i64 hp.out.symm, rfl⟩
      | succ gk =>
        have hlt : k < n := by omega
        have hki : (k : Int) < (n : Int) := by omega
        have hk0 : (0 : Int) ≤ (k : Int) := by omega
        obtain ⟨z, p, hz, hzp⟩ := HID.out k hlt
        have HZ := Lib.hid hzp
        clear hzp
        by_cases he : z = id
        · subst he
          have hp := Lib.hid (place_at hr.out HZ.out).1
          go_wp2
          go_ret
          exact ⟨ret_i64 hp.out.symm, rfl⟩
        · have he' : (z == id) = false := by simpa using he
          have hr2 := Lib.hid (show ∀ j : Nat, j < k + 1 → ∀ y, s.ps[j]? = some y → y.1 ≠ id from fun j hj y hy => by
            by_cases hjk : j = k
            · subst hjk
              rw [HZ.out] at hy
              cases hy
              exact he
            · exact hr.out j (by omega) y hy)
          clear he
          go_wp2
          go_roundg gk
          case measure => omega
          case rel => exact ⟨k + 1, by omega, by go_num, rfl, hr2⟩

theorem ints_one (l : List Int) : ∀ u ∈ l.map (Value.int .i64), u.oneCell' = true := by
  intro u hu
  obtain ⟨x, _, rfl⟩ := List.mem_map.1 hu
  rfl

theorem Chg.then00 {a w w' : World} {x : Addr} (h : Chg [] a w) (k : Chg (rowBlock (.slice (some x) 0 0)) w w') : Chg [] a w' := h.trans k (by simp [rowBlock])

theorem new_of {v : Value} {x : Addr} {n m : Nat} (g : ∀ k ∈ rowBlock v, k ∈ rowBlock (.slice (some x) 0 0) ∨ n ≤ k) (h : m ≤ n) : ∀ k ∈ rowBlock v, m ≤ k := by
  intro k hk
  rcases g k hk with h1 | h1
  · simp [rowBlock] at h1
  · omega

set_option maxHeartbeats 4000000 in
theorem rlabel_any (a1 : Option Addr) (n1 c1 : Nat) (a2 : Option Addr) (n2 c2 : Nat) (l : Pi.Lab) (w : World) (h : LabAt w a1 n1 c1 a2 n2 c2 l) (hle : n1 ≤ 16 ∧ n2 ≤ 16) :
    Calls Try.prog 30 #[.agg #[.slice a1 n1 c1, .slice a2 n2 c2]] w fun e w' => ∃ b1 d1 b2 d2, e = .returned (.agg #[.slice b1 n1 d1, .slice b2 n2 d2]) ∧
      Row w' 3 1 (.slice b1 n1 d1) n1 (l.S.map (Value.int .i64)) ∧ Row w' 3 1 (.slice b2 n2 d2) n2 (l.I.map (Value.int .i64)) ∧ Chg [] w w' ∧
      (∀ k ∈ rowBlock (.slice b1 n1 d1), w.heap.size ≤ k) ∧ ∀ k ∈ rowBlock (.slice b2 n2 d2), w.heap.size ≤ k := by
  obtain ⟨i0, hi, hz0, hz1, hz2⟩ := info_parts Try.infoInt
  have hl1 := h.s.1
  have hl2 := h.i.1
  have HA := Lib.hid h.s.2.2.2
  have HB := Lib.hid h.i.2.2.2
  clear h
  go_enter Try.func30, Try.ntmps30
  go_wp2_with fail
  have k0 := cell_of_obj (obj_alloc_old (obj_alloc_new w (.cells #[.slice a1 n1 c1, .slice a2 n2 c2] 26)) (.cells #[.slice none 0 0, .slice none 0 0] 26)) (j := 0) rfl
  have k1 := cell_of_obj (obj_alloc_old (obj_alloc_new w (.cells #[.slice a1 n1 c1, .slice a2 n2 c2] 26)) (.cells #[.slice none 0 0, .slice none 0 0] 26)) (j := 1) rfl
  have ho := obj_alloc_new (w.alloc (.cells #[.slice a1 n1 c1, .slice a2 n2 c2] 26)) (.cells #[.slice none 0 0, .slice none 0 0] 26)
  rw [show (w.alloc (.cells #[.slice a1 n1 c1, .slice a2 n2 c2] 26)).heap.size = w.heap.size + 1 from by simp] at ho
  have hc : Chg [] w ((w.alloc (.cells #[.slice a1 n1 c1, .slice a2 n2 c2] 26)).alloc (.cells #[.slice none 0 0, .slice none 0 0] 26)) := ((Chg.refl [] w).alloc _).alloc _
  generalize (w.alloc (.cells #[.slice a1 n1 c1, .slice a2 n2 c2] 26)).alloc (.cells #[.slice none 0 0, .slice none 0 0] 26) = W at *
  have hA := Lib.hid (HA.out.kept0 hc.drew)
  have hB := Lib.hid (HB.out.kept0 hc.drew)
  have HC := Lib.hid hc
  have HO := Lib.hid ho
  have HS := Lib.hid (show w.heap.size + 2 ≤ W.heap.size from lt_of_obj ho)
  clear hc ho HA HB
  generalize hwb : w.heap.size = wb at *
  go_region_held3 (fun w' => w'.cell? ⟨wb, 0, none⟩ = some (.slice a1 n1 c1) ∧ w'.cell? ⟨wb, 1, none⟩ = some (.slice a2 n2 c2)) (first | exact ⟨x0, x1⟩ | go_keep)
    ((first
      | (refine step_append_row (by rfl) _ _ 22 (by rfl) 3 i0 (.int .i64 0) 1 8 Try.underlying22 hi hz0 hz1 hz2 (by rfl) (by decide) _ 0 [] (by rfl) (Row.nil _ _ _ _) a1 n1 c1 (l.S.map (Value.int .i64)) (by rfl) (by simpa using hl1) (by first | exact hA.out.kept0 ((Chg.refl [] _).alloc _) | exact hA.out.kept0 (((Chg.refl [] _).alloc _).alloc _) | exact hA.out.kept0 q2 | exact hA.out.kept0 (q2.alloc _)) (ints_one _) (by unfold maxLen; omega) (by omega) ?_; intro v1 u1 r1 h1 g1; simp only [Nat.zero_add, List.nil_append] at r1; obtain ⟨b1, d1, rfl, _⟩ := r1.shape; have q1 : Chg [] W.drew u1 := (by first | exact ((Chg.refl [] _).alloc _).then00 h1 | exact (((Chg.refl [] _).alloc _).alloc _).then00 h1 | exact q2.then00 h1 | exact (q2.alloc _).then00 h1); have e1 := Lib.hid <| new_of (m := wb + 2) g1 (by have e := HS.out; first | (have e2 := q2.size; simp at e2 ⊢; omega) | (simp; omega)); have x0 := q1.cell (p := ⟨wb, 0, none⟩) k0 (by simp); have x1 := q1.cell (p := ⟨wb, 1, none⟩) k1 (by simp); have y0 := cell_of_obj (q1.obj HO.out (by simp)) (j := 0) rfl; have y1 := cell_of_obj (q1.obj HO.out (by simp)) (j := 1) rfl; have f0 := free_of_obj (q1.obj HO.out (by simp)) 0; have f1 := free_of_obj (q1.obj HO.out (by simp)) 1)
      | (refine step_append_row (by rfl) _ _ 22 (by rfl) 3 i0 (.int .i64 0) 1 8 Try.underlying22 hi hz0 hz1 hz2 (by rfl) (by decide) _ 0 [] (by rfl) (Row.nil _ _ _ _) a2 n2 c2 (l.I.map (Value.int .i64)) (by rfl) (by simpa using hl2) (by first | exact hB.out.kept0 ((Chg.refl [] _).alloc _) | exact hB.out.kept0 (((Chg.refl [] _).alloc _).alloc _) | exact hB.out.kept0 q1 | exact hB.out.kept0 (q1.alloc _)) (ints_one _) (by unfold maxLen; omega) (by omega) ?_; intro v2 u2 r2 h2 g2; simp only [Nat.zero_add, List.nil_append] at r2; obtain ⟨b2, d2, rfl, _⟩ := r2.shape; have q2 : Chg [] W.drew u2 := (by first | exact ((Chg.refl [] _).alloc _).then00 h2 | exact (((Chg.refl [] _).alloc _).alloc _).then00 h2 | exact q1.then00 h2 | exact (q1.alloc _).then00 h2); have m2 : Chg [] u1 u2 := (by first | exact (((Chg.refl [] _).alloc _).then00 h2) | exact (Chg.refl [] _).then00 h2); have e2 := Lib.hid <| new_of (m := wb + 2) g2 (by have e := HS.out; first | (have e2 := q1.size; simp at e2 ⊢; omega) | (simp; omega)); have x0 := q2.cell (p := ⟨wb, 0, none⟩) k0 (by simp); have x1 := q2.cell (p := ⟨wb, 1, none⟩) k1 (by simp); have y0 := cell_of_obj (q2.obj HO.out (by simp)) (j := 0) rfl; have y1 := cell_of_obj (q2.obj HO.out (by simp)) (j := 1) rfl; have f0 := free_of_obj (q2.obj HO.out (by simp)) 0; have f1 := free_of_obj (q2.obj HO.out (by simp)) 1)))
  all_goals
    go_wp2
    refine bodyPost_ret (v := .agg #[.slice b1 n1 d1, .slice b2 n2 d2]) (by simp [results, Try.results30, go_sem, y0, y1]) rfl ⟨b1, d1, b2, d2, rfl, ?_, ?_, ?_, fun k hk => by have := e1.out k hk; omega, fun k hk => by have := e2.out k hk; omega⟩
    · exact (r1.kept0 m2).kept (((Chg.refl [wb + 1] _).setCell _ _ (by simp)).setCell _ _ (by simp)) (fun k hk e => by have := e1.out k hk; simp at e; omega)
    · exact r2.kept (((Chg.refl [wb + 1] _).setCell _ _ (by simp)).setCell _ _ (by simp)) (fun k hk e => by have := e2.out k hk; simp at e; omega)
    · exact ((HC.out.then0 q2.drew0).setCell _ _ (.inr (by simp; omega))).setCell _ _ (.inr (by simp; omega))

end Go.Proofs.Ytihkanbkcnonoaa
