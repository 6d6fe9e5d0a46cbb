/-
  The document's table, walked: Make.
-/
import Derived.Test.YtihkanbkcnonoaaRDrop
namespace Go.Proofs.Ytihkanbkcnonoaa
open Go.RowKit Go.Maps
set_option linter.unusedVariables false

/-- an entry more. -/
theorem RefAt.added {w w5 : World} {rb : Nat} {es : List REnt} {a : Option Addr} {n cap m : Nat} {s : Pi.Tb} {l : Pi.Lab} {b1 b2 a' : Option Addr} {n1 d1 n2 d2 cap' : Nat}
    (h2 : Row w 71 6 (.slice a n cap) n (rcells es)) (hrb : rb < w.heap.size) (h3 : ∀ e ∈ es, e.rows w) (h4 : s.ps = es.map fun e => (e.id, e.p)) (h5 : (s.ps.map (·.1)).Nodup)
    (h7 : rb ∉ rowBlock (.slice a n cap) ++ es.flatMap REnt.blocks) (h8 : ∀ k ∈ rowBlock (.slice a n cap), k ∉ es.flatMap REnt.blocks) (hm : w.heap.size ≤ m)
    (hc : Chg (rb :: rowBlock (.slice a n cap)) w w5) (hob : w5.heap[rb]? = some (.cells #[.slice a n cap, .int .i64 s.next] 46 (0, 0)))
    (r1 : Row w5 3 1 (.slice b1 n1 d1) n1 (l.S.map (Value.int .i64))) (r2 : Row w5 3 1 (.slice b2 n2 d2) n2 (l.I.map (Value.int .i64)))
    (g1 : ∀ k ∈ rowBlock (.slice b1 n1 d1), w.heap.size ≤ k ∧ k < m) (g2 : ∀ k ∈ rowBlock (.slice b2 n2 d2), w.heap.size ≤ k ∧ k < m)
    (hv : Row w5 71 6 (.slice a' (n + 1) cap') (n + 1) (rcells es ++ ecells s.next b1 n1 d1 b2 n2 d2 ⟨l, [], 1, 1⟩))
    (hvb : ∀ k ∈ rowBlock (.slice a' (n + 1) cap'), k ∈ rowBlock (.slice a n cap) ∨ m ≤ k) (hB : Below1 s) :
    RLeft w (w5.setCell ⟨rb, 0, none⟩ (.slice a' (n + 1) cap')) rb (rb :: (rowBlock (.slice a n cap) ++ es.flatMap REnt.blocks)) ⟨s.ps ++ [(s.next, ⟨l, [], 1, 1⟩)], s.next + 1⟩ := by
  have hset : Chg [rb] w5 (w5.setCell ⟨rb, 0, none⟩ (.slice a' (n + 1) cap')) := (Chg.refl [rb] w5).setCell _ _ (by simp)
  have hlb : ∀ k, k ∈ es.flatMap REnt.blocks → k < w.heap.size := fun k hk => by
    obtain ⟨e, he, hk⟩ := List.mem_flatMap.1 hk
    exact (h3 e he).lt k hk
  have hrv : rb ∉ rowBlock (.slice a' (n + 1) cap') := fun hk => by
    rcases hvb rb hk with h | h
    · exact h7 (List.mem_append.2 (.inl h))
    · omega
  have hch : Chg (rb :: rowBlock (.slice a n cap)) w (w5.setCell ⟨rb, 0, none⟩ (.slice a' (n + 1) cap')) := hc.trans hset (by simp)
  refine ⟨rb :: (rowBlock (.slice a' (n + 1) cap') ++ (es ++ [(⟨s.next, b1, n1, d1, b2, n2, d2, ⟨l, [], 1, 1⟩⟩ : REnt)]).flatMap REnt.blocks), ⟨a', n + 1, cap', es ++ [⟨s.next, b1, n1, d1, b2, n2, d2, ⟨l, [], 1, 1⟩⟩], ?_, ?_, ?_, ?_, ?_, rfl, ?_, ?_⟩, ?_, ?_⟩
  · have := obj_setCell hob 0 (.slice a' (n + 1) cap')
    rw [show s.next + 1 - 1 = s.next from by omega]
    exact this
  · rw [show rcells (es ++ [(⟨s.next, b1, n1, d1, b2, n2, d2, ⟨l, [], 1, 1⟩⟩ : REnt)]) = rcells es ++ ecells s.next b1 n1 d1 b2 n2 d2 (⟨l, [], 1, 1⟩ : Pi.Pp) from by
      simp [rcells, REnt.cells]]
    exact hv.kept hset (fun k hk e => by simp at e; subst e; exact hrv hk)
  · intro e he
    rcases List.mem_append.1 he with he | he
    · refine (h3 e he).kept hch (fun k hk hk2 => ?_)
      have hkb := List.mem_flatMap.2 ⟨e, he, hk⟩
      rcases List.mem_cons.1 hk2 with rfl | hk2
      · exact h7 (List.mem_append.2 (.inr hkb))
      · exact h8 k hk2 hkb
    · simp at he
      subst he
      exact ⟨r1.kept hset (fun k hk e => by have := g1 k hk; simp at e; omega), r2.kept hset (fun k hk e => by have := g2 k hk; simp at e; omega)⟩
  · simp only
    rw [h4, List.map_append]
    rfl
  · simp only
    rw [List.map_append, List.nodup_append]
    refine ⟨h5, by simp, ?_⟩
    intro x hx y hy
    simp at hy
    subst hy
    obtain ⟨z, hz, rfl⟩ := List.mem_map.1 hx
    have := hB z hz
    omega
  · rw [List.mem_append]
    rintro (hk | hk)
    · exact hrv hk
    · rw [List.flatMap_append, List.mem_append] at hk
      rcases hk with hk | hk
      · exact h7 (List.mem_append.2 (.inr hk))
      · simp only [List.flatMap_cons, List.flatMap_nil, List.append_nil, REnt.blocks, List.mem_append] at hk
        rcases hk with hk | hk
        · have := g1 _ hk; omega
        · have := g2 _ hk; omega
  · intro k hk hk2
    rw [List.flatMap_append, List.mem_append] at hk2
    rcases hk2 with hk2 | hk2
    · rcases hvb k hk with h | h
      · exact h8 k h hk2
      · have := hlb k hk2; omega
    · simp only [List.flatMap_cons, List.flatMap_nil, List.append_nil, REnt.blocks, List.mem_append] at hk2
      rcases hvb k hk with h | h
      · have := h2.block_lt k h
        rcases hk2 with hk2 | hk2
        · have := g1 _ hk2; omega
        · have := g2 _ hk2; omega
      · rcases hk2 with hk2 | hk2
        · have := g1 _ hk2; omega
        · have := g2 _ hk2; omega
  · intro k hk
    simp only [List.mem_cons, List.mem_append, List.flatMap_append, List.flatMap_cons, List.flatMap_nil, List.append_nil, REnt.blocks] at hk ⊢
    rcases hk with rfl | hk | hk | hk | hk
    · exact .inl (.inl rfl)
    · rcases hvb k hk with h | h
      · exact .inl (.inr (.inl h))
      · exact .inr (by omega)
    · exact .inl (.inr (.inr hk))
    · exact .inr (g1 k hk).1
    · exact .inr (g2 k hk).1
  · exact hch.mono (fun x hx => .inl (by
      rcases List.mem_cons.1 hx with rfl | hx
      · simp
      · simp [hx]))

theorem make_fin {w w1 W2 w3 w5 : World} {rb : Nat} {es : List REnt} {a : Option Addr} {n cap : Nat} {s : Pi.Tb} {l : Pi.Lab} {b1 b2 a' : Option Addr} {n1 d1 n2 d2 cap' : Nat}
    (h2 : Row w 71 6 (.slice a n cap) n (rcells es)) (hrb : rb < w.heap.size) (h3 : ∀ e ∈ es, e.rows w) (h4 : s.ps = es.map fun e => (e.id, e.p)) (h5 : (s.ps.map (·.1)).Nodup)
    (h7 : rb ∉ rowBlock (.slice a n cap) ++ es.flatMap REnt.blocks) (h8 : ∀ k ∈ rowBlock (.slice a n cap), k ∉ es.flatMap REnt.blocks)
    (W1 : Chg [] w w1) (Q1 : Chg [rb] w1 W2) (Q3 : Chg [] W2 w3) (x : Obj) (q5 : Chg (rowBlock (.slice a n cap)) (w3.alloc x) w5)
    (hob : w5.heap[rb]? = some (.cells #[.slice a n cap, .int .i64 s.next] 46 (0, 0)))
    (E1 : Row w3 3 1 (.slice b1 n1 d1) n1 (l.S.map (Value.int .i64))) (E2 : Row w3 3 1 (.slice b2 n2 d2) n2 (l.I.map (Value.int .i64)))
    (G1 : ∀ k ∈ rowBlock (.slice b1 n1 d1), W2.heap.size ≤ k) (G2 : ∀ k ∈ rowBlock (.slice b2 n2 d2), W2.heap.size ≤ k)
    (r5 : Row w5 71 6 (.slice a' (n + 1) cap') (n + 1) (rcells es ++ ecells s.next b1 n1 d1 b2 n2 d2 ⟨l, [], 1, 1⟩))
    (g5 : ∀ k ∈ rowBlock (.slice a' (n + 1) cap'), k ∈ rowBlock (.slice a n cap) ∨ (w3.alloc x).heap.size ≤ k) (hB : Below1 s) :
    RLeft w (w5.setCell ⟨rb, 0, none⟩ (.slice a' (n + 1) cap')) rb (rb :: (rowBlock (.slice a n cap) ++ es.flatMap REnt.blocks)) ⟨s.ps ++ [(s.next, ⟨l, [], 1, 1⟩)], s.next + 1⟩ := by
  have z1 := W1.size
  have z2 := Q1.size
  have z3 := Q3.size
  have z4 : (w3.alloc x).heap.size = w3.heap.size + 1 := by simp
  have c3 : Chg [rb] w w3 := (((W1.mono (by simp)).trans Q1 (by simp))).trans Q3 (by simp)
  have c5 : Chg (rb :: rowBlock (.slice a n cap)) w w5 := (((c3.alloc x).mono (G := rb :: rowBlock (.slice a n cap)) (fun k hk => .inl (by simp at hk; subst hk; simp))).trans q5 (fun k hk => .inl (by simp [hk])))
  have hfar : ∀ k, W2.heap.size ≤ k → k ∉ rowBlock (.slice a n cap) := fun k hk hk2 => by have := h2.block_lt k hk2; omega
  refine RefAt.added h2 hrb h3 h4 h5 h7 h8 (m := w3.heap.size + 1) (by omega) c5 hob ((E1.kept0 ((Chg.refl [] _).alloc x)).kept q5 (fun k hk => hfar k (G1 k hk))) ((E2.kept0 ((Chg.refl [] _).alloc x)).kept q5 (fun k hk => hfar k (G2 k hk)))
    (fun k hk => ⟨by have := G1 k hk; omega, by have := E1.block_lt k hk; omega⟩) (fun k hk => ⟨by have := G2 k hk; omega, by have := E2.block_lt k hk; omega⟩) r5 (fun k hk => (g5 k hk).imp (fun h => h) (fun h => by omega)) hB

theorem ecells_one (id : Int) (a1 : Option Addr) (n1 c1 : Nat) (a2 : Option Addr) (n2 c2 : Nat) (p : Pi.Pp) : ∀ u ∈ ecells id a1 n1 c1 a2 n2 c2 p, u.oneCell' = true := by
  intro u hu
  simp only [ecells, List.mem_cons, List.not_mem_nil, or_false] at hu
  rcases hu with rfl | rfl | rfl | rfl | rfl | rfl <;> rfl

set_option maxHeartbeats 4000000 in
set_option maxRecDepth 100000 in
theorem rmake_any (rb : Nat) (own : List Nat) (s : Pi.Tb) (a1 : Option Addr) (n1 c1 : Nat) (a2 : Option Addr) (n2 c2 : Nat) (l : Pi.Lab) (w : World)
    (h : RefAt w rb own s) (hl : ∀ w', Chg own w w' → LabAt w' a1 n1 c1 a2 n2 c2 l) (hB : Below1 s) (hn0 : 1 ≤ s.next) (hn1 : s.next ≤ 1000000) (hlen : s.ps.length ≤ 1000000) :
    Calls Try.prog 17 #[.pointer (some ⟨rb, 0, none⟩), .agg #[.slice a1 n1 c1, .slice a2 n2 c2]] w
      fun e w' => e = .returned (.tuple #[.int .i64 (Pi.make s l).1.1, .int .i64 (Pi.make s l).1.2]) ∧ RLeft w w' rb own (Pi.make s l).2 := by
  have hbox := (Chg.refl [] w).alloc (.cells #[.slice a1 n1 c1, .slice a2 n2 c2] 26)
  have HL := Lib.hid (hl _ (hbox.mono (by simp)))
  have HLX := Lib.hid hl
  have HB := Lib.hid hbox
  have HR := Lib.hid h
  have hne := Lib.hid (h.lt rb (by obtain ⟨a, n, cap, es, h1, h2, h3, h4, h5, rfl, h7, h8⟩ := h; simp))
  clear h hbox
  go_enter Try.func17, Try.ntmps17
  go_wp2_with fail
  refine (rmay_any a1 n1 c1 a2 n2 c2 l _ HL.out).mono ?_
  rintro e w1 ⟨rfl, h1⟩
  have B1 := Lib.hid h1
  have L1 := Lib.hid (HL.out.kept0 h1)
  have X0 := Lib.hid (h1.cell (cell_of_obj (obj_alloc_new w (.cells #[.slice a1 n1 c1, .slice a2 n2 c2] 26)) (j := 0) rfl) (by simp))
  have X1 := Lib.hid (h1.cell (cell_of_obj (obj_alloc_new w (.cells #[.slice a1 n1 c1, .slice a2 n2 c2] 26)) (j := 1) rfl) (by simp))
  have W1 := Lib.hid (HB.out.then0 h1)
  have S1 := Lib.hid (show w.heap.size < w1.heap.size from by have := h1.size; simp at this; omega)
  clear h1 HL hl HB
  cases hmay : Pi.mayB l with
  | false =>
    have hr := Lib.hid (show Pi.make s l = ((0, 1), s) from by unfold Pi.make; simp [hmay])
    clear hmay
    go_wp2
    go_ret2
    rw [hr.out]
    exact ⟨rfl, RLeft.same0 HR.out W1.out⟩
  | true =>
    have hr := Lib.hid (show Pi.make s l = ((s.next, 0), ⟨s.ps ++ [(s.next, ⟨l, [], 1, 1⟩)], s.next + 1⟩) from by unfold Pi.make; simp [hmay])
    have hle : n1 ≤ 16 ∧ n2 ≤ 16 := by
      have h1 := may_len hmay
      have h2 := L1.out.s.1
      have h3 := L1.out.i.1
      omega
    clear hmay
    obtain ⟨i0, hi, hz0, hz1, hz2⟩ := info_parts Try.infoPipe
    obtain ⟨a, n, cap, es, h1, h2, h3, h4, h5, rfl, h7, h8⟩ := HR.out
    have hnl : n ≤ 1000000 := by
      have := h2.1
      rw [rcells_len] at this
      rw [h4, List.length_map] at hlen
      omega
    have ho1 := W1.out.obj h1 (by simp)
    have y0 := cell_of_obj ho1 (j := 0) rfl
    have y1 := cell_of_obj ho1 (j := 1) rfl
    have y2 := free_of_obj ho1 1
    have H1 := Lib.hid ho1
    have H2 := Lib.hid h2
    have H3 := Lib.hid h3
    have H4 := Lib.hid h4
    have H5 := Lib.hid h5
    have H7 := Lib.hid h7
    have H8 := Lib.hid h8
    have HBL := Lib.hid hB
    have x0 : w1.cell? ⟨w.heap.size, 0, none⟩ = some (.slice a1 n1 c1) := X0.out
    have x1 : w1.cell? ⟨w.heap.size, 1, none⟩ = some (.slice a2 n2 c2) := X1.out
    have hrbw : rb ≠ w.heap.size := by have := hne.out; omega
    clear h1 h2 h3 h4 h5 h7 h8 ho1 hB HR hlen
    go_wp2_with fail
    have hq2 : Chg (rb :: (rowBlock (.slice a n cap) ++ es.flatMap REnt.blocks)) w (w1.setCell ⟨rb, 1, none⟩ (.int .i64 s.next)) := (W1.out.mono (by simp)).setCell _ _ (.inl (by simp))
    have hq1 : Chg [rb] w1 (w1.setCell ⟨rb, 1, none⟩ (.int .i64 s.next)) := (Chg.refl [rb] w1).setCell _ _ (by simp)
    have L2 := Lib.hid (HLX.out _ hq2.drew)
    have R2 := Lib.hid (((H2.out.kept0 W1.out).kept hq1.drew (fun k hk e => by
      simp at e; subst e; exact H7.out (List.mem_append.2 (.inl hk)))))
    have O2 := Lib.hid (obj_setCell H1.out 1 (.int .i64 s.next))
    have y0' := cell_of_obj O2.out (j := 0) rfl
    have y1' := cell_of_obj O2.out (j := 1) rfl
    have x0' := hq1.cell x0 (by simpa using fun e => hrbw (e : w.heap.size = rb).symm)
    have x1' := hq1.cell x1 (by simpa using fun e => hrbw (e : w.heap.size = rb).symm)
    have Q1 := Lib.hid hq1
    have HNE := Lib.hid (show w.heap.size ∉ [rb] from by simpa using fun e => hrbw (e : w.heap.size = rb).symm)
    have HV2 := Lib.hid (show w.heap.size ∉ rowBlock (.slice a n cap) from fun hk => by have := H2.out.block_lt _ hk; omega)
    have HV := Lib.hid (show rb ∉ rowBlock (.slice a n cap) from fun hk => H7.out (List.mem_append.2 (.inl hk)))
    clear y0 y1 y2 x0 x1 hq2 hq1
    generalize w1.setCell ⟨rb, 1, none⟩ (.int .i64 s.next) = W2 at *
    go_region_law ((first
      | (refine step_append_row (by rfl) _ _ 44 (by rfl) 71 i0 _ 6 88 Try.underlying44 hi hz0 hz1 hz2 (by rfl) (by decide) _ n (rcells es) (by rfl) (R3.out.kept0 ((Chg.refl [] _).alloc _)) _ 1 1 (ecells s.next b1 n1 d1 b2 n2 d2 ⟨l, [], 1, 1⟩) (by rfl) (by simp [ecells]) (srcNew _ _ _ _) (ecells_one _ _ _ _ _ _ _ _) (by unfold maxLen; omega) (by omega) ?_; intro v' w5 r5 q5 g5; obtain ⟨a', cap', rfl, _⟩ := r5.shape; have o5 := q5.obj (obj_alloc_old O3.out _) HV.out; have k0 := cell_of_obj o5 (j := 0) rfl; have k1 := cell_of_obj o5 (j := 1) rfl; have k4 := free_of_obj o5 0)
      | (go_simp; refine (rlabel_any a1 n1 c1 a2 n2 c2 l _ L2.out hle).mono ?_; rintro e w3 ⟨b1, d1, b2, d2, rfl, r1, r2, h3, g1, g2⟩; have z0 := h3.cell y0' (by simp); have z1 := h3.cell y1' (by simp); have z2 := h3.cell x0' (by simp); have z3 := h3.cell x1' (by simp); have za := fun (o : Obj) => ((Chg.refl [] w3).alloc o).cell z0 (by simp); have R3 := Lib.hid (R2.out.kept0 h3); have O3 := Lib.hid (h3.obj O2.out (by simp)); have E1 := Lib.hid r1; have E2 := Lib.hid r2; have G1 := Lib.hid g1; have G2 := Lib.hid g2; have Q3 := Lib.hid h3; clear r1 r2 g1 g2 h3)))
    all_goals
      have FIN := Lib.hid (make_fin H2.out hne.out H3.out H4.out H5.out H7.out H8.out W1.out Q1.out Q3.out.drew0 _ q5 o5 E1.out E2.out G1.out G2.out r5 g5 HBL.out)
      clear r5 q5 g5 o5
      go_wp2
      go_ret2
      rw [hr.out]
      exact ⟨rfl, FIN.out⟩

end Go.Proofs.Ytihkanbkcnonoaa
