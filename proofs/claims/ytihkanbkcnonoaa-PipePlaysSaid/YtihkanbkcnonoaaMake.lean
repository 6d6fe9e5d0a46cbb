/-
  pipe.Make, walked.
-/
import Derived.Test.YtihkanbkcnonoaaKnown
import Derived.Deep.RegionHeld3
namespace Go.Proofs.Ytihkanbkcnonoaa
open Go.RowKit Go.Maps
set_option linter.unusedVariables false

theorem clone_of (a : Option Addr) (n c : Nat) (zs : List Int) (w : World) (h : Nums w a n c zs) (hle : n ≤ 16) :
    Calls Try.prog 24 #[.slice a n c] w fun e w' => ∃ b d, e = .returned (.slice b n d) ∧ Row w' 3 1 (.slice b n d) n (zs.map (Value.int .i64)) ∧ Chg [] w w' ∧ ∀ k ∈ rowBlock (.slice b n d), w.heap.size ≤ k := by
  refine (clone_ints a n c (zs.map (Value.int .i64)) w (by rw [List.length_map]; exact h.1) (fun e => ?_) h.2.2.2 ?_ (by omega)).mono ?_
  · by_cases h0 : zs = []
    · rw [← h.1, h0]; rfl
    · obtain ⟨b, off, e2, _⟩ := h.2.2.2 (by simpa using h0)
      rw [e] at e2; cases e2
  · intro u hu
    obtain ⟨x, _, rfl⟩ := List.mem_map.1 hu
    rfl
  · rintro e w' ⟨v, rfl, hr, hc, hn⟩
    obtain ⟨b, d, rfl, _⟩ := hr.shape
    exact ⟨b, d, rfl, hr, hc, hn⟩

/-- the numbers that are given are below the next one. -/
def Below1 (s : Pi.Tb) : Prop := ∀ x ∈ s.ps, x.1 < s.next

/-- A pipe more: what is left of the table. -/
theorem Tab.added {w w1 w2 w3 w6 : World} {t mb : Nat} {own : List Nat} {s : Pi.Tb} {es : List Ent} {l : Pi.Lab} {b1 b2 : Option Addr} {n1 d1 n2 d2 : Nat}
    (h0 : Chg [] w w1) (hlt : ∀ k ∈ own, k < w.heap.size)
    (ht : w1.heap[t]? = some (.cells #[.map (some mb), .int .i64 s.next] 60 (0, 0))) (hes : ∀ e ∈ es, PipeAt w1 e.blk e.own e.p) (hps : s.ps = es.map fun e => (e.id, e.p)) (hown : own = t :: mb :: es.flatMap (·.own)) (hnd : own.Nodup)
    (h2 : Chg [] w1 w2) (r1 : Row w2 3 1 (.slice b1 n1 d1) n1 (l.S.map (Value.int .i64))) (g1 : ∀ k ∈ rowBlock (.slice b1 n1 d1), w1.heap.size ≤ k)
    (h3 : Chg [] w2 w3) (r2 : Row w3 3 1 (.slice b2 n2 d2) n2 (l.I.map (Value.int .i64))) (g2 : ∀ k ∈ rowBlock (.slice b2 n2 d2), w2.heap.size ≤ k)
    (hc6 : Chg [mb] (w3.alloc (.cells #[.slice b1 n1 d1, .slice b2 n2 d2, .slice none 0 0, .int .i64 1, .int .i64 1] 64)) w6)
    (hpm : PMap w6 mb ((es.map fun e => (e.id, e.blk)) ++ [(s.next, w3.heap.size)])) :
    Left1 w (w6.setCell ⟨t, 1, none⟩ (.int .i64 (s.next + 1))) t own ⟨s.ps ++ [(s.next, ⟨l, [], 1, 1⟩)], s.next + 1⟩ := by
  have l1 := r1.block_lt
  have l2 := r2.block_lt
  have s0 := h0.size
  have s2 := h2.size
  have s3 := h3.size
  have hnd0 := hnd
  rw [hown] at hnd
  simp only [List.nodup_cons, List.mem_cons, not_or] at hnd
  obtain ⟨⟨htm, hte⟩, hme, hnd1⟩ := hnd
  have hto : t ∈ own := by rw [hown]; simp
  have hmo : mb ∈ own := by rw [hown]; simp
  have htlt := hlt t hto
  have hmlt := hlt mb hmo
  have hX := (Chg.refl [] w3).alloc (.cells #[.slice b1 n1 d1, .slice b2 n2 d2, .slice none 0 0, .int .i64 1, .int .i64 1] 64)
  have c3 : Chg [] w1 (w3.alloc (.cells #[.slice b1 n1 d1, .slice b2 n2 d2, .slice none 0 0, .int .i64 1, .int .i64 1] 64)) := (h2.then0 h3).then0 hX
  have hset := (Chg.refl [t] w6).setCell ⟨t, 1, none⟩ (.int .i64 (s.next + 1)) (by simp)
  have c6 : Chg [mb, t] w1 (w6.setCell ⟨t, 1, none⟩ (.int .i64 (s.next + 1))) := ((c3.mono (G := [mb, t]) (by simp)).trans hc6 (by simp)).trans hset (by simp)
  have c6b : Chg [mb, t] (w3.alloc (.cells #[.slice b1 n1 d1, .slice b2 n2 d2, .slice none 0 0, .int .i64 1, .int .i64 1] 64)) (w6.setCell ⟨t, 1, none⟩ (.int .i64 (s.next + 1))) := (hc6.mono (G := [mb, t]) (by simp)).trans hset (by simp)
  have big : ∀ k, w1.heap.size ≤ k → k ∉ [mb, t] := by
    intro k hk hm
    simp at hm
    rcases hm with rfl | rfl <;> omega
  refine ⟨t :: mb :: (es ++ [(⟨s.next, w3.heap.size, w3.heap.size :: (rowBlock (.slice b1 n1 d1) ++ rowBlock (.slice b2 n2 d2) ++ rowBlock (.slice none 0 0)), ⟨l, [], 1, 1⟩⟩ : Ent)]).flatMap (·.own), ⟨mb, es ++ [(⟨s.next, w3.heap.size, w3.heap.size :: (rowBlock (.slice b1 n1 d1) ++ rowBlock (.slice b2 n2 d2) ++ rowBlock (.slice none 0 0)), ⟨l, [], 1, 1⟩⟩ : Ent)], ?_, ?_, ?_, ?_, rfl, ?_⟩, ?_, ?_⟩
  · exact obj_setCell (hc6.obj (c3.obj ht (by simp)) (by simpa using htm)) 1 _
  · rw [List.map_append]
    exact hpm.kept hset (by simpa using Ne.symm htm)
  · intro e he
    simp only [List.mem_append, List.mem_singleton] at he
    rcases he with he | rfl
    · refine (hes e he).kept c6 ?_
      intro k hk hm
      simp at hm
      rcases hm with rfl | rfl
      · exact hme (List.mem_flatMap.2 ⟨e, he, hk⟩)
      · exact hte (List.mem_flatMap.2 ⟨e, he, hk⟩)
    · refine ⟨b1, n1, d1, b2, n2, d2, .slice none 0 0, ?_, ?_, ?_, Row.nil _ _ _ _, rfl⟩
      · exact c6b.obj (obj_alloc_new w3 _) (big _ (Nat.le_trans s2 s3))
      · exact ((r1.kept0 h3).alloc _).kept c6b (fun k hk => big k (g1 k hk))
      · exact (r2.alloc _).kept c6b (fun k hk => big k (by have := g2 k hk; omega))
  · rw [hps]; simp
  · rw [List.flatMap_append]
    simp only [List.flatMap_cons, List.flatMap_nil, List.append_nil, List.nodup_cons, List.mem_cons, List.mem_append, not_or, List.nodup_append]
    have hold : ∀ k ∈ es.flatMap (·.own), k < w.heap.size := fun k hk => hlt k (by rw [hown]; simp [hk])
    have n1' : ∀ k ∈ rowBlock (.slice b1 n1 d1), w.heap.size ≤ k := fun k hk => by have := g1 k hk; omega
    have n2' : ∀ k ∈ rowBlock (.slice b2 n2 d2), w.heap.size ≤ k := fun k hk => by have := g2 k hk; omega
    refine ⟨⟨htm, hte, by omega, ⟨fun hk => by have := n1' t hk; omega, fun hk => by have := n2' t hk; omega⟩, by simp [rowBlock]⟩, ⟨hme, by omega, ⟨fun hk => by have := n1' mb hk; omega, fun hk => by have := n2' mb hk; omega⟩, by simp [rowBlock]⟩, hnd1, ⟨⟨⟨fun hk => by have := l1 _ hk; omega, fun hk => by have := l2 _ hk; omega⟩, by simp [rowBlock]⟩, ⟨rowBlock_nodup _, rowBlock_nodup _, ?_⟩, by simp [rowBlock], by simp [rowBlock]⟩, ?_⟩
    · intro a ha b hb eab
      have := l1 a ha
      have := g2 b hb
      omega
    · intro a ha b hb eab
      have := hold a ha
      simp only [rowBlock, List.not_mem_nil, or_false] at hb
      rcases hb with hb | hb | hb
      · omega
      · have := n1' b hb; omega
      · have := n2' b hb; omega
  · intro k hk
    rw [List.flatMap_append] at hk
    rw [hown]
    simp only [List.flatMap_cons, List.flatMap_nil, List.append_nil, List.mem_cons, List.mem_append] at hk ⊢
    rcases hk with h | h | h | h | (h | h) | h
    · simp [h]
    · simp [h]
    · simp [h]
    · right; omega
    · right; have := g1 k h; omega
    · right; have := g2 k h; omega
    · simp [rowBlock] at h
  · refine ((h0.mono (G := own) (by simp)).trans c6 ?_)
    intro x hx
    simp at hx
    rcases hx with rfl | rfl
    · exact .inl hmo
    · exact .inl hto

set_option maxHeartbeats 4000000 in
theorem make_any (t : Nat) (own : List Nat) (s : Pi.Tb) (a1 : Option Addr) (n1 c1 : Nat) (a2 : Option Addr) (n2 c2 : Nat) (l : Pi.Lab) (w : World)
    (h : Tab w t own s) (hl : LabAt w a1 n1 c1 a2 n2 c2 l) (hB : Below1 s) (hn0 : 1 ≤ s.next) (hn1 : s.next ≤ 1000000) (hlen : s.ps.length ≤ 1000000) :
    Calls Try.prog 9 #[.pointer (some ⟨t, 0, none⟩), .agg #[.slice a1 n1 c1, .slice a2 n2 c2]] w
      fun e w' => e = .returned (.tuple #[.int .i64 (Pi.make s l).1.1, .int .i64 (Pi.make s l).1.2]) ∧ Left1 w w' t own (Pi.make s l).2 := by
  have hbox := (Chg.refl [] w).alloc (.cells #[.slice a1 n1 c1, .slice a2 n2 c2] 26)
  have HL := Lib.hid (hl.kept0 hbox)
  have HB := Lib.hid hbox
  have HT := Lib.hid (h.kept0 hbox)
  have HLT := Lib.hid h.lt
  clear h hbox
  go_enter Try.func9, Try.ntmps9
  go_wp2_with fail
  refine (may_any a1 n1 c1 a2 n2 c2 l _ HL.out).mono ?_
  rintro e w1 ⟨rfl, h1⟩
  have B1 := Lib.hid h1
  have T1 := Lib.hid (HT.out.kept0 h1)
  have L1 := Lib.hid (HL.out.kept0 h1)
  have X0 := Lib.hid (h1.cell (cell_of_obj (obj_alloc_new w (.cells #[.slice a1 n1 c1, .slice a2 n2 c2] 26)) (j := 0) rfl) (by simp))
  have X1 := Lib.hid (h1.cell (cell_of_obj (obj_alloc_new w (.cells #[.slice a1 n1 c1, .slice a2 n2 c2] 26)) (j := 1) rfl) (by simp))
  clear h1 HT HL hl
  cases hmay : Pi.mayB l with
  | false =>
    have hr := Lib.hid (show Pi.make s l = ((0, 1), s) from by unfold Pi.make; simp [hmay])
    clear hmay
    go_wp2
    go_ret2
    rw [hr.out]
    exact ⟨rfl, left_same T1.out (HB.out.then0 B1.out) (Chg.refl _ _)⟩
  | true =>
    have hr := Lib.hid (show Pi.make s l = ((s.next, 0), ⟨s.ps ++ [(s.next, ⟨l, [], 1, 1⟩)], s.next + 1⟩) from by unfold Pi.make; simp [hmay])
    have hle : n1 ≤ 16 ∧ n2 ≤ 16 := by
      have h1 := may_len hmay
      have h2 := L1.out.s.1
      have h3 := L1.out.i.1
      omega
    clear hmay
    obtain ⟨mb, es, ht, hpm, hes, hps, hown, hnd⟩ := T1.out
    have y0 := cell_of_obj ht (j := 0) rfl
    have y1 := cell_of_obj ht (j := 1) rfl
    have x0 : w1.cell? ⟨w.heap.size, 0, none⟩ = some (.slice a1 n1 c1) := X0.out
    have x1 : w1.cell? ⟨w.heap.size, 1, none⟩ = some (.slice a2 n2 c2) := X1.out
    have PM := Lib.hid hpm
    have HT1 := Lib.hid ht
    have HES := Lib.hid hes
    have HPS := Lib.hid hps
    have HOW := Lib.hid hown
    have HND := Lib.hid hnd
    have HNEW := Lib.hid (show s.next ∉ (es.map fun e => (e.id, e.blk)).map (·.1) from by
      intro hm
      obtain ⟨x, hx, hx2⟩ := List.mem_map.1 hm
      obtain ⟨e, he, rfl⟩ := List.mem_map.1 hx
      have := hB (e.id, e.p) (by rw [hps]; exact List.mem_map.2 ⟨e, he, rfl⟩)
      simp only at this hx2
      omega)
    have HLEN := Lib.hid (show (es.map fun e => (e.id, e.blk)).length < maxLen from by
      have : s.ps.length = es.length := by rw [hps]; simp
      unfold maxLen
      rw [List.length_map]; omega)
    have hBm := Lib.hid (show w.heap.size ∉ [mb] from by
      have := HLT.out mb (by rw [hown]; simp)
      simp; omega)
    have htm : t ≠ mb := by
      rw [hown] at hnd
      simp only [List.nodup_cons, List.mem_cons, not_or] at hnd
      exact hnd.1.1
    clear hpm hes hps hown hnd ht hB
    go_wp2_with fail
    go_region_held3 (fun w' => w'.cell? ⟨t, 0, none⟩ = some (.map (some mb)) ∧ w'.cell? ⟨w.heap.size, 0, none⟩ = some (.slice a1 n1 c1) ∧ w'.cell? ⟨w.heap.size, 1, none⟩ = some (.slice a2 n2 c2))
      (first | exact ⟨z0, z1, z2⟩ | exact ⟨k0, k1, k2⟩ | exact ⟨y0, x0, x1⟩ | exact ⟨((Chg.refl [] w3).alloc _).cell z0 (by simp), ((Chg.refl [] w3).alloc _).cell z1 (by simp), ((Chg.refl [] w3).alloc _).cell z2 (by simp)⟩ | exact ⟨hc6.cell (((Chg.refl [] w3).alloc _).cell z0 (by simp)) (by simpa using htm), hc6.cell (((Chg.refl [] w3).alloc _).cell z1 (by simp)) hBm.out, hc6.cell (((Chg.refl [] w3).alloc _).cell z2 (by simp)) hBm.out⟩)
      ((first
        | (go_at_call 24; refine (clone_of a2 n2 c2 _ _ (L1.out.i.kept0 h2.drew0) hle.2).mono ?_; rintro e w3 ⟨b2, d2, rfl, r2, h3, g2⟩; have z0 := h3.cell k0 (by simp); have z1 := h3.cell k1 (by simp); have z2 := h3.cell k2 (by simp); obtain ⟨w6, hrun, hpm6, hc6⟩ := PMap.add (((PM.out.kept0 h2.drew0).kept0 h3).alloc (.cells #[.slice b1 n1 d1, .slice b2 n2 d2, .slice none 0 0, .int .i64 1, .int .i64 1] 64)) (id := s.next) (wf_i64 (by omega)) w3.heap.size HNEW.out HLEN.out; have q1 := cell_of_obj (hc6.obj (obj_alloc_old (h3.obj (h2.drew0.obj HT1.out (by simp)) (by simp)) _) (by simpa using htm)) (j := 1) rfl; have q2 := free_of_obj (hc6.obj (obj_alloc_old (h3.obj (h2.drew0.obj HT1.out (by simp)) (by simp)) _) (by simpa using htm)) 1)
        | (go_at_call 24; refine (clone_of a1 n1 c1 _ _ (L1.out.s.kept0 (Chg.refl [] w1).drew) hle.1).mono ?_; rintro e w2 ⟨b1, d1, rfl, r1, h2, g1⟩; have k0 := h2.cell y0 (by simp); have k1 := h2.cell x0 (by simp); have k2 := h2.cell x1 (by simp))))
    go_wp2
    go_ret2
    rw [hr.out]
    exact ⟨rfl, Tab.added (HB.out.then0 B1.out) HLT.out HT1.out HES.out HPS.out HOW.out HND.out h2.drew0 r1 g1 h3 r2 g2 hc6 hpm6⟩

end Go.Proofs.Ytihkanbkcnonoaa
