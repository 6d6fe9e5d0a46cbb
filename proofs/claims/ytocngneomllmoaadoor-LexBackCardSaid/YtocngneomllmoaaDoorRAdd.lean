/-
  The document's pieces: how they lie, and one put behind others: walked.
-/
import Derived.Test.YtocngneomllmoaaDoorQuoP
namespace Go.Proofs.YtocngneomllmoaaDoor
open Go.RowKit
set_option linter.unusedVariables false

def PartsR (w : World) (v : Value) (l : List Lx.Part) : Prop := Row w 60 2 v l.length (pcells l)

theorem PartsR.kept {w w' : World} {F : List Nat} {v : Value} {l : List Lx.Part} (h : PartsR w v l) (hc : Chg F w w') (hne : ∀ k ∈ rowBlock v, k ∉ F) : PartsR w' v l := Row.kept h hc hne
theorem PartsR.kept0 {w w' : World} {v : Value} {l : List Lx.Part} (h : PartsR w v l) (hc : Chg [] w w') : PartsR w' v l := Row.kept0 h hc
theorem PartsR.nil (w : World) (a : Option Addr) : PartsR w (.slice a 0 0) [] := Row.nil _ _ _ _

theorem PartsR.len {w : World} {a : Option Addr} {n c : Nat} {l : List Lx.Part} (h : PartsR w (.slice a n c) l) : n = l.length ∧ n ≤ c ∧ c ≤ maxLen := by
  obtain ⟨a', c', h1, h2, h3⟩ := Row.shape h
  cases h1
  exact ⟨rfl, h2, h3⟩

theorem Tryd.infoPartR : (Tryd.prog.info? 60).map (fun i => (i.zero, i.size, i.bytes)) = some (some (.agg #[.int .i64 0, .string ⟨#[]⟩]), 2, 24) := by kernel_rfl

def AddPostR (w : World) (v : Value) (r : List Lx.Part) (e : Ending) (w' : World) : Prop :=
  ∃ a n c, e = .returned (.slice a n c) ∧ PartsR w' (.slice a n c) r ∧ Chg (rowBlock v) w w' ∧ ∀ k ∈ rowBlock (.slice a n c), k ∈ rowBlock v ∨ w.heap.size ≤ k

theorem radd_fin {w : World} {a : Option Addr} {n c : Nat} {l : List Lx.Part} {k : Int} {t : List UInt8} (hn : n = l.length) (v' : Value) (w' : World) (r1 : Row w' 60 2 v' (n + 1) (pcells l ++ partCells ⟨k, t⟩))
    (q1 : Chg (rowBlock (.slice a n c)) (w.alloc (.cells #[.int .i64 k, .string (Lx.strB t)] 60)) w')
    (g1 : ∀ x ∈ rowBlock v', x ∈ rowBlock (.slice a n c) ∨ w.heap.size + 1 ≤ x) :
    AddPostR w (.slice a n c) (l ++ [⟨k, t⟩]) (.returned v') w' := by
  subst hn
  obtain ⟨a', c', rfl, _⟩ := r1.shape
  refine ⟨a', l.length + 1, c', rfl, ?_, ((Chg.refl _ w).alloc _).trans q1 (fun x hx => .inl hx), fun x hx => (g1 x hx).imp (fun h => h) (fun h => by omega)⟩
  unfold PartsR
  rw [List.length_append, pcells_append]
  exact r1

theorem raddPost_same {w : World} {a : Option Addr} {n c : Nat} {l : List Lx.Part} (h : PartsR w (.slice a n c) l) : AddPostR w (.slice a n c) l (.returned (.slice a n c)) w :=
  ⟨a, n, c, rfl, h, Chg.refl _ _, fun x hx => .inl hx⟩

theorem pcells_take (l' : List Lx.Part) (x : List Lx.Part) : ∀ (j : Nat) (u : Value), (pcells l')[j]? = some u → (pcells (l' ++ x))[j]? = some u := by
  intro j u h
  rw [pcells_append, List.getElem?_append_left (List.getElem?_eq_some_iff.1 h).1]
  exact h

set_option maxHeartbeats 4000000 in
theorem radd_any (a : Option Addr) (n c : Nat) (l : List Lx.Part) (k : Int) (t : List UInt8) (w : World) (h : PartsR w (.slice a n c) l) (hn : l.length ≤ 1000000) (htx : ∀ p ∈ l, p.text.length + t.length ≤ 1000000) :
    Calls Tryd.prog 35 #[.slice a n c, .int .i64 k, .string (Lx.strB t)] w (AddPostR w (.slice a n c) (Lx.addP l k t)) := by
  obtain ⟨i0, hi, hz0, hz1, hz2⟩ := info_parts Tryd.infoPartR
  obtain ⟨hnl, hc1, hc2⟩ := h.len
  have HR := Lib.hid (show Row w 60 2 (.slice a n c) n (pcells l) from by rw [hnl]; rw [hnl] at h; exact h)
  have HCM := Lib.hid hc2
  have hsrc := Lib.hid (srcNew w #[.int .i64 k, .string (Lx.strB t)] 60 (0, 0))
  have HF := Lib.hid (radd_fin (w := w) (a := a) (c := c) (k := k) (t := t) hnl)
  have HS := Lib.hid (raddPost_same h)
  have hn2 : n ≤ 1000000 := by omega
  have hsz := Lx.strB_size t
  clear h hc2
  by_cases hk1 : k = 1
  · subst hk1
    by_cases hn0 : n = 0
    · have hl0 : l = [] := List.eq_nil_of_length_eq_zero (by omega)
      subst hl0 hn0
      clear hnl hn htx
      by_cases ht : t = []
      · have hE : (Lx.strB t).toList.isEmpty = true := by rw [Lx.strB_toList, ht]; rfl
        rw [show Lx.addP [] 1 t = [] from by unfold Lx.addP; simp [ht]]
        clear ht
        go_enter Tryd.func35, Tryd.ntmps35
        go_wp2
        go_ret
        exact HS.out
      · have hE : (Lx.strB t).toList.isEmpty = false := by rw [Lx.strB_toList]; simpa using ht
        rw [show Lx.addP [] 1 t = [] ++ [⟨1, t⟩] from by unfold Lx.addP; simp [ht]]
        clear ht
        go_enter Tryd.func35, Tryd.ntmps35
        go_wp2_with (at_builtin; refine wpList_append_row _ rfl _ _ 42 rfl 60 i0 _ 2 24 Tryd.underlying42 hi hz0 hz1 hz2 rfl (by decide) _ 0 (pcells []) rfl (HR.out.kept0 ((Chg.refl [] _).alloc _)) _ 1 1 (partCells ⟨1, t⟩) rfl rfl hsrc.out (one_part _) (by unfold maxLen; omega) (by omega) ?_)
        intro v' w' r1 q1 g1
        have HP := Lib.hid (HF.out v' w' r1 q1 g1)
        clear r1 q1 g1
        go_wp2
        go_ret
        exact HP.out
    · obtain ⟨l', p, rfl⟩ : ∃ l' p, l = l' ++ [p] := by
        rcases List.eq_nil_or_concat l with h0 | ⟨l', p, h0⟩
        · subst h0; exact absurd hnl hn0
        · exact ⟨l', p, by simpa using h0⟩
      obtain ⟨m, rfl⟩ : ∃ m, n = m + 1 := ⟨n - 1, by omega⟩
      have hml : m = l'.length := by simp at hnl; omega
      obtain ⟨g, cur, rfl, hob, htk, _, _⟩ := HR.out.obj (by omega)
      have hpc : pcells (l' ++ [p]) = pcells l' ++ partCells p := by rw [pcells_append]; simp [pcells]
      have hlen : (pcells l').length = m * 2 := by rw [pcells_len, hml]
      have k0 := cells_of_take hob htk (j := m * 2) (u := .int .i64 p.kind) (by rw [hpc, List.getElem?_append_right (by omega), hlen, Nat.sub_self]; rfl)
      have k1 := cells_of_take hob htk (j := m * 2 + 1) (u := .string (Lx.strB p.text)) (by rw [hpc, List.getElem?_append_right (by omega), hlen, show m * 2 + 1 - m * 2 = 1 from by omega]; rfl)
      have hm0 : (0 : Int) ≤ (m : Int) := by omega
      have hpt := htx p (by simp)
      have hsz2 := Lx.strB_size p.text
      have hov := eq_false (show ¬ 9223372036854775807 < p.text.length + t.length from by omega)
      have hsr := Lib.hid (show SrcAt w (some ⟨g, 0, none⟩) (pcells l') from fun _ => ⟨g, 0, rfl, fun j u hj => by
        rw [Nat.zero_add]; exact cells_of_take hob htk (pcells_take l' [p] j u hj)⟩)
      rw [addP_last]
      by_cases hp : p.kind = 1
      · have hp1 : (p.kind == 1) = true := by rw [beq_iff_eq]; exact hp
        have hcat := Lx.strB_append p.text t
        have HK1 := Lib.hid k1
        rw [if_pos ⟨rfl, hp⟩, hp]
        have HLEN := Lib.hid (show (pcells l').length = m * 2 from hlen)
        have HML := Lib.hid hml
        have HC1 := Lib.hid hc1
        clear hp hpc hlen hml hnl htx hn htk hob hpt HF HS hsrc HR
        go_enter Tryd.func35, Tryd.ntmps35
        have HNW := Lib.hid hn2
        go_wp2_with (at_builtin; refine wpList_append_row _ rfl _ _ 42 rfl 60 i0 _ 2 24 Tryd.underlying42 hi hz0 hz1 hz2 rfl (by decide) _ 0 [] rfl (Row.nil _ _ _ _) _ m c (pcells l') rfl HLEN.out (hsr.out.kept0 ((Chg.refl [] _).alloc _)) (pcells_one l') (by unfold maxLen; omega) (by omega) ?_)
        intro v1 w1 r1 q1 g1
        have r1 : Row w1 60 2 v1 m (pcells l') := by simpa using r1
        have HQ1 := Lib.hid (show Chg [] w w1 from ((Chg.refl [] w).alloc _).then0 q1)
        have HG1 := Lib.hid (show ∀ x ∈ rowBlock v1, w.heap.size ≤ x from fun x hx => by
          rcases g1 x hx with h1 | h1
          · simp [rowBlock] at h1
          · have h1 : w.heap.size + 1 ≤ x := by simpa using h1
            omega)
        have y1 := HQ1.out.cell HK1.out (by simp)
        have HR1 := Lib.hid r1
        obtain ⟨a1, c1, rfl, _⟩ := r1.shape
        clear r1 q1 g1
        go_wp2_with (at_builtin; refine wpList_append_row _ rfl _ _ 42 rfl 60 i0 _ 2 24 Tryd.underlying42 hi hz0 hz1 hz2 rfl (by decide) _ m (pcells l') rfl (HR1.out.kept0 ((Chg.refl [] _).alloc _)) _ 1 1 (partCells ⟨1, p.text ++ t⟩) rfl rfl (srcNew w1 #[.int .i64 1, .string (Lx.strB (p.text ++ t))] 60 (0, 0)) (one_part _) (by unfold maxLen; omega) (by omega) ?_)
        intro v2 w2 r2 q2 g2
        have HP := Lib.hid (show AddPostR w (.slice (some ⟨g, 0, none⟩) (m + 1) c) (l' ++ [⟨1, p.text ++ t⟩]) (.returned v2) w2 from by
          obtain ⟨a2, c2, rfl, _⟩ := r2.shape
          refine ⟨a2, m + 1, c2, rfl, ?_, ?_, ?_⟩
          · unfold PartsR
            rw [List.length_append, List.length_singleton, ← HML.out, pcells_append]
            exact r2
          · exact ((HQ1.out.alloc _).trans q2 (fun x hx => .inr (HG1.out x hx))).mono (by simp)
          · intro x hx
            rcases g2 x hx with h1 | h1
            · exact .inr (HG1.out x h1)
            · have := HQ1.out.size
              have h1 : w1.heap.size + 1 ≤ x := by simpa using h1
              exact .inr (by omega))
        clear r2 q2 g2
        go_wp2
        go_ret
        exact HP.out
      · have hp1 : (p.kind == 1) = false := by rw [beq_eq_false_iff_ne]; exact hp
        rw [if_neg (fun e => hp e.2)]
        clear hp hpc hlen hml hnl htx hn htk hob hpt
        by_cases ht : t = []
        · have hE : (Lx.strB t).toList.isEmpty = true := by rw [Lx.strB_toList, ht]; rfl
          rw [if_pos ⟨rfl, ht⟩]
          clear ht
          go_enter Tryd.func35, Tryd.ntmps35
          go_wp2
          go_ret
          exact HS.out
        · have hE : (Lx.strB t).toList.isEmpty = false := by rw [Lx.strB_toList]; simpa using ht
          rw [if_neg (fun e => ht e.2)]
          clear ht
          go_enter Tryd.func35, Tryd.ntmps35
          go_wp2_with (at_builtin; refine wpList_append_row _ rfl _ _ 42 rfl 60 i0 _ 2 24 Tryd.underlying42 hi hz0 hz1 hz2 rfl (by decide) _ (m + 1) (pcells (l' ++ [p])) rfl (HR.out.kept0 ((Chg.refl [] _).alloc _)) _ 1 1 (partCells ⟨1, t⟩) rfl rfl hsrc.out (one_part _) (by unfold maxLen; omega) (by omega) ?_)
          intro v' w' r1 q1 g1
          have HP := Lib.hid (HF.out v' w' r1 q1 g1)
          clear r1 q1 g1
          go_wp2
          go_ret
          exact HP.out
  · have hk2 : (k == 1) = false := by rw [beq_eq_false_iff_ne]; exact hk1
    rw [show Lx.addP l k t = l ++ [⟨k, t⟩] from by unfold Lx.addP; split <;> simp [hk1]]
    clear hk1 hnl htx hn
    go_enter Tryd.func35, Tryd.ntmps35
    go_wp2_with (at_builtin; refine wpList_append_row _ rfl _ _ 42 rfl 60 i0 _ 2 24 Tryd.underlying42 hi hz0 hz1 hz2 rfl (by decide) _ n (pcells l) rfl (HR.out.kept0 ((Chg.refl [] _).alloc _)) _ 1 1 (partCells ⟨k, t⟩) rfl rfl hsrc.out (one_part _) (by unfold maxLen; omega) (by omega) ?_)
    intro v' w' r1 q1 g1
    have HP := Lib.hid (HF.out v' w' r1 q1 g1)
    clear r1 q1 g1
    go_wp2
    go_ret
    exact HP.out

end Go.Proofs.YtocngneomllmoaaDoor
