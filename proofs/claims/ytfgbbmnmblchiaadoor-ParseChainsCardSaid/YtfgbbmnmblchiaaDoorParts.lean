/-
  A word's pieces in memory; a piece put behind others: walked.
-/
import Derived.Test.YtfgbbmnmblchiaaDoorSign
namespace Go.Proofs.YtfgbbmnmblchiaaDoor
open Go.RowKit
set_option linter.unusedVariables false

def partCells (p : Lx.Part) : List Value := [.int .i64 p.kind, .string (Lx.strB p.text)]
def pcells (l : List Lx.Part) : List Value := l.flatMap partCells

theorem pcells_len (l : List Lx.Part) : (pcells l).length = l.length * 2 := by
  induction l with
  | nil => rfl
  | cons e r ih => simp [pcells, partCells] at ih ⊢; omega
theorem pcells_append (a b : List Lx.Part) : pcells (a ++ b) = pcells a ++ pcells b := by simp [pcells]
theorem pcells_one (l : List Lx.Part) : ∀ u ∈ pcells l, u.oneCell' = true := by
  intro u hu
  obtain ⟨e, _, hu⟩ := List.mem_flatMap.1 hu
  simp only [partCells, List.mem_cons, List.not_mem_nil, or_false] at hu
  rcases hu with rfl | rfl <;> rfl

/-- v stands for the pieces l. -/
def PartsAt (w : World) (v : Value) (l : List Lx.Part) : Prop := Row w 53 2 v l.length (pcells l)

theorem PartsAt.kept {w w' : World} {F : List Nat} {v : Value} {l : List Lx.Part} (h : PartsAt w v l) (hc : Chg F w w') (hne : ∀ k ∈ rowBlock v, k ∉ F) : PartsAt w' v l := Row.kept h hc hne
theorem PartsAt.kept0 {w w' : World} {v : Value} {l : List Lx.Part} (h : PartsAt w v l) (hc : Chg [] w w') : PartsAt w' v l := Row.kept0 h hc
theorem PartsAt.nil (w : World) (a : Option Addr) : PartsAt w (.slice a 0 0) [] := Row.nil _ _ _ _

/-- a store into a row. -/
theorem Row.set {w : World} {E : TypeId} {size g n cap : Nat} {xs : List Value} (h : Row w E size (.slice (some ⟨g, 0, none⟩) n cap) n xs) (hn : 0 < n) (j : Nat) (v : Value) :
    Row (w.setCell ⟨g, j, none⟩ v) E size (.slice (some ⟨g, 0, none⟩) n cap) n (xs.set j v) := by
  refine ⟨by rw [List.length_set]; exact h.1, ?_⟩
  rcases h.2 with ⟨rfl, _⟩ | ⟨g', cap', cur, hv, hg, h3, h4, h5, h6⟩
  · omega
  · cases hv
    refine .inr ⟨g, cap, cur.setIfInBounds j v, rfl, obj_setCell hg j v, h3, h4, by simpa using h5, ?_⟩
    rw [Array.toList_setIfInBounds, ← h6, List.take_set]

theorem Row.obj {w : World} {E : TypeId} {size n cap : Nat} {a : Option Addr} {xs : List Value} (h : Row w E size (.slice a n cap) n xs) (hn : 0 < n) :
    ∃ g cur, a = some ⟨g, 0, none⟩ ∧ w.heap[g]? = some (.cells cur E (0, 0)) ∧ cur.toList.take (n * size) = xs ∧ n ≤ cap ∧ cap ≤ maxLen := by
  rcases h.2 with ⟨rfl, _⟩ | ⟨g', cap', cur, hv, hg, h3, h4, h5, h6⟩
  · omega
  · cases hv
    exact ⟨g', cur, rfl, hg, h6, h3, h4⟩

theorem rowBlock_head (g n cap : Nat) (h : n ≤ cap) (hn : 0 < n) : g ∈ rowBlock (.slice (some ⟨g, 0, none⟩) n cap) := by
  simp only [rowBlock]; rw [if_neg (by omega)]; simp

theorem Tryd.infoPart : (Tryd.prog.info? 53).map (fun i => (i.zero, i.size, i.bytes)) = some (some (.agg #[.int .i64 0, .string ⟨#[]⟩]), 2, 24) := by kernel_rfl

theorem addP_last (l : List Lx.Part) (p : Lx.Part) (k : Int) (t : List UInt8) :
    Lx.addP (l ++ [p]) k t = if k = 1 ∧ p.kind = 1 then l ++ [⟨p.kind, p.text ++ t⟩] else if k = 1 ∧ t = [] then l ++ [p] else l ++ [p] ++ [⟨k, t⟩] := by
  unfold Lx.addP
  simp

/-- what a call on a word's pieces leaves. -/
def AddPost (w : World) (v : Value) (r : List Lx.Part) (e : Ending) (w' : World) : Prop :=
  ∃ a n c, e = .returned (.slice a n c) ∧ PartsAt w' (.slice a n c) r ∧ Chg (rowBlock v) w w' ∧ ∀ k ∈ rowBlock (.slice a n c), k ∈ rowBlock v ∨ w.heap.size ≤ k

theorem PartsAt.len {w : World} {a : Option Addr} {n c : Nat} {l : List Lx.Part} (h : PartsAt w (.slice a n c) l) : n = l.length ∧ n ≤ c ∧ c ≤ maxLen := by
  obtain ⟨a', c', h1, h2, h3⟩ := Row.shape h
  cases h1
  exact ⟨rfl, h2, h3⟩

theorem one_part (p : Lx.Part) : ∀ u ∈ partCells p, u.oneCell' = true := by
  intro u hu
  simp only [partCells, List.mem_cons, List.not_mem_nil, or_false] at hu
  rcases hu with rfl | rfl <;> rfl

theorem add_fin {w : World} {a : Option Addr} {n c : Nat} {l : List Lx.Part} {k : Int} {t : List UInt8} (hn : n = l.length) (v' : Value) (w' : World) (r1 : Row w' 53 2 v' (n + 1) (pcells l ++ partCells ⟨k, t⟩))
    (q1 : Chg (rowBlock (.slice a n c)) (w.alloc (.cells #[.int .i64 k, .string (Lx.strB t)] 53)) w')
    (g1 : ∀ x ∈ rowBlock v', x ∈ rowBlock (.slice a n c) ∨ w.heap.size + 1 ≤ x) :
    AddPost w (.slice a n c) (l ++ [⟨k, t⟩]) (.returned v') w' := by
  subst hn
  obtain ⟨a', c', rfl, _⟩ := r1.shape
  refine ⟨a', l.length + 1, c', rfl, ?_, ((Chg.refl _ w).alloc _).trans q1 (fun x hx => .inl hx), fun x hx => (g1 x hx).imp (fun h => h) (fun h => by omega)⟩
  unfold PartsAt
  rw [List.length_append, pcells_append]
  exact r1

theorem addPost_same {w : World} {a : Option Addr} {n c : Nat} {l : List Lx.Part} (h : PartsAt w (.slice a n c) l) : AddPost w (.slice a n c) l (.returned (.slice a n c)) w :=
  ⟨a, n, c, rfl, h, Chg.refl _ _, fun x hx => .inl hx⟩

set_option maxHeartbeats 4000000 in
theorem add_any (a : Option Addr) (n c : Nat) (l : List Lx.Part) (k : Int) (t : List UInt8) (w : World) (h : PartsAt w (.slice a n c) l) (hn : l.length ≤ 1000000) (htx : ∀ p ∈ l, p.text.length + t.length ≤ 1000000) :
    Calls Tryd.prog 41 #[.slice a n c, .int .i64 k, .string (Lx.strB t)] w (AddPost w (.slice a n c) (Lx.addP l k t)) := by
  obtain ⟨i0, hi, hz0, hz1, hz2⟩ := info_parts Tryd.infoPart
  obtain ⟨hnl, hc1, hc2⟩ := h.len
  have HR := Lib.hid (show Row w 53 2 (.slice a n c) n (pcells l) from by rw [hnl]; rw [hnl] at h; exact h)
  have HCM := Lib.hid hc2
  have hsrc := Lib.hid (srcNew w #[.int .i64 k, .string (Lx.strB t)] 53 (0, 0))
  have HF := Lib.hid (add_fin (w := w) (a := a) (c := c) (k := k) (t := t) hnl)
  have HS := Lib.hid (addPost_same h)
  have hn2 : n ≤ 1000000 := by omega
  have hsz := Lx.strB_size t
  clear h hc2
  by_cases hk1 : k = 1
  · subst hk1
    by_cases hn0 : n = 0
    · have hl0 : l = [] := List.eq_nil_of_length_eq_zero (by omega)
      subst hl0 hn0
      clear hnl hn htx
      by_cases ht : t = []
      · have hE : (Lx.strB t).toList.isEmpty = true := by rw [Lx.strB_toList, ht]; rfl
        rw [show Lx.addP [] 1 t = [] from by unfold Lx.addP; simp [ht]]
        clear ht
        go_enter Tryd.func41, Tryd.ntmps41
        go_wp2
        go_ret
        exact HS.out
      · have hE : (Lx.strB t).toList.isEmpty = false := by rw [Lx.strB_toList]; simpa using ht
        rw [show Lx.addP [] 1 t = [] ++ [⟨1, t⟩] from by unfold Lx.addP; simp [ht]]
        clear ht
        go_enter Tryd.func41, Tryd.ntmps41
        go_wp2_with (at_builtin; refine wpList_append_row _ rfl _ _ 49 rfl 53 i0 _ 2 24 Tryd.underlying49 hi hz0 hz1 hz2 rfl (by decide) _ 0 (pcells []) rfl (HR.out.kept0 ((Chg.refl [] _).alloc _)) _ 1 1 (partCells ⟨1, t⟩) rfl rfl hsrc.out (one_part _) (by unfold maxLen; omega) (by omega) ?_)
        intro v' w' r1 q1 g1
        have HP := Lib.hid (HF.out v' w' r1 q1 g1)
        clear r1 q1 g1
        go_wp2
        go_ret
        exact HP.out
    · obtain ⟨l', p, rfl⟩ : ∃ l' p, l = l' ++ [p] := by
        rcases List.eq_nil_or_concat l with h0 | ⟨l', p, h0⟩
        · subst h0; exact absurd hnl hn0
        · exact ⟨l', p, by simpa using h0⟩
      obtain ⟨m, rfl⟩ : ∃ m, n = m + 1 := ⟨n - 1, by omega⟩
      have hml : m = l'.length := by simp at hnl; omega
      obtain ⟨g, cur, rfl, hob, htk, _, _⟩ := HR.out.obj (by omega)
      have hpc : pcells (l' ++ [p]) = pcells l' ++ partCells p := by rw [pcells_append]; simp [pcells]
      have hlen : (pcells l').length = m * 2 := by rw [pcells_len, hml]
      have k0 := cells_of_take hob htk (j := m * 2) (u := .int .i64 p.kind) (by rw [hpc, List.getElem?_append_right (by omega), hlen, Nat.sub_self]; rfl)
      have k1 := cells_of_take hob htk (j := m * 2 + 1) (u := .string (Lx.strB p.text)) (by rw [hpc, List.getElem?_append_right (by omega), hlen, show m * 2 + 1 - m * 2 = 1 from by omega]; rfl)
      have kf := free_of_obj hob (m * 2 + 1)
      have hm0 : (0 : Int) ≤ (m : Int) := by omega
      have hpt := htx p (by simp)
      have hsz2 := Lx.strB_size p.text
      have hov := eq_false (show ¬ 9223372036854775807 < p.text.length + t.length from by omega)
      have HSET := Lib.hid (HR.out.set (by omega) (m * 2 + 1) (.string (Lx.strB (p.text ++ t))))
      have hin := Lib.hid (rowBlock_head g (m + 1) c hc1 (by omega))
      rw [addP_last]
      by_cases hp : p.kind = 1
      · have hp1 : (p.kind == 1) = true := by rw [beq_iff_eq]; exact hp
        have HG := Lib.hid (show AddPost w (.slice (some ⟨g, 0, none⟩) (m + 1) c) (l' ++ [⟨p.kind, p.text ++ t⟩]) (.returned (.slice (some ⟨g, 0, none⟩) (m + 1) c)) (w.setCell ⟨g, m * 2 + 1, none⟩ (.string (Lx.strB (p.text ++ t)))) from by
          refine ⟨_, _, _, rfl, ?_, (Chg.refl _ w).setCell _ _ (.inl hin.out), fun x hx => .inl hx⟩
          unfold PartsAt
          have e : pcells (l' ++ [⟨p.kind, p.text ++ t⟩]) = (pcells (l' ++ [p])).set (m * 2 + 1) (.string (Lx.strB (p.text ++ t))) := by
            rw [hpc, List.set_append_right _ _ (by omega), hlen, show m * 2 + 1 - m * 2 = 1 from by omega, pcells_append]
            rfl
          rw [e, show (l' ++ [(⟨p.kind, p.text ++ t⟩ : Lx.Part)]).length = m + 1 from by simp; omega]
          exact HSET.out)
        have hcat := Lx.strB_append p.text t
        rw [if_pos ⟨rfl, hp⟩]
        clear hp HSET hpc hlen hml hnl htx hn htk hob hpt HF HS hsrc HR
        go_enter Tryd.func41, Tryd.ntmps41
        go_wp2
        go_ret
        exact HG.out
      · have hp1 : (p.kind == 1) = false := by rw [beq_eq_false_iff_ne]; exact hp
        rw [if_neg (fun e => hp e.2)]
        clear hp HSET hpc hlen hml hnl htx hn htk hob hpt
        by_cases ht : t = []
        · have hE : (Lx.strB t).toList.isEmpty = true := by rw [Lx.strB_toList, ht]; rfl
          rw [if_pos ⟨rfl, ht⟩]
          clear ht
          go_enter Tryd.func41, Tryd.ntmps41
          go_wp2
          go_ret
          exact HS.out
        · have hE : (Lx.strB t).toList.isEmpty = false := by rw [Lx.strB_toList]; simpa using ht
          rw [if_neg (fun e => ht e.2)]
          clear ht
          go_enter Tryd.func41, Tryd.ntmps41
          go_wp2_with (at_builtin; refine wpList_append_row _ rfl _ _ 49 rfl 53 i0 _ 2 24 Tryd.underlying49 hi hz0 hz1 hz2 rfl (by decide) _ (m + 1) (pcells (l' ++ [p])) rfl (HR.out.kept0 ((Chg.refl [] _).alloc _)) _ 1 1 (partCells ⟨1, t⟩) rfl rfl hsrc.out (one_part _) (by unfold maxLen; omega) (by omega) ?_)
          intro v' w' r1 q1 g1
          have HP := Lib.hid (HF.out v' w' r1 q1 g1)
          clear r1 q1 g1
          go_wp2
          go_ret
          exact HP.out
  · have hk2 : (k == 1) = false := by rw [beq_eq_false_iff_ne]; exact hk1
    rw [show Lx.addP l k t = l ++ [⟨k, t⟩] from by unfold Lx.addP; split <;> simp [hk1]]
    clear hk1 hnl htx hn
    go_enter Tryd.func41, Tryd.ntmps41
    go_wp2_with (at_builtin; refine wpList_append_row _ rfl _ _ 49 rfl 53 i0 _ 2 24 Tryd.underlying49 hi hz0 hz1 hz2 rfl (by decide) _ n (pcells l) rfl (HR.out.kept0 ((Chg.refl [] _).alloc _)) _ 1 1 (partCells ⟨k, t⟩) rfl rfl hsrc.out (one_part _) (by unfold maxLen; omega) (by omega) ?_)
    intro v' w' r1 q1 g1
    have HP := Lib.hid (HF.out v' w' r1 q1 g1)
    clear r1 q1 g1
    go_wp2
    go_ret
    exact HP.out

end Go.Proofs.YtfgbbmnmblchiaaDoor
