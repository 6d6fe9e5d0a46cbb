/-
  How the table of pipes lies in memory: a map of pointers, a struct for each pipe, and the rows that its slices stand for.
-/
import Derived.Test.YtihkanbkcnonoaaClone
import Derived.Maps.OwnSet
namespace Go.Proofs.Ytihkanbkcnonoaa
open Go.RowKit Go.Maps
set_option linter.unusedVariables false

/-- how a pointer to a pipe reads, as a map's element: nil, or the number of its block. -/
def Rp : Value → Option (DataW Unit × List MemPlace)
  | .pointer none => some (.nil, [])
  | .pointer (some ⟨b, 0, none⟩) => some (.lit (.int .i64 b), [])
  | _ => none

theorem Rp_nil : Rp (.pointer none) = some (.nil, []) := rfl
theorem Rp_ptr (b : Nat) : Rp (.pointer (some ⟨b, 0, none⟩)) = some (.lit (.int .i64 b), []) := rfl

theorem Rp_inv_nil {v : Value} {ps : List MemPlace} (h : Rp v = some (.nil, ps)) : v = .pointer none := by
  unfold Rp at h
  split at h
  · rfl
  · cases h
  · cases h

theorem Rp_inv_ptr {v : Value} {ps : List MemPlace} {b : Nat} (h : Rp v = some (.lit (.int .i64 b), ps)) : v = .pointer (some ⟨b, 0, none⟩) := by
  unfold Rp at h
  split at h
  · cases h
  · cases h; rfl
  · cases h

/-- the block of a pipe's number. -/
def blockOf (l : List (Int × Nat)) (id : Int) : Option Nat := (l.find? fun x => x.1 == id).map (·.2)

def ptrOf : Option Nat → Value
  | none => .pointer none
  | some b => .pointer (some ⟨b, 0, none⟩)
def datOf : Option Nat → DataW Unit
  | none => .nil
  | some b => .lit (.int .i64 b)

theorem Rp_inv {v : Value} {ps : List MemPlace} {o : Option Nat} (h : Rp v = some (datOf o, ps)) : v = ptrOf o := by
  cases o with
  | none => exact Rp_inv_nil h
  | some b => exact Rp_inv_ptr h

/-- block mb is a map from numbers to pointers, just as the list says. -/
structure PMap (w : World) (mb : Nat) (l : List (Int × Nat)) : Prop where
  nodup : (l.map (·.1)).Nodup
  is : ∃ D, w.ownsMap Try.prog 3 Rp mb l.length D ∧ Maps.size D = l.length ∧ (∀ id : Int, Maps.has D (.int .i64 id) = (blockOf l id).isSome) ∧ ∀ id : Int, D.atKey (.int .i64 id) .nil = datOf (blockOf l id)

theorem lawInt : Keyed Try.prog 3 := int_keyed Try.underlying3
theorem zeroPtr (w : World) : (zeroValue 61).run Try.prog w = .ok (.pointer none) w := by kernel_rfl

theorem PMap.made (w : World) : PMap (w.alloc (.map #[] 0)) w.heap.size [] :=
  ⟨by simp, _, World.ownsMap_made w _ _ _, rfl, fun id => rfl, fun id => rfl⟩

theorem PMap.lt {w : World} {mb : Nat} {l : List (Int × Nat)} (h : PMap w mb l) : mb < w.heap.size := by
  obtain ⟨D, hD, _⟩ := h.is
  exact hD.lt

theorem PMap.kept {w w' : World} {F : List Nat} {mb : Nat} {l : List (Int × Nat)} (h : PMap w mb l) (hc : Chg F w w') (hne : mb ∉ F) : PMap w' mb l := by
  obtain ⟨hn, D, hD, h2⟩ := h
  refine ⟨hn, D, ?_, h2⟩
  obtain ⟨es, clock, hb, F', hs, hd⟩ := hD
  exact ⟨es, clock, hc.obj hb hne, F', hs, hd⟩

theorem PMap.kept0 {w w' : World} {mb : Nat} {l : List (Int × Nat)} (h : PMap w mb l) (hc : Chg [] w w') : PMap w' mb l := h.kept hc (by simp)
theorem PMap.alloc {w : World} {mb : Nat} {l : List (Int × Nat)} (h : PMap w mb l) (o : Obj) : PMap (w.alloc o) mb l := h.kept0 ((Chg.refl [] w).alloc o)

theorem wf_i64 {n : Int} (h : -9223372036854775808 ≤ n ∧ n ≤ 9223372036854775807) : (Lit.int .i64 n).wf = true := WalkArith.wf_i64 h

theorem key_int {id : Int} (h : (Lit.int .i64 id).wf = true) : keyOf Try.prog 3 (.int .i64 id) = some (.int .i64 id) := keyOf_int_mk Try.underlying3 h

/-- 'm[id]'. -/
theorem PMap.look {w : World} {mb : Nat} {l : List (Int × Nat)} (h : PMap w mb l) {id : Int} (hw : (Lit.int .i64 id).wf = true) :
    (Instr.lookup 58 (.map (some mb)) (.int .i64 id) false).run Try.prog w = .ok (ptrOf (blockOf l id)) w := by
  obtain ⟨hn, D, hD, _, _, hat⟩ := h
  obtain ⟨v, ps, hrun, hv⟩ := hD.lookup lawInt Try.underlying58 (zeroPtr w) Rp_nil (key_int hw)
  rw [hat id] at hv
  rw [hrun, Rp_inv hv]

theorem blockOf_new {l : List (Int × Nat)} {id : Int} (hnew : id ∉ l.map (·.1)) : blockOf l id = none := by
  unfold blockOf
  have : l.find? (fun x => x.1 == id) = none := by
    rw [List.find?_eq_none]
    intro y hy
    simp only [beq_iff_eq]
    exact fun e => hnew (List.mem_map.2 ⟨y, hy, e⟩)
  rw [this]; rfl

theorem find_append_new {l : List (Int × Nat)} {id b : Int} {x : Nat} (hnew : id ∉ l.map (·.1)) : blockOf (l ++ [(id, x)]) b = if b = id then some x else blockOf l b := by
  unfold blockOf
  rw [List.find?_append]
  by_cases h : b = id
  · subst h
    have : l.find? (fun x => x.1 == b) = none := by
      rw [List.find?_eq_none]
      intro y hy
      simp only [beq_iff_eq]
      exact fun e => hnew (List.mem_map.2 ⟨y, hy, e⟩)
    simp [this]
  · have h' : ¬ id = b := fun e => h e.symm
    simp [h, h']

/-- 'm[id] = p', id new. -/
theorem PMap.add {w : World} {mb : Nat} {l : List (Int × Nat)} (h : PMap w mb l) {id : Int} (hw : (Lit.int .i64 id).wf = true) (b : Nat) (hnew : id ∉ l.map (·.1)) (hlen : l.length < maxLen) :
    ∃ w', (Instr.mapUpdate 58 (.map (some mb)) (.int .i64 id) (.pointer (some ⟨b, 0, none⟩))).run Try.prog w = .ok () w' ∧ PMap w' mb (l ++ [(id, b)]) ∧ Chg [mb] w w' := by
  obtain ⟨hn, D, hD, hsz, hhas, hat⟩ := h
  obtain ⟨w', hrun, hown, hg⟩ := hD.update lawInt Try.underlying58 hlen (key_int hw) (Rp_ptr b)
  have hk : WideAt.IsKeyLit (Lit.int .i64 id) := by simp [WideAt.IsKeyLit]
  refine ⟨w', hrun, ⟨?_, D.put (.int .i64 id) (.lit (.int .i64 b)), ?_, ?_, ?_, ?_⟩, (Chg.refl _ _).grown hg (by simp)⟩
  · rw [List.map_append, List.nodup_append]
    refine ⟨hn, by simp, ?_⟩
    intro x hx y hy
    simp at hy
    subst hy
    exact fun e => hnew (e ▸ hx)
  · simpa using hown
  · have : Maps.has D (.int .i64 id) = false := by rw [hhas id, blockOf_new hnew]; rfl
    rw [Maps.size_put (hD.tidy lawInt), hsz, this]; simp
  · intro k
    rw [find_append_new hnew]
    by_cases e : k = id
    · subst e
      rw [if_pos rfl, Maps.has_put_same hD.isMap hk]; rfl
    · rw [if_neg e, Maps.has_put_other (by intro h; injection h with _ h; exact e h)]
      exact hhas k
  · intro k
    rw [find_append_new hnew]
    by_cases e : k = id
    · subst e
      rw [if_pos rfl, Maps.atKey_put_same hD.isMap hk]; rfl
    · rw [if_neg e, Maps.atKey_put_other (by intro h; injection h with _ h; exact e h)]
      exact hat k

theorem blockOf_filter (l : List (Int × Nat)) (id k : Int) : blockOf (l.filter fun x => !(x.1 == id)) k = if k = id then none else blockOf l k := by
  unfold blockOf
  by_cases e : k = id
  · subst e
    rw [if_pos rfl, List.find?_filter]
    have : l.find? (fun a => decide ((!a.1 == k) = true ∧ (a.1 == k) = true)) = none := by
      rw [List.find?_eq_none]
      intro y _ hy
      simp at hy
    rw [this]; rfl
  · rw [if_neg e, List.find?_filter]
    congr 2
    funext a
    by_cases h : a.1 = k
    · simp [h, e]
    · simp [h]

theorem own_size {w : World} {mb n : Nat} {D : DataW Unit} (h : w.ownsMap Try.prog 3 Rp mb n D) : w.ownsMap Try.prog 3 Rp mb (Maps.size D) D := by
  obtain ⟨es, clock, hb, F, hs, hd⟩ := h
  refine ⟨es, clock, hb, F, ?_, hd⟩
  rw [hd]
  simp [Maps.size, length_sorted]

/-- 'delete(m, id)', id there. -/
theorem PMap.drop {w : World} {mb : Nat} {l : List (Int × Nat)} (h : PMap w mb l) {id : Int} (hw : (Lit.int .i64 id).wf = true) (hin : (blockOf l id).isSome = true) (ty : TypeId) :
    ∃ w', (Builtin.delete_ #[58, 3] ty #[.map (some mb), .int .i64 id]).run Try.prog w = .ok (.tuple #[]) w' ∧ PMap w' mb (l.filter fun x => !(x.1 == id)) ∧ Chg [mb] w w' := by
  obtain ⟨hn, D, hD, hsz, hhas, hat⟩ := h
  obtain ⟨w', hrun, hown, ht⟩ := hD.drop lawInt Try.underlying58 (key_int hw) ty
  have hsd := Maps.size_del (k := .int .i64 id) (hD.tidy lawInt)
  rw [hhas id, hin] at hsd
  have hlen : (l.filter fun x => !(x.1 == id)).length + 1 = l.length := by
    have : ∀ l : List (Int × Nat), (l.map (·.1)).Nodup → (blockOf l id).isSome = true → (l.filter fun x => !(x.1 == id)).length + 1 = l.length := by
      intro l
      induction l with
      | nil => intro _ h; simp [blockOf] at h
      | cons x r ih =>
        intro hnd hs
        simp only [List.map_cons, List.nodup_cons] at hnd
        by_cases e : x.1 = id
        · have : r.filter (fun x => !(x.1 == id)) = r := by
            rw [List.filter_eq_self]
            intro y hy
            simp only [Bool.not_eq_true', beq_eq_false_iff_ne]
            exact fun e2 => hnd.1 (List.mem_map.2 ⟨y, hy, e2.trans e.symm⟩)
          simp [e, this]
        · have hs' : (blockOf r id).isSome = true := by simpa [blockOf, e] using hs
          have := ih hnd.2 hs'
          simp [e]
          omega
    exact this l hn hin
  refine ⟨w', hrun, ⟨?_, D.del (.int .i64 id), ?_, ?_, ?_, ?_⟩, (Chg.refl _ _).grown ht.grown (by simp)⟩
  · exact hn.sublist (List.Sublist.map _ (List.filter_sublist))
  · have := own_size hown
    have e : Maps.size (D.del (.int .i64 id)) = (l.filter fun x => !(x.1 == id)).length := by simp at hsd; omega
    rw [← e]; exact this
  · simp at hsd; omega
  · intro k
    rw [blockOf_filter]
    by_cases e : k = id
    · subst e; rw [if_pos rfl, Maps.has_del_same]; rfl
    · rw [if_neg e, Maps.has_del_other (by intro h; injection h with _ h; exact e h)]
      exact hhas k
  · intro k
    rw [blockOf_filter]
    by_cases e : k = id
    · subst e; rw [if_pos rfl, Maps.atKey_del_same]; rfl
    · rw [if_neg e, Maps.atKey_del_other (by intro h; injection h with _ h; exact e h)]
      exact hat k

/-- 'len(m)'. -/
theorem PMap.len {w : World} {mb : Nat} {l : List (Int × Nat)} (h : PMap w mb l) (ty : TypeId) : (Builtin.len_ #[58] ty #[.map (some mb)]).run Try.prog w = .ok (.int .i64 l.length) w := by
  obtain ⟨hn, D, hD, hsz, hhas, hat⟩ := h
  rw [hD.len Try.underlying58 ty, hsz]

end Go.Proofs.Ytihkanbkcnonoaa
