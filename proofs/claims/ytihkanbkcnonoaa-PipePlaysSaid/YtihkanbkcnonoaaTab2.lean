/-
  A pipe in memory, the table of pipes in memory, and what a change of one pipe leaves of the table.
-/
import Derived.Test.YtihkanbkcnonoaaTab
namespace Go.Proofs.Ytihkanbkcnonoaa
open Go.RowKit Go.Maps
set_option linter.unusedVariables false

def byteV (x : UInt8) : Value := .int .u8 (x.toNat : Int)

/-- block pb is a pipe's struct; 'own': all blocks that are the pipe's. -/
def PipeAt (w : World) (pb : Nat) (own : List Nat) (p : Pi.Pp) : Prop :=
  ∃ a1 n1 c1 a2 n2 c2 vb, w.heap[pb]? = some (.cells #[.slice a1 n1 c1, .slice a2 n2 c2, vb, .int .i64 p.readers, .int .i64 p.heirs] 64 (0, 0)) ∧
    Row w 3 1 (.slice a1 n1 c1) n1 (p.lab.S.map (Value.int .i64)) ∧ Row w 3 1 (.slice a2 n2 c2) n2 (p.lab.I.map (Value.int .i64)) ∧ Row w 5 1 vb p.b.length (p.b.map byteV) ∧
    own = pb :: (rowBlock (.slice a1 n1 c1) ++ rowBlock (.slice a2 n2 c2) ++ rowBlock vb)

theorem PipeAt.kept {w w' : World} {F : List Nat} {pb : Nat} {own : List Nat} {p : Pi.Pp} (h : PipeAt w pb own p) (hc : Chg F w w') (hne : ∀ k ∈ own, k ∉ F) : PipeAt w' pb own p := by
  obtain ⟨a1, n1, c1, a2, n2, c2, vb, h1, h2, h3, h4, rfl⟩ := h
  exact ⟨a1, n1, c1, a2, n2, c2, vb, hc.obj h1 (hne pb (by simp)), h2.kept hc (fun k hk => hne k (by simp [hk])), h3.kept hc (fun k hk => hne k (by simp [hk])), h4.kept hc (fun k hk => hne k (by simp [hk])), rfl⟩

theorem PipeAt.lt {w : World} {pb : Nat} {own : List Nat} {p : Pi.Pp} (h : PipeAt w pb own p) : ∀ k ∈ own, k < w.heap.size := by
  obtain ⟨a1, n1, c1, a2, n2, c2, vb, h1, h2, h3, h4, rfl⟩ := h
  intro k hk
  simp only [List.mem_cons, List.mem_append] at hk
  rcases hk with rfl | (hk | hk) | hk
  · exact lt_of_obj h1
  · exact h2.block_lt k hk
  · exact h3.block_lt k hk
  · exact h4.block_lt k hk

/-- an entry of the table. -/
structure Ent where
  id : Int
  blk : Nat
  own : List Nat
  p : Pi.Pp

/-- block t is the table's struct; 'own': all blocks that are the table's. -/
def Tab (w : World) (t : Nat) (own : List Nat) (s : Pi.Tb) : Prop :=
  ∃ (mb : Nat) (l : List Ent), w.heap[t]? = some (.cells #[.map (some mb), .int .i64 s.next] 60 (0, 0)) ∧
    PMap w mb (l.map fun e => (e.id, e.blk)) ∧ (∀ e ∈ l, PipeAt w e.blk e.own e.p) ∧ s.ps = l.map (fun e => (e.id, e.p)) ∧ own = t :: mb :: l.flatMap (·.own) ∧ own.Nodup

theorem Tab.kept {w w' : World} {F : List Nat} {t : Nat} {own : List Nat} {s : Pi.Tb} (h : Tab w t own s) (hc : Chg F w w') (hne : ∀ k ∈ own, k ∉ F) : Tab w' t own s := by
  obtain ⟨mb, l, h1, h2, h3, h4, rfl, h6⟩ := h
  refine ⟨mb, l, hc.obj h1 (hne t (by simp)), h2.kept hc (hne mb (by simp)), fun e he => (h3 e he).kept hc (fun k hk => hne k ?_), h4, rfl, h6⟩
  simp only [List.mem_cons, List.mem_flatMap]
  exact .inr (.inr ⟨e, he, hk⟩)

theorem Tab.kept0 {w w' : World} {t : Nat} {own : List Nat} {s : Pi.Tb} (h : Tab w t own s) (hc : Chg [] w w') : Tab w' t own s := h.kept hc (by simp)

theorem Tab.lt {w : World} {t : Nat} {own : List Nat} {s : Pi.Tb} (h : Tab w t own s) : ∀ k ∈ own, k < w.heap.size := by
  obtain ⟨mb, l, h1, h2, h3, h4, rfl, h6⟩ := h
  intro k hk
  simp only [List.mem_cons, List.mem_flatMap] at hk
  rcases hk with rfl | rfl | ⟨e, he, hk⟩
  · exact lt_of_obj h1
  · exact h2.lt
  · exact (h3 e he).lt k hk

theorem find_ent (l : List Ent) (id : Int) : Pi.find (l.map fun e => (e.id, e.p)) id = (l.find? fun e => e.id == id).map (·.p) := by
  unfold Pi.find
  rw [List.find?_map, Option.map_map]
  rfl

theorem block_ent (l : List Ent) (id : Int) : blockOf (l.map fun e => (e.id, e.blk)) id = (l.find? fun e => e.id == id).map (·.blk) := by
  unfold blockOf
  rw [List.find?_map, Option.map_map]
  rfl

/-- THE TABLE, SEEN AT ONE NUMBER: the map's answer; where there is a pipe: its struct, and what a change of that pipe alone, or taking it out, leaves. -/
structure Focus (w : World) (t mb : Nat) (own : List Nat) (s : Pi.Tb) (id : Int) (pb : Nat) (po : List Nat) (p : Pi.Pp) : Prop where
  found : Pi.find s.ps id = some p
  at_ : PipeAt w pb po p
  sub : ∀ k ∈ po, k ∈ own
  nodup : po.Nodup
  tne : t ∉ po
  mne : mb ∉ po
  put : ∀ (F : List Nat) (w' : World) (q : Pi.Pp) (po' : List Nat), Chg F w w' → (∀ k ∈ F, k ∈ po) → PipeAt w' pb po' q → po'.Nodup → (∀ k ∈ po', k ∈ po ∨ w.heap.size ≤ k) →
    ∃ own', Tab w' t own' { s with ps := Pi.put s.ps id q } ∧ ∀ k ∈ own', k ∈ own ∨ k ∈ po'
  del : ∀ (F : List Nat) (w' w'' : World) (ty : TypeId), Chg F w w' → (∀ k ∈ F, k ∈ po) → (Builtin.delete_ #[58, 3] ty #[.map (some mb), .int .i64 id]).run Try.prog w' = .ok (.tuple #[]) w'' →
    (∃ own', Tab w'' t own' { s with ps := Pi.del s.ps id } ∧ ∀ k ∈ own', k ∈ own) ∧ Chg (mb :: F) w w''
  delOk : ∀ (F : List Nat) (w' : World) (ty : TypeId), Chg F w w' → (∀ k ∈ F, k ∈ po) → ∃ w'', (Builtin.delete_ #[58, 3] ty #[.map (some mb), .int .i64 id]).run Try.prog w' = .ok (.tuple #[]) w''

theorem put_ent (l1 l2 : List Ent) (e : Ent) (q : Pi.Pp) (po' : List Nat) (hnd : ((l1 ++ e :: l2).map (·.id)).Nodup) :
    Pi.put ((l1 ++ e :: l2).map fun e => (e.id, e.p)) e.id q = (l1 ++ { e with p := q, own := po' } :: l2).map fun e => (e.id, e.p) := by
  have h1 : ∀ x ∈ l1, x.id ≠ e.id := by
    intro x hx he
    simp only [List.map_append, List.map_cons, List.nodup_append, List.nodup_cons] at hnd
    exact hnd.2.2 x.id (List.mem_map.2 ⟨x, hx, rfl⟩) e.id (by simp) he
  have h2 : ∀ x ∈ l2, x.id ≠ e.id := by
    intro x hx he
    simp only [List.map_append, List.map_cons, List.nodup_append, List.nodup_cons] at hnd
    exact hnd.2.1.1 (List.mem_map.2 ⟨x, hx, he⟩)
  unfold Pi.put
  simp only [List.map_append, List.map_cons, List.map_map, beq_self_eq_true, if_true]
  congr 1
  · apply List.map_congr_left
    intro x hx
    simp [h1 x hx]
  · congr 1
    apply List.map_congr_left
    intro x hx
    simp [h2 x hx]

theorem del_ent (l1 l2 : List Ent) (e : Ent) (hnd : ((l1 ++ e :: l2).map (·.id)).Nodup) {β : Type} (f : Ent → β) :
    ((l1 ++ e :: l2).map fun e => (e.id, f e)).filter (fun x => !(x.1 == e.id)) = (l1 ++ l2).map fun e => (e.id, f e) := by
  have h1 : ∀ x ∈ l1, x.id ≠ e.id := by
    intro x hx he
    simp only [List.map_append, List.map_cons, List.nodup_append, List.nodup_cons] at hnd
    exact hnd.2.2 x.id (List.mem_map.2 ⟨x, hx, rfl⟩) e.id (by simp) he
  have h2 : ∀ x ∈ l2, x.id ≠ e.id := by
    intro x hx he
    simp only [List.map_append, List.map_cons, List.nodup_append, List.nodup_cons] at hnd
    exact hnd.2.1.1 (List.mem_map.2 ⟨x, hx, he⟩)
  simp only [List.map_append, List.map_cons, List.filter_append, List.filter_cons, beq_self_eq_true, Bool.not_true]
  simp only [Bool.false_eq_true, if_false]
  congr 1
  · rw [List.filter_eq_self]
    intro y hy
    obtain ⟨x, hx, rfl⟩ := List.mem_map.1 hy
    simp [h1 x hx]
  · rw [List.filter_eq_self]
    intro y hy
    obtain ⟨x, hx, rfl⟩ := List.mem_map.1 hy
    simp [h2 x hx]

theorem Tab.focus {w : World} {t : Nat} {own : List Nat} {s : Pi.Tb} (h : Tab w t own s) {id : Int} (hw : (Lit.int .i64 id).wf = true) :
    ∃ mb, w.heap[t]? = some (.cells #[.map (some mb), .int .i64 s.next] 60 (0, 0)) ∧ mb ∈ own ∧ t ∈ own ∧ t ≠ mb ∧
      ((Pi.find s.ps id = none ∧ (Instr.lookup 58 (.map (some mb)) (.int .i64 id) false).run Try.prog w = .ok (.pointer none) w) ∨
       ∃ pb po p, (Instr.lookup 58 (.map (some mb)) (.int .i64 id) false).run Try.prog w = .ok (.pointer (some ⟨pb, 0, none⟩)) w ∧ Focus w t mb own s id pb po p) := by
  have hlt := h.lt
  obtain ⟨mb, l, h1, h2, h3, h4, rfl, h6⟩ := h
  refine ⟨mb, h1, by simp, by simp, ?_, ?_⟩
  · simp only [List.nodup_cons, List.mem_cons, not_or] at h6
    exact h6.1.1
  have hlook := h2.look hw
  rw [block_ent] at hlook
  cases hf : l.find? fun e => e.id == id with
  | none =>
    rw [hf] at hlook
    exact .inl ⟨by rw [h4, find_ent, hf]; rfl, hlook⟩
  | some e =>
    rw [hf] at hlook
    obtain ⟨he, l1, l2, rfl, hn1⟩ := List.find?_eq_some_iff_append.1 hf
    have hid : e.id = id := by simpa using he
    subst hid
    have hids : ((l1 ++ e :: l2).map (·.id)).Nodup := by
      have := h2.nodup
      rw [List.map_map] at this
      exact this
    have hpe := h3 e (by simp)
    have hflat : (l1 ++ e :: l2).flatMap (·.own) = l1.flatMap (·.own) ++ (e.own ++ l2.flatMap (·.own)) := by simp
    have hnd := h6
    rw [hflat] at hnd
    simp only [List.nodup_cons, List.mem_cons, List.mem_append, not_or, List.nodup_append] at hnd
    obtain ⟨⟨ht0, ht1, ht2, ht3⟩, ⟨hm1, hm2, hm3⟩, hn1', ⟨hne, hn2', hdis2⟩, hdis1⟩ := hnd
    refine .inr ⟨e.blk, e.own, e.p, hlook, ?_⟩
    refine ⟨by rw [h4, find_ent, hf]; rfl, hpe, fun k hk => by rw [hflat]; simp [hk], hne, ht2, hm2, ?_, ?_, ?_⟩
    · intro F w' q po' hc hF hq hqn hsub
      have hother : ∀ x ∈ l1 ++ l2, PipeAt w' x.blk x.own x.p := by
        intro x hx
        refine (h3 x (by simp at hx ⊢; rcases hx with h | h <;> simp [h])).kept hc ?_
        intro k hk hkF
        have hke := hF k hkF
        simp at hx
        rcases hx with hx | hx
        · exact hdis1 k (List.mem_flatMap.2 ⟨x, hx, hk⟩) k (.inl hke) rfl
        · exact hdis2 k hke k (List.mem_flatMap.2 ⟨x, hx, hk⟩) rfl
      have hlt' : ∀ k, k ∈ l1.flatMap (·.own) ∨ k ∈ l2.flatMap (·.own) ∨ k = t ∨ k = mb → k < w.heap.size := by
        intro k hk
        apply hlt
        rw [hflat]
        simp only [List.mem_cons, List.mem_append]
        rcases hk with h | h | h | h <;> simp [h]
      refine ⟨t :: mb :: (l1 ++ { e with p := q, own := po' } :: l2).flatMap (·.own), ⟨mb, l1 ++ { e with p := q, own := po' } :: l2, ?_, ?_, ?_, ?_, rfl, ?_⟩, ?_⟩
      · exact hc.obj h1 (fun hk => ht2 (hF t hk))
      · have := h2.kept hc (fun hk => hm2 (hF mb hk))
        simpa using this
      · intro x hx
        simp only [List.mem_append, List.mem_cons] at hx
        rcases hx with hx | rfl | hx
        · exact hother x (by simp [hx])
        · exact hq
        · exact hother x (by simp [hx])
      · show Pi.put s.ps e.id q = _
        rw [h4]
        exact put_ent l1 l2 e q po' hids
      · have e1 : (l1 ++ { e with p := q, own := po' } :: l2).flatMap (·.own) = l1.flatMap (·.own) ++ (po' ++ l2.flatMap (·.own)) := by simp
        rw [e1]
        simp only [List.nodup_cons, List.mem_cons, List.mem_append, not_or, List.nodup_append]
        have out : ∀ k ∈ po', ∀ j, (j ∈ l1.flatMap (·.own) ∨ j ∈ l2.flatMap (·.own) ∨ j = t ∨ j = mb) → j ≠ k := by
          intro k hk j hj ejk
          subst ejk
          rcases hsub j hk with h | h
          · rcases hj with hj | hj | hj | hj
            · exact hdis1 j hj j (.inl h) rfl
            · exact hdis2 j h j hj rfl
            · subst hj; exact ht2 h
            · subst hj; exact hm2 h
          · have := hlt' j hj
            omega
        refine ⟨⟨ht0, ht1, fun hk => out t hk t (by simp) rfl, ht3⟩, ⟨hm1, fun hk => out mb hk mb (by simp) rfl, hm3⟩, hn1', ⟨hqn, hn2', ?_⟩, ?_⟩
        · intro a ha b hb eab
          exact out a ha b (by simp [hb]) eab.symm
        · intro a ha b hb eab
          rcases hb with hb | hb
          · exact out b hb a (by simp [ha]) eab
          · exact hdis1 a ha b (.inr hb) eab
      · intro k hk
        have e1 : (l1 ++ { e with p := q, own := po' } :: l2).flatMap (·.own) = l1.flatMap (·.own) ++ (po' ++ l2.flatMap (·.own)) := by simp
        rw [e1] at hk
        rw [hflat]
        simp only [List.mem_cons, List.mem_append] at hk ⊢
        rcases hk with h | h | h | h | h
        · simp [h]
        · simp [h]
        · simp [h]
        · exact .inr h
        · simp [h]
    · intro F w' w'' ty hc hF hrun
      have h2' := h2.kept hc (fun hk => hm2 (hF mb hk))
      obtain ⟨w3, hrun', hpm, hc'⟩ := h2'.drop hw (by rw [block_ent, hf]; rfl) ty
      rw [hrun'] at hrun
      have : w3 = w'' := by injection hrun
      subst this
      have hcc : Chg (mb :: F) w w3 := (hc.mono (G := mb :: F) (fun x hx => .inl (by simp [hx]))).trans hc' (by simp)
      refine ⟨⟨t :: mb :: (l1 ++ l2).flatMap (·.own), ⟨mb, l1 ++ l2, ?_, ?_, ?_, ?_, rfl, ?_⟩, ?_⟩, hcc⟩
      · refine hcc.obj h1 (fun hk => ?_)
        simp only [List.mem_cons] at hk
        rcases hk with hk | hk
        · exact ht0 hk
        · exact ht2 (hF t hk)
      · rw [del_ent l1 l2 e hids] at hpm
        exact hpm
      · intro x hx
        refine (h3 x (by simp at hx ⊢; rcases hx with h | h <;> simp [h])).kept hcc ?_
        intro k hk hkF
        simp only [List.mem_cons] at hkF
        simp at hx
        rcases hkF with rfl | hkF
        · rcases hx with hx | hx
          · exact hm1 (List.mem_flatMap.2 ⟨x, hx, hk⟩)
          · exact hm3 (List.mem_flatMap.2 ⟨x, hx, hk⟩)
        · have hke := hF k hkF
          rcases hx with hx | hx
          · exact hdis1 k (List.mem_flatMap.2 ⟨x, hx, hk⟩) k (.inl hke) rfl
          · exact hdis2 k hke k (List.mem_flatMap.2 ⟨x, hx, hk⟩) rfl
      · show Pi.del s.ps e.id = _
        rw [h4]
        unfold Pi.del
        exact del_ent l1 l2 e hids _
      · rw [List.flatMap_append]
        simp only [List.nodup_cons, List.mem_cons, List.mem_append, not_or, List.nodup_append]
        exact ⟨⟨ht0, ht1, ht3⟩, ⟨hm1, hm3⟩, hn1', hn2', fun a ha b hb => hdis1 a ha b (.inr hb)⟩
      · intro k hk
        rw [hflat]
        rw [List.flatMap_append] at hk
        simp only [List.mem_cons, List.mem_append] at hk ⊢
        rcases hk with h | h | h | h <;> simp [h]
    · intro F w' ty hc hF
      have h2' := h2.kept hc (fun hk => hm2 (hF mb hk))
      obtain ⟨w3, hrun', _⟩ := h2'.drop hw (by rw [block_ent, hf]; rfl) ty
      exact ⟨w3, hrun'⟩

end Go.Proofs.Ytihkanbkcnonoaa
