/-
  What the walks of Write and Read know of the memory, and what they leave.
-/
import Derived.Test.YtihkanbkcnonoaaDrop
namespace Go.Proofs.Ytihkanbkcnonoaa
open Go.RowKit Go.Maps
set_option linter.unusedVariables false

/-- What the walks of Write and Read know of the memory: the label of who asks, in a block of its own; the pipe's struct and rows; the bytes that are handed in. -/
structure Known (w : World) (B pb : Nat) (a1 : Option Addr) (n1 c1 : Nat) (a2 : Option Addr) (n2 c2 : Nat) (wl : Pi.Lab) (s1 : Option Addr) (k1 e1 : Nat) (s2 : Option Addr) (k2 e2 : Nat) (av : Option Addr) (cv : Nat) (p : Pi.Pp) (ab : Option Addr) (bs : List UInt8) : Prop where
  box0 : w.cell? ⟨B, 0, none⟩ = some (.slice a1 n1 c1)
  box1 : w.cell? ⟨B, 1, none⟩ = some (.slice a2 n2 c2)
  obj : w.heap[pb]? = some (.cells #[.slice s1 k1 e1, .slice s2 k2 e2, .slice av p.b.length cv, .int .i64 p.readers, .int .i64 p.heirs] 64 (0, 0))
  mine : LabAt w a1 n1 c1 a2 n2 c2 wl
  rs : Row w 3 1 (.slice s1 k1 e1) k1 (p.lab.S.map (Value.int .i64))
  ri : Row w 3 1 (.slice s2 k2 e2) k2 (p.lab.I.map (Value.int .i64))
  rb : Row w 5 1 (.slice av p.b.length cv) p.b.length (p.b.map byteV)
  src : SrcAt w ab (bs.map byteV)

theorem Known.kept0 {w w' : World} {B pb : Nat} {a1 : Option Addr} {n1 c1 : Nat} {a2 : Option Addr} {n2 c2 : Nat} {wl : Pi.Lab} {s1 : Option Addr} {k1 e1 : Nat} {s2 : Option Addr} {k2 e2 : Nat} {av : Option Addr} {cv : Nat} {p : Pi.Pp} {ab : Option Addr} {bs : List UInt8}
    (h : Known w B pb a1 n1 c1 a2 n2 c2 wl s1 k1 e1 s2 k2 e2 av cv p ab bs) (hc : Chg [] w w') : Known w' B pb a1 n1 c1 a2 n2 c2 wl s1 k1 e1 s2 k2 e2 av cv p ab bs :=
  ⟨hc.cell h.box0 (by simp), hc.cell h.box1 (by simp), hc.obj h.obj (by simp), h.mine.kept0 hc, h.rs.kept0 hc, h.ri.kept0 hc, h.rb.kept0 hc, h.src.kept0 hc⟩

theorem Known.drew {w : World} {B pb : Nat} {a1 : Option Addr} {n1 c1 : Nat} {a2 : Option Addr} {n2 c2 : Nat} {wl : Pi.Lab} {s1 : Option Addr} {k1 e1 : Nat} {s2 : Option Addr} {k2 e2 : Nat} {av : Option Addr} {cv : Nat} {p : Pi.Pp} {ab : Option Addr} {bs : List UInt8}
    (h : Known w B pb a1 n1 c1 a2 n2 c2 wl s1 k1 e1 s2 k2 e2 av cv p ab bs) : Known w.drew B pb a1 n1 c1 a2 n2 c2 wl s1 k1 e1 s2 k2 e2 av cv p ab bs :=
  h.kept0 (Chg.refl [] w).drew

theorem Row.nums {w : World} {a : Option Addr} {n c : Nat} {zs : List Int} (h : Row w 3 1 (.slice a n c) n (zs.map (Value.int .i64))) : Nums w a n c zs := by
  obtain ⟨a', c', hv, h1, h2⟩ := h.shape
  cases hv
  exact ⟨by have := h.1; simpa using this, h1, h2, h.src⟩

theorem Known.its {w : World} {B pb : Nat} {a1 : Option Addr} {n1 c1 : Nat} {a2 : Option Addr} {n2 c2 : Nat} {wl : Pi.Lab} {s1 : Option Addr} {k1 e1 : Nat} {s2 : Option Addr} {k2 e2 : Nat} {av : Option Addr} {cv : Nat} {p : Pi.Pp} {ab : Option Addr} {bs : List UInt8}
    (h : Known w B pb a1 n1 c1 a2 n2 c2 wl s1 k1 e1 s2 k2 e2 av cv p ab bs) : LabAt w s1 k1 e1 s2 k2 e2 p.lab := ⟨h.rs.nums, h.ri.nums⟩

/-- the cells that the walk loads. -/
theorem Known.cells {w : World} {B pb : Nat} {a1 : Option Addr} {n1 c1 : Nat} {a2 : Option Addr} {n2 c2 : Nat} {wl : Pi.Lab} {s1 : Option Addr} {k1 e1 : Nat} {s2 : Option Addr} {k2 e2 : Nat} {av : Option Addr} {cv : Nat} {p : Pi.Pp} {ab : Option Addr} {bs : List UInt8}
    (h : Known w B pb a1 n1 c1 a2 n2 c2 wl s1 k1 e1 s2 k2 e2 av cv p ab bs) :
    w.cell? ⟨B, 0, none⟩ = some (.slice a1 n1 c1) ∧ w.cell? ⟨B, 1, none⟩ = some (.slice a2 n2 c2) ∧ w.cell? ⟨pb, 0, none⟩ = some (.slice s1 k1 e1) ∧ w.cell? ⟨pb, 1, none⟩ = some (.slice s2 k2 e2) ∧ w.cell? ⟨pb, 2, none⟩ = some (.slice av p.b.length cv) ∧
    w.cell? ⟨pb, 3, none⟩ = some (.int .i64 p.readers) ∧ w.cell? ⟨pb, 4, none⟩ = some (.int .i64 p.heirs) ∧ w.frozen? ⟨pb, 2, none⟩ = false :=
  ⟨h.box0, h.box1, cell_of_obj h.obj rfl, cell_of_obj h.obj rfl, cell_of_obj h.obj rfl, cell_of_obj h.obj rfl, cell_of_obj h.obj rfl, free_of_obj h.obj _⟩

/-- what the table's invariant says of every pipe. -/
def Fine (s : Pi.Tb) : Prop := ∀ x ∈ s.ps, Pi.mayB x.2.lab = true ∧ x.2.b.length ≤ 256

theorem may_len {l : Pi.Lab} (h : Pi.mayB l = true) : l.S.length ≤ 16 ∧ l.I.length ≤ 16 := by
  unfold Pi.mayB Pi.setB at h
  simp at h
  exact ⟨h.1.2, h.2.2⟩

theorem bytes_one (bs : List UInt8) (n : Nat) : ∀ u ∈ (bs.take n).map byteV, u.oneCell' = true := by
  intro u hu
  obtain ⟨x, _, rfl⟩ := List.mem_map.1 hu
  rfl

theorem bytes_all (bs : List UInt8) : ∀ u ∈ bs.map byteV, u.oneCell' = true := by
  intro u hu
  obtain ⟨x, _, rfl⟩ := List.mem_map.1 hu
  rfl

theorem Known.nil {w : World} {B pb : Nat} {a1 : Option Addr} {n1 c1 : Nat} {a2 : Option Addr} {n2 c2 : Nat} {wl : Pi.Lab} {s1 : Option Addr} {k1 e1 : Nat} {s2 : Option Addr} {k2 e2 : Nat} {av : Option Addr} {cv : Nat} {p : Pi.Pp} {ab : Option Addr} {bs : List UInt8}
    (h : Known w B pb a1 n1 c1 a2 n2 c2 wl s1 k1 e1 s2 k2 e2 av cv p ab bs) (hn : av = none) : p.b.length = 0 := by
  by_cases h0 : p.b = []
  · rw [h0]; rfl
  · obtain ⟨b, off, e, _⟩ := h.rb.src (by simpa using h0)
    rw [hn] at e
    cases e

theorem src_drop {w : World} {a : Option Addr} {xs : List Value} (h : SrcAt w a xs) (m : Nat) : SrcAt w (a.map fun x => x.add m) (xs.drop m) := by
  intro hne
  obtain ⟨b, off, rfl, hb⟩ := h (by intro e; rw [e] at hne; simp at hne)
  refine ⟨b, off + m, ?_, fun j u hj => ?_⟩
  · by_cases h0 : m = 0
    · subst h0; rfl
    · simp [Addr.add, h0]
  · rw [List.getElem?_drop] at hj
    have := hb _ u hj
    rwa [Nat.add_assoc]

theorem ret2_i64 {a b c d : Int} (h : a = b) (k : c = d) : Ending.returned (.tuple #[.int .i64 a, .int .i64 c]) = .returned (.tuple #[.int .i64 b, .int .i64 d]) := by rw [h, k]

theorem SrcAt.take {w : World} {a : Option Addr} {xs : List Value} (h : SrcAt w a xs) (n : Nat) : SrcAt w a (xs.take n) := by
  intro hne
  obtain ⟨b, off, rfl, hb⟩ := h (by intro e; rw [e] at hne; simp at hne)
  refine ⟨b, off, rfl, fun j u hj => hb j u ?_⟩
  rw [List.getElem?_take] at hj
  split at hj
  · exact hj
  · cases hj

theorem rowBlock_nodup (v : Value) : (rowBlock v).Nodup := by
  cases v with
  | slice a n c =>
    cases a with
    | none => simp [rowBlock]
    | some a => simp only [rowBlock]; split <;> simp
  | _ => simp [rowBlock]

/-- The pipe's bytes are another row now: the pipe behind the store. -/
theorem Known.stored {w w' : World} {B pb : Nat} {a1 : Option Addr} {n1 c1 : Nat} {a2 : Option Addr} {n2 c2 : Nat} {wl : Pi.Lab} {s1 : Option Addr} {k1 e1 : Nat} {s2 : Option Addr} {k2 e2 : Nat} {av : Option Addr} {cv : Nat} {p : Pi.Pp} {ab : Option Addr} {bs : List UInt8}
    (h : Known w B pb a1 n1 c1 a2 n2 c2 wl s1 k1 e1 s2 k2 e2 av cv p ab bs) {po : List Nat}
    (hpo : po = pb :: (rowBlock (.slice s1 k1 e1) ++ rowBlock (.slice s2 k2 e2) ++ rowBlock (.slice av p.b.length cv))) (hnd : po.Nodup)
    (hc : Chg (rowBlock (.slice av p.b.length cv)) w w') (v' : Value) (b' : List UInt8) (hrow : Row w' 5 1 v' b'.length (b'.map byteV)) (hsub : ∀ k ∈ rowBlock v', k ∈ rowBlock (.slice av p.b.length cv) ∨ w.heap.size ≤ k) :
    ∃ po', PipeAt (w'.setCell ⟨pb, 2, none⟩ v') pb po' { p with b := b' } ∧ po'.Nodup ∧ (∀ k ∈ po', k ∈ po ∨ w.heap.size ≤ k) ∧ Chg po w (w'.setCell ⟨pb, 2, none⟩ v') := by
  have hlt1 := h.rs.block_lt
  have hlt2 := h.ri.block_lt
  have hltp := lt_of_obj h.obj
  subst hpo
  have hnd0 := hnd
  simp only [List.nodup_cons, List.mem_append, not_or, List.nodup_append] at hnd
  obtain ⟨⟨⟨m1, m2⟩, m3⟩, ⟨d1, d2, d12⟩, d3, d123⟩ := hnd
  have hob := hc.obj h.obj m3
  have hset := (Chg.refl [pb] w').setCell ⟨pb, 2, none⟩ v' (by simp)
  have hpv : pb ∉ rowBlock v' := by
    intro hk
    rcases hsub pb hk with h | h
    · exact m3 h
    · omega
  refine ⟨pb :: (rowBlock (.slice s1 k1 e1) ++ rowBlock (.slice s2 k2 e2) ++ rowBlock v'), ⟨s1, k1, e1, s2, k2, e2, v', obj_setCell hob _ _, ?_, ?_, ?_, rfl⟩, ?_, ?_, ?_⟩
  · exact (h.rs.kept hc (fun k hk hk' => d123 k (.inl hk) k hk' rfl)).kept hset (by intro k hk he; simp at he; subst he; exact m1 hk)
  · exact (h.ri.kept hc (fun k hk hk' => d123 k (.inr hk) k hk' rfl)).kept hset (by intro k hk he; simp at he; subst he; exact m2 hk)
  · exact hrow.kept hset (by intro k hk he; simp at he; subst he; exact hpv hk)
  · simp only [List.nodup_cons, List.mem_append, not_or, List.nodup_append]
    refine ⟨⟨⟨m1, m2⟩, hpv⟩, ⟨d1, d2, d12⟩, rowBlock_nodup _, ?_⟩
    intro a ha b hb eab
    subst eab
    rcases hsub a hb with h | h
    · exact d123 a ha a h rfl
    · rcases ha with ha | ha
      · have := hlt1 a ha; omega
      · have := hlt2 a ha; omega
  · intro k hk
    simp only [List.mem_cons, List.mem_append] at hk ⊢
    rcases hk with hk | (hk | hk) | hk
    · simp [hk]
    · simp [hk]
    · simp [hk]
    · rcases hsub k hk with h | h
      · simp [h]
      · exact .inr h
  · exact (hc.mono (fun x hx => .inl (by simp [hx]))).trans hset (by simp)

/-- What is left of the table, where one pipe has turned. -/
theorem left_put' {w wb wk w' : World} {t : Nat} {own : List Nat} {s : Pi.Tb} {id : Int} {pb : Nat} {po : List Nat} {q : Pi.Pp} {po' : List Nat}
    (hput : ∀ (F : List Nat) (w' : World) (q : Pi.Pp) (po' : List Nat), Chg F wb w' → (∀ k ∈ F, k ∈ po) → PipeAt w' pb po' q → po'.Nodup → (∀ k ∈ po', k ∈ po ∨ wb.heap.size ≤ k) →
      ∃ own', Tab w' t own' { s with ps := Pi.put s.ps id q } ∧ ∀ k ∈ own', k ∈ own ∨ k ∈ po')
    (h0 : Chg [] w wb) (hb : Chg [] wb wk) (hsub : ∀ k ∈ po, k ∈ own) (hq : PipeAt w' pb po' q) (hn : po'.Nodup) (hs : ∀ k ∈ po', k ∈ po ∨ wk.heap.size ≤ k) (hc : Chg po wk w') :
    ∃ own', Tab w' t own' { s with ps := Pi.put s.ps id q } ∧ (∀ k ∈ own', k ∈ own ∨ (k ∈ po' ∧ wk.heap.size ≤ k)) ∧ Chg own w w' := by
  have hc' : Chg po wb w' := (hb.mono (by simp)).trans hc (fun x hx => .inl hx)
  obtain ⟨own', h1, h2⟩ := hput po w' q po' hc' (fun _ h => h) hq hn (fun k hk => (hs k hk).imp (fun h => h) (fun h => Nat.le_trans hb.size h))
  refine ⟨own', h1, fun k hk => ?_, ?_⟩
  · rcases h2 k hk with h | h
    · exact .inl h
    · rcases hs k h with h' | h'
      · exact .inl (hsub k h')
      · exact .inr ⟨h, h'⟩
  · exact ((h0.mono (by simp)).trans hc' (fun x hx => .inl hx)).mono (fun x hx => .inl (hsub x hx))

theorem left_put {w wb wk w' : World} {t : Nat} {own : List Nat} {s : Pi.Tb} {id : Int} {pb : Nat} {po : List Nat} {q : Pi.Pp} {po' : List Nat}
    (hput : ∀ (F : List Nat) (w' : World) (q : Pi.Pp) (po' : List Nat), Chg F wb w' → (∀ k ∈ F, k ∈ po) → PipeAt w' pb po' q → po'.Nodup → (∀ k ∈ po', k ∈ po ∨ wb.heap.size ≤ k) →
      ∃ own', Tab w' t own' { s with ps := Pi.put s.ps id q } ∧ ∀ k ∈ own', k ∈ own ∨ k ∈ po')
    (h0 : Chg [] w wb) (hb : Chg [] wb wk) (hsub : ∀ k ∈ po, k ∈ own) (hq : PipeAt w' pb po' q) (hn : po'.Nodup) (hs : ∀ k ∈ po', k ∈ po ∨ wk.heap.size ≤ k) (hc : Chg po wk w') :
    Left1 w w' t own { s with ps := Pi.put s.ps id q } := by
  obtain ⟨own', h1, h2, h3⟩ := left_put' hput h0 hb hsub hq hn hs hc
  exact ⟨own', h1, fun k hk => (h2 k hk).imp (fun h => h) (fun h => Nat.le_trans (Nat.le_trans h0.size hb.size) h.2), h3⟩

theorem left_same {w wb wk : World} {t : Nat} {own : List Nat} {s : Pi.Tb} (h : Tab wb t own s) (h0 : Chg [] w wb) (hb : Chg [] wb wk) : Left1 w wk t own s :=
  ⟨own, h.kept0 hb, fun k hk => .inl hk, (h0.then0 hb).mono (by simp)⟩

end Go.Proofs.Ytihkanbkcnonoaa
