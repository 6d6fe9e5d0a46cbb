/-
  PipeOrder, walked.
-/
import Derived.Test.YtihkanbkcnonoaaOne
import Derived.Deep.RegionHeld3
namespace Go.Proofs.Ytihkanbkcnonoaa
open Go.RowKit Go.Maps
set_option linter.unusedVariables false

/-- a slice of slices of bytes that came in. -/
structure Pieces (w : World) (a : Option Addr) (n cp : Nat) (ps : List (List UInt8)) : Prop where
  len : ps.length = n
  cap : n ≤ cp ∧ cp ≤ maxLen
  at_ : ∀ k, k < n → ∃ b off ak ck, a = some ⟨b, off, none⟩ ∧ w.cell? ⟨b, off + k, none⟩ = some (.slice ak (ps.getD k []).length ck) ∧ (ps.getD k []).length ≤ ck ∧ ck ≤ maxLen ∧ SrcAt w ak ((ps.getD k []).map byteV)

def L4 : Pi.Lab := ⟨[4], []⟩

/-- the label of the law: its struct in block B, its one tag in block C. -/
structure Lab4 (w : World) (B C : Nat) : Prop where
  c0 : w.cell? ⟨B, 0, none⟩ = some (.slice (some ⟨C, 0, none⟩) 1 1)
  c1 : w.cell? ⟨B, 1, none⟩ = some (.slice none 0 0)
  tag : w.cell? ⟨C, 0, none⟩ = some (.int .i64 4)

theorem Lab4.same {w w' : World} {B C : Nat} {X : List Nat} (h : Lab4 w B C) (hs : Same X w w') (hB : B ∈ X) (hC : C ∈ X) : Lab4 w' B C := ⟨hs.cell h.c0 hB, hs.cell h.c1 hB, hs.cell h.tag hC⟩
theorem Lab4.kept {w w' : World} {B C : Nat} {F : List Nat} (h : Lab4 w B C) (hc : Chg F w w') (hB : B ∉ F) (hC : C ∉ F) : Lab4 w' B C := ⟨hc.cell h.c0 hB, hc.cell h.c1 hB, hc.cell h.tag hC⟩
theorem Lab4.lab {w : World} {B C : Nat} (h : Lab4 w B C) : LabAt w (some ⟨C, 0, none⟩) 1 1 none 0 0 L4 :=
  ⟨⟨rfl, Nat.le_refl _, by decide, fun _ => ⟨C, 0, rfl, fun j u hj => by
    match j with
    | 0 => simp [L4] at hj; subst hj; exact h.tag
    | j + 1 => simp [L4] at hj⟩⟩, ⟨rfl, Nat.le_refl _, Nat.zero_le _, by simp [SrcAt, L4]⟩⟩

/-- what holds at the loop's head: what was written and counted is what was read and what is still in the pipe. -/
structure Turn (w wr : World) (t B C : Nat) (v1 v2 : Value) (I O b : List UInt8) : Prop where
  cat : I = O ++ b
  room : b.length ≤ 256
  r1 : Row wr 5 1 v1 I.length (I.map byteV)
  r2 : Row wr 5 1 v2 O.length (O.map byteV)
  at_ : At w wr t (one L4 b 1 1) (B :: C :: (rowBlock v1 ++ rowBlock v2))
  lab : Lab4 wr B C
  apart : (B :: C :: (rowBlock v1 ++ rowBlock v2)).Nodup
  new : ∀ k ∈ B :: C :: (rowBlock v1 ++ rowBlock v2), w.heap.size ≤ k

/-- behind a call on the table. -/
theorem Turn.call {w wr w' : World} {t B C : Nat} {v1 v2 : Value} {I O b b' : List UInt8} (h : Turn w wr t B C v1 v2 I O b) (hat : At w w' t (one L4 b' 1 1) (B :: C :: (rowBlock v1 ++ rowBlock v2)))
    (hs : Same (B :: C :: (rowBlock v1 ++ rowBlock v2)) wr w') :
    Row w' 5 1 v1 I.length (I.map byteV) ∧ Row w' 5 1 v2 O.length (O.map byteV) ∧ Lab4 w' B C :=
  ⟨h.r1.same hs (fun k hk => by simp [hk]), h.r2.same hs (fun k hk => by simp [hk]), h.lab.same hs (by simp) (by simp)⟩

theorem Turn.drew {w wr : World} {t B C : Nat} {v1 v2 : Value} {I O b : List UInt8} (h : Turn w wr t B C v1 v2 I O b) : Turn w wr.drew t B C v1 v2 I O b := ⟨h.cat, h.room, h.r1.drew, h.r2.drew, h.at_.drew, h.lab.kept (Chg.refl [] wr).drew (by simp) (by simp), h.apart, h.new⟩

/-- behind an append to 'in'. -/
theorem turn_in {w w1 w2 : World} {t B C : Nat} {v1 v2 v' : Value} {I O b b' d : List UInt8} (hat : At w w1 t (one L4 b' 1 1) (B :: C :: (rowBlock v1 ++ rowBlock v2)))
    (r2 : Row w1 5 1 v2 O.length (O.map byteV)) (hl : Lab4 w1 B C) (hap : (B :: C :: (rowBlock v1 ++ rowBlock v2)).Nodup) (hnew : ∀ k ∈ B :: C :: (rowBlock v1 ++ rowBlock v2), w.heap.size ≤ k)
    (hrow : Row w2 5 1 v' (I.length + d.length) (I.map byteV ++ d.map byteV)) (hc : Chg (rowBlock v1) w1 w2) (hsub : ∀ k ∈ rowBlock v', k ∈ rowBlock v1 ∨ w1.heap.size ≤ k)
    (hcat : I = O ++ b) (hb : b' = b ++ d) (hroom : b'.length ≤ 256) : Turn w w2 t B C v' v2 (I ++ d) O b' := by
  have hlt := hat.lt
  have hlt2 := hrow.block_lt
  have hw := hat.chg.size
  have hs := hc.size
  simp only [List.nodup_cons, List.mem_cons, List.mem_append, not_or, List.nodup_append] at hap
  obtain ⟨⟨a1, a2, a3⟩, ⟨a4, a5⟩, a6, a7, a8⟩ := hap
  have h2 : ∀ k ∈ rowBlock v2, k ∉ rowBlock v1 := fun k hk hk1 => a8 k hk1 k hk rfl
  refine ⟨by rw [hcat, hb, List.append_assoc], hroom, by simpa using hrow, r2.kept hc h2, ?_, hl.kept hc a2 a4, ?_, ?_⟩
  · refine hat.turn hc (fun k hk => by simp [hk]) (fun k hk => hnew k (by simp [hk])) (fun k hk => ?_)
    simp only [List.mem_cons, List.mem_append] at hk ⊢
    rcases hk with h | h | h | h
    · exact ⟨.inl (.inl h), by have := hlt k (by simp [h]); omega⟩
    · exact ⟨.inl (.inr (.inl h)), by have := hlt k (by simp [h]); omega⟩
    · exact ⟨(hsub k h).imp (fun h => .inr (.inr (.inl h))) (fun h => h), hlt2 k h⟩
    · exact ⟨.inl (.inr (.inr (.inr h))), by have := hlt k (by simp [h]); omega⟩
  · simp only [List.nodup_cons, List.mem_cons, List.mem_append, not_or, List.nodup_append]
    have hBC : ∀ k, k < w1.heap.size → k ∉ rowBlock v1 → k ∉ rowBlock v' := fun k h1 h2 h3 => by
      rcases hsub k h3 with h | h
      · exact h2 h
      · omega
    refine ⟨⟨a1, hBC B (hlt B (by simp)) a2, a3⟩, ⟨hBC C (hlt C (by simp)) a4, a5⟩, rowBlock_nodup _, a7, fun x hx y hy exy => ?_⟩
    subst exy
    exact hBC x (hlt x (by simp [hy])) (h2 x hy) hx
  · intro k hk
    simp only [List.mem_cons, List.mem_append] at hk
    rcases hk with h | h | h | h
    · exact hnew k (by simp [h])
    · exact hnew k (by simp [h])
    · rcases hsub k h with h | h
      · exact hnew k (by simp [h])
      · omega
    · exact hnew k (by simp [h])

/-- behind an append to 'out'. -/
theorem turn_out {w w1 w2 : World} {t B C : Nat} {v1 v2 v' : Value} {I O d rest : List UInt8} (hat : At w w1 t (one L4 rest 1 1) (B :: C :: (rowBlock v1 ++ rowBlock v2)))
    (r1 : Row w1 5 1 v1 I.length (I.map byteV)) (hl : Lab4 w1 B C) (hap : (B :: C :: (rowBlock v1 ++ rowBlock v2)).Nodup) (hnew : ∀ k ∈ B :: C :: (rowBlock v1 ++ rowBlock v2), w.heap.size ≤ k)
    (hrow : Row w2 5 1 v' (O.length + d.length) (O.map byteV ++ d.map byteV)) (hc : Chg (rowBlock v2) w1 w2) (hsub : ∀ k ∈ rowBlock v', k ∈ rowBlock v2 ∨ w1.heap.size ≤ k)
    (hcat : I = O ++ (d ++ rest)) (hroom : rest.length ≤ 256) : Turn w w2 t B C v1 v' I (O ++ d) rest := by
  have hlt := hat.lt
  have hlt2 := hrow.block_lt
  have hw := hat.chg.size
  have hs := hc.size
  simp only [List.nodup_cons, List.mem_cons, List.mem_append, not_or, List.nodup_append] at hap
  obtain ⟨⟨a1, a2, a3⟩, ⟨a4, a5⟩, a6, a7, a8⟩ := hap
  have h2 : ∀ k ∈ rowBlock v1, k ∉ rowBlock v2 := fun k hk hk1 => a8 k hk k hk1 rfl
  refine ⟨by rw [hcat, List.append_assoc], hroom, r1.kept hc h2, by simpa using hrow, ?_, hl.kept hc a3 a5, ?_, ?_⟩
  · refine hat.turn hc (fun k hk => by simp [hk]) (fun k hk => hnew k (by simp [hk])) (fun k hk => ?_)
    simp only [List.mem_cons, List.mem_append] at hk ⊢
    rcases hk with h | h | h | h
    · exact ⟨.inl (.inl h), by have := hlt k (by simp [h]); omega⟩
    · exact ⟨.inl (.inr (.inl h)), by have := hlt k (by simp [h]); omega⟩
    · exact ⟨.inl (.inr (.inr (.inl h))), by have := hlt k (by simp [h]); omega⟩
    · exact ⟨(hsub k h).imp (fun h => .inr (.inr (.inr h))) (fun h => h), hlt2 k h⟩
  · simp only [List.nodup_cons, List.mem_cons, List.mem_append, not_or, List.nodup_append]
    have hBC : ∀ k, k < w1.heap.size → k ∉ rowBlock v2 → k ∉ rowBlock v' := fun k h1 h2 h3 => by
      rcases hsub k h3 with h | h
      · exact h2 h
      · omega
    refine ⟨⟨a1, a2, hBC B (hlt B (by simp)) a3⟩, ⟨a4, hBC C (hlt C (by simp)) a5⟩, a6, rowBlock_nodup _, fun x hx y hy exy => ?_⟩
    subst exy
    exact hBC x (hlt x (by simp [hx])) (h2 x hx) hy
  · intro k hk
    simp only [List.mem_cons, List.mem_append] at hk
    rcases hk with h | h | h | h
    · exact hnew k (by simp [h])
    · exact hnew k (by simp [h])
    · exact hnew k (by simp [h])
    · rcases hsub k h with h | h
      · exact hnew k (by simp [h])
      · omega

end Go.Proofs.Ytihkanbkcnonoaa
