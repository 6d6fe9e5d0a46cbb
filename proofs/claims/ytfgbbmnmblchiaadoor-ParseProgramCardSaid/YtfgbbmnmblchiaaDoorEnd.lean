/-
  The end of a word: its token put behind the others. What reading a word leaves.
-/
import Derived.Test.YtfgbbmnmblchiaaDoorPm02
namespace Go.Proofs.YtfgbbmnmblchiaaDoor
open Go.RowKit
set_option linter.unusedVariables false

theorem Tryd.infoTok : (Tryd.prog.info? 65).map (fun i => (i.zero, i.size, i.bytes)) = some (some (.agg #[.int .i64 0, .string ⟨#[]⟩, .slice none 0 0, .int .i64 0]), 4, 56) := by kernel_rfl

def tokCells (k : Int) (t : List UInt8) (v : Value) (p : Nat) : List Value := [.int .i64 k, .string (Lx.strB t), v, .int .i64 p]

/-- what reading a word leaves. -/
def WordPost (w : World) (rb : Nat) (l : List UInt8) (vo : Value) (N : Nat) (xs : List Value) (q : Nat) (o : Lx.Res (List Lx.Part × Nat)) (e : Ending) (w' : World) : Prop :=
  match o with
  | .bad i => e = .returned (.int .i64 i) ∧ Chg [rb] w w'
  | .ok (ps, p) => e = .returned (.int .i64 (-1)) ∧ q ≤ p ∧ p ≤ l.length ∧ ∃ vo' a n, ReadAt w' rb l p vo' ∧
      Row w' 65 4 vo' (N + 1) (xs ++ tokCells 1 ((l.drop q).take (p - q)) (.slice a n n) q) ∧ PartsAt w' (.slice a n n) ps ∧ Chg (rb :: rowBlock vo) w w' ∧
      (∀ k ∈ rowBlock (.slice a n n), w.heap.size ≤ k ∧ k ∉ rowBlock vo') ∧ (∀ k ∈ rowBlock vo', k ∈ rowBlock vo ∨ w.heap.size ≤ k)

theorem one_tok (k : Int) (t : List UInt8) (a : Option Addr) (n c : Nat) (p : Nat) : ∀ u ∈ tokCells k t (.slice a n c) p, u.oneCell' = true := by
  intro u hu
  simp only [tokCells, List.mem_cons, List.not_mem_nil, or_false] at hu
  rcases hu with rfl | rfl | rfl | rfl <;> rfl

theorem word_fin {w W W4 W5 : World} {rb : Nat} {l : List UInt8} {a0 a : Option Addr} {N c0 p q n c : Nat} {ps : List Lx.Part} {xs : List Value} {v' : Value}
    (hI : QuotAt w rb l (.slice a0 N c0) (.slice none 0 0) p ps a n c W) (hO : Row w 65 4 (.slice a0 N c0) N xs) (hrb : rb ∉ rowBlock (.slice a0 N c0)) (hqp : q ≤ p)
    (h4 : Chg [] W W4) (h5 : W4.heap.size = W.heap.size + 1)
    (r5 : Row W5 65 4 v' (N + 1) (xs ++ tokCells 1 ((l.drop q).take (p - q)) (.slice a n n) q)) (q5 : Chg (rowBlock (.slice a0 N c0)) W4 W5) (g5 : ∀ x ∈ rowBlock v', x ∈ rowBlock (.slice a0 N c0) ∨ W4.heap.size ≤ x) :
    WordPost w rb l (.slice a0 N c0) N xs q (.ok (ps, p)) (.returned (.int .i64 (-1))) (W5.setCell ⟨rb, 2, none⟩ v') := by
  have hnc := hI.parts.len
  have hC : Chg (rowBlock (.slice a0 N c0)) W W5 := (h4.mono (by simp)).trans q5 (fun x hx => .inl hx)
  have hlt := hI.read.lt
  have hWW : W.heap.size ≤ W5.heap.size := hC.size
  have hrv : rb ∉ rowBlock v' := fun h => by
    rcases g5 rb h with h1 | h1
    · exact hrb h1
    · omega
  have h6 : Chg [rb] W5 (W5.setCell ⟨rb, 2, none⟩ v') := (Chg.refl [rb] W5).setCell _ _ (.inl (by simp))
  have hold : ∀ k ∈ rowBlock (.slice a0 N c0), k < w.heap.size := Row.block_lt hO
  have hbl : ∀ k ∈ rowBlock (.slice a n n), k ∈ rowBlock (.slice a n c) := rowBlock_clip a n n c hnc.2.1
  have hne : ∀ k ∈ rowBlock (.slice a n n), k ∉ rowBlock (.slice a0 N c0) := fun k hk h => by
    have h1 := hold k h
    rcases hI.row k (hbl k hk) with h2 | h2
    · simp [rowBlock] at h2
    · omega
  have hP : PartsAt W (.slice a n n) ps := by
    have := hI.parts
    unfold PartsAt at this ⊢
    rw [← hnc.1] at this ⊢
    exact Row.clip this
  have hplt : ∀ k ∈ rowBlock (.slice a n n), k < W.heap.size := Row.block_lt hP
  refine ⟨rfl, hqp, hI.le, v', a, n, (hI.read.kept hC hrb).setOut v', r5.kept h6 (fun k hk => by simp only [List.mem_singleton]; rintro rfl; exact hrv hk), (hP.kept hC hne).kept h6 (fun k hk => by simp only [List.mem_singleton]; rintro rfl; exact hI.out (hbl _ hk)), ?_, ?_, ?_⟩
  · have e1 : Chg (rb :: rowBlock (.slice a0 N c0)) w W := hI.chg.mono (fun k hk => by rcases List.mem_cons.1 hk with rfl | hk; exact .inl (by simp); simp [rowBlock] at hk)
    exact (e1.trans hC (fun k hk => .inl (List.mem_cons_of_mem _ hk))).trans h6 (fun k hk => .inl (by simp at hk; subst hk; simp))
  · intro k hk
    refine ⟨?_, fun h => ?_⟩
    · rcases hI.row k (hbl k hk) with h2 | h2
      · simp [rowBlock] at h2
      · exact h2
    · have h1 := hplt k hk
      rcases g5 k h with h2 | h2
      · exact hne k hk h2
      · omega
  · intro k hk
    rcases g5 k hk with h2 | h2
    · exact .inl h2
    · have := hI.chg.size
      exact .inr (by omega)

theorem QuotAt.kept0 {w W W' : World} {rb : Nat} {l : List UInt8} {vo v : Value} {p : Nat} {ps : List Lx.Part} {a : Option Addr} {n c : Nat} (hI : QuotAt w rb l vo v p ps a n c W) (h : Chg [] W W') : QuotAt w rb l vo v p ps a n c W' :=
  hI.next (hI.parts.kept0 h) (hI.read.kept0 h) (h.mono (by simp)) (fun k hk => .inl hk) hI.sm hI.le

theorem plain_facts (r : List UInt8) : plainLen r ≤ r.length ∧ (∀ j, j < plainLen r → Lx.specB (r.getD j 0) = false) ∧ (plainLen r < r.length → Lx.specB (r.getD (plainLen r) 0) = true) := by
  unfold plainLen
  induction r with
  | nil => simp
  | cons c t ih =>
    cases h : Lx.specB c with
    | true => simp [h]
    | false =>
      simp only [List.takeWhile_cons, h, Bool.not_false, if_true, List.length_cons]
      refine ⟨by omega, fun j hj => ?_, fun hj => ?_⟩
      · cases j with
        | zero => exact h
        | succ j => exact ih.2.1 j (by omega)
      · exact ih.2.2 (by omega)

def scopeIn : Code → Option Code
  | .scope c => some c
  | .seq x y => match scopeIn x with
    | some c => some c
    | none => scopeIn y
  | _ => none

/-- what lies in the scope of a word's reading. -/
noncomputable def wordScope : Code := ((Tryd.f24.body).bind scopeIn).getD .skip

set_option maxHeartbeats 4000000 in
set_option maxRecDepth 100000 in
theorem word_end (rb : Nat) (l : List UInt8) (a0 : Option Addr) (N c0 : Nat) (xs : List Value) (q : Nat) (w W8 : World) (p : Nat) (ps : List Lx.Part) (a : Option Addr) (n c : Nat) (us : Nat → Value)
    (hO : Row w 65 4 (.slice a0 N c0) N xs) (hrb : rb ∉ rowBlock (.slice a0 N c0)) (hl : l.length ≤ 2048) (hN : N ≤ 2048) (hqp : q ≤ p) (hI : QuotAt w rb l (.slice a0 N c0) (.slice none 0 0) p ps a n c W8)
    (r1 : Code) (h1 : findLabel wordScope 1 = some (.seq .skip r1)) : r1.wp Tryd.prog (Exit.noGoto (bodyPost Tryd.prog Tryd.f24 (WordPost w rb l (.slice a0 N c0) N xs q (.ok (ps, p))))) { tmps := WordAct rb q (.slice a n c) us, defers := [] } W8 := by
  have e : findLabel wordScope 1 = some (.seq .skip _) := rfl
  rw [e] at h1
  cases h1
  obtain ⟨i0, hi, hz0, hz1, hz2⟩ := info_parts Tryd.infoTok
  have HI8 := Lib.hid hI
  have HO := Lib.hid hO
  have HRB := Lib.hid hrb
  have hle2 := hI.le
  have hsz := Lx.strB_size l
  clear hI hO hrb
  have q0 : (0 : Int) ≤ (q : Int) := by omega
  have q1 : (q : Int) ≤ (p : Int) := by omega
  have q2 : (p : Int) ≤ (l.length : Int) := by omega
  simp only [WordAct]
  have z0 := HI8.out.read.c0
  have z1 := HI8.out.read.c1
  have z2 := HI8.out.read.c2
  have za := fun (o : Obj) => ((Chg.refl [] W8).alloc o).cell z2 (by simp)
  have HO8 := Lib.hid (HO.out.kept HI8.out.chg (fun k hk => by simp only [rowBlock, List.mem_singleton]; rintro rfl; exact HRB.out hk))
  have hln := HI8.out.parts.len
  have HCL := Lib.hid (clip_parts a n c hln.2.1 hln.2.2)
  clear hln
  have hxq := Lib.hid (show (Lx.strB l).extract q p = Lx.strB ((l.drop q).take (p - q)) from by rw [Lx.strB_extract])
  have hxx := hxq.out
  go_wp2_with fail
  go_region_law ((first
    | (refine step_append_row (by rfl) _ _ 55 (by rfl) 65 i0 _ 4 56 Tryd.underlying55 hi hz0 hz1 hz2 (by rfl) (by decide) _ N xs (by rfl) (HO8.out.kept0 ((Chg.refl [] _).drew.alloc _)) _ 1 1 (tokCells 1 ((l.drop q).take (p - q)) (.slice a n n) q) (by rfl) (by simp [tokCells]) (srcNew _ _ _ _) (one_tok _ _ _ _ _ _) (by unfold maxLen; omega) (by omega) ?_; intro v' w5 r5 q5 g5; obtain ⟨a', cap, rfl, _⟩ := r5.shape; have kf := ((HI8.out.read.kept0 ((Chg.refl [] _).drew.alloc _)).kept q5 HRB.out).free 2; have kc := ((HI8.out.read.kept0 ((Chg.refl [] _).drew.alloc _)).kept q5 HRB.out).c2; have FIN := Lib.hid (word_fin HI8.out HO.out HRB.out hqp ((Chg.refl [] _).drew.alloc _) (by simp) r5 q5 g5); clear r5 q5 g5)
    | (go_simp; refine (HCL.out _).mono ?_; rintro e w3 ⟨rfl, rfl⟩)))
  all_goals
    go_wp2
    simp only [Exit.noGoto_ret]
    go_ret
    exact FIN.out

end Go.Proofs.YtfgbbmnmblchiaaDoor
