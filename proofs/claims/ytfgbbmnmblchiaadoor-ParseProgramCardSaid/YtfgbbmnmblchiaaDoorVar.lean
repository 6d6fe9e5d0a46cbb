/-
  A dollar read into a word's pieces: walked.
-/
import Derived.Test.YtfgbbmnmblchiaaDoorPm01
namespace Go.Proofs.YtfgbbmnmblchiaaDoor
open Go.RowKit
set_option linter.unusedVariables false

/-- the reader's struct. -/
def ReadAt (w : World) (rb : Nat) (l : List UInt8) (p : Nat) (vo : Value) : Prop := w.heap[rb]? = some (.cells #[.string (Lx.strB l), .int .i64 p, vo] 88 (0, 0))

theorem ReadAt.kept {w w' : World} {F : List Nat} {rb : Nat} {l : List UInt8} {p : Nat} {vo : Value} (h : ReadAt w rb l p vo) (hc : Chg F w w') (hne : rb ∉ F) : ReadAt w' rb l p vo := hc.obj h hne
theorem ReadAt.kept0 {w w' : World} {rb : Nat} {l : List UInt8} {p : Nat} {vo : Value} (h : ReadAt w rb l p vo) (hc : Chg [] w w') : ReadAt w' rb l p vo := hc.obj h (by simp)
theorem ReadAt.c0 {w : World} {rb : Nat} {l : List UInt8} {p : Nat} {vo : Value} (h : ReadAt w rb l p vo) : w.cell? ⟨rb, 0, none⟩ = some (.string (Lx.strB l)) := cell_of_obj h rfl
theorem ReadAt.c1 {w : World} {rb : Nat} {l : List UInt8} {p : Nat} {vo : Value} (h : ReadAt w rb l p vo) : w.cell? ⟨rb, 1, none⟩ = some (.int .i64 p) := cell_of_obj h rfl
theorem ReadAt.c2 {w : World} {rb : Nat} {l : List UInt8} {p : Nat} {vo : Value} (h : ReadAt w rb l p vo) : w.cell? ⟨rb, 2, none⟩ = some vo := cell_of_obj h rfl
theorem ReadAt.free {w : World} {rb : Nat} {l : List UInt8} {p : Nat} {vo : Value} (h : ReadAt w rb l p vo) (j : Nat) : w.frozen? ⟨rb, j, none⟩ = false := free_of_obj h j
theorem ReadAt.set {w : World} {rb : Nat} {l : List UInt8} {p : Nat} {vo : Value} (h : ReadAt w rb l p vo) (q : Nat) : ReadAt (w.setCell ⟨rb, 1, none⟩ (.int .i64 q)) rb l q vo := obj_setCell h 1 _
theorem ReadAt.setOut {w : World} {rb : Nat} {l : List UInt8} {p : Nat} {vo : Value} (h : ReadAt w rb l p vo) (v : Value) : ReadAt (w.setCell ⟨rb, 2, none⟩ v) rb l p v := obj_setCell h 2 _
theorem ReadAt.lt {w : World} {rb : Nat} {l : List UInt8} {p : Nat} {vo : Value} (h : ReadAt w rb l p vo) : rb < w.heap.size := lt_of_obj h

/-- pieces that are no more than N, none longer than N. -/
structure Sm (ps : List Lx.Part) (N : Nat) : Prop where
  len : ps.length ≤ N
  txt : ∀ p ∈ ps, p.text.length ≤ N

theorem Sm.nil (N : Nat) : Sm [] N := ⟨by simp, by simp⟩
theorem Sm.mono {ps : List Lx.Part} {N M : Nat} (h : Sm ps N) (hm : N ≤ M) : Sm ps M := ⟨Nat.le_trans h.len hm, fun p hp => Nat.le_trans (h.txt p hp) hm⟩

theorem Sm.add {ps : List Lx.Part} {N M : Nat} (h : Sm ps N) (k : Int) (t : List UInt8) (ht : t.length ≤ M) (hm : 1 ≤ M) : Sm (Lx.addP ps k t) (N + M) := by
  have hnew : Sm (ps ++ [⟨k, t⟩]) (N + M) := by
    refine ⟨by have := h.len; simp; omega, fun p hp => ?_⟩
    rcases List.mem_append.1 hp with hp | hp
    · have := h.txt p hp; omega
    · simp at hp; subst hp; simp only; omega
  rcases List.eq_nil_or_concat ps with rfl | ⟨l', p, hl⟩
  · unfold Lx.addP
    simp only [List.getLast?_nil]
    split
    · exact Sm.nil _
    · exact hnew
  · have hl : ps = l' ++ [p] := by simpa using hl
    subst hl
    rw [addP_last]
    split
    · refine ⟨by have := h.len; simp at this ⊢; omega, fun q hq => ?_⟩
      rcases List.mem_append.1 hq with hq | hq
      · have := h.txt q (List.mem_append.2 (.inl hq)); omega
      · simp at hq; subst hq
        have := h.txt p (by simp)
        simp only [List.length_append]
        omega
    · split
      · exact h.mono (by omega)
      · exact hnew

theorem dollarP_le (r : List UInt8) : (Lx.dollarP r).2 < 0 ∨ (1 ≤ (Lx.dollarP r).2 ∧ (Lx.dollarP r).2.toNat ≤ r.length + 1 ∧ (Lx.dollarP r).1.length + 1 ≤ (Lx.dollarP r).2.toNat) := by
  unfold Lx.dollarP
  split
  · rename_i h
    right
    cases r with
    | nil => simp at h
    | cons d t => simp only [List.length_cons, List.length_nil]; omega
  · split
    · rename_i h
      split
      · left; simp only; omega
      · rename_i h2
        right
        simp only [List.length_take]
        have h3 : (r.drop 1)[Lx.nameLen (r.drop 1)]? = some 125 := Classical.byContradiction fun h4 => h2 (.inr h4)
        have h5 := (List.getElem?_eq_some_iff.1 h3).1
        rw [List.length_drop] at h5 ⊢
        omega
    · right
      have := (nameLen_le r).1
      simp only [List.length_take]
      omega

/-- what reading a dollar leaves. -/
def VarPost (w : World) (rb : Nat) (l : List UInt8) (vo v : Value) (p : Nat) (o : Option (List Lx.Part × Nat)) (e : Ending) (w' : World) : Prop :=
  match o with
  | none => e = .returned (.tuple #[.slice none 0 0, .bool false]) ∧ Chg [] w w'
  | some (ps, m) => ∃ a n c, e = .returned (.tuple #[.slice a n c, .bool true]) ∧ PartsAt w' (.slice a n c) ps ∧ ReadAt w' rb l (p + m) vo ∧ Chg (rb :: rowBlock v) w w' ∧ ∀ k ∈ rowBlock (.slice a n c), k ∈ rowBlock v ∨ w.heap.size ≤ k

theorem var_fin {w w1 : World} {rb : Nat} {l : List UInt8} {vo : Value} {p m : Nat} {a : Option Addr} {n c : Nat} {ps : List Lx.Part} (hR : ReadAt w rb l p vo) (hP : PartsAt w (.slice a n c) ps) (hrb : rb ∉ rowBlock (.slice a n c)) (hc : Chg [] w w1) :
    PartsAt (w1.setCell ⟨rb, 1, none⟩ (.int .i64 (p + m))) (.slice a n c) ps ∧
      ∀ (r' : List Lx.Part) (e : Ending) (w' : World), AddPost (w1.setCell ⟨rb, 1, none⟩ (.int .i64 (p + m))) (.slice a n c) r' e w' →
        ∃ a' n' c', e = .returned (.slice a' n' c') ∧ VarPost w rb l vo (.slice a n c) p (some (r', m)) (.returned (.tuple #[.slice a' n' c', .bool true])) w' := by
  have h2 : Chg [rb] w (w1.setCell ⟨rb, 1, none⟩ (.int .i64 (p + m))) := (hc.mono (by simp)).setCell _ _ (.inl (by simp))
  have hR2 : ReadAt (w1.setCell ⟨rb, 1, none⟩ (.int .i64 (p + m))) rb l (p + m) vo := (hR.kept0 hc).set (p + m)
  refine ⟨hP.kept h2 (fun k hk => by simp only [List.mem_singleton]; rintro rfl; exact hrb hk), ?_⟩
  rintro r' e w' ⟨a', n', c', rfl, h3, h4, h5⟩
  refine ⟨a', n', c', rfl, a', n', c', rfl, h3, hR2.kept h4 hrb, ?_, ?_⟩
  · exact (h2.mono (by simp)).trans h4 (fun k hk => .inl (by simp [hk]))
  · intro k hk
    rcases h5 k hk with h | h
    · exact .inl h
    · exact .inr (Nat.le_trans h2.size h)

set_option maxHeartbeats 2000000 in
theorem var_any (rb : Nat) (l : List UInt8) (vo : Value) (p : Nat) (a : Option Addr) (n c : Nat) (ps : List Lx.Part) (k : Int) (r : List UInt8) (w : World)
    (hR : ReadAt w rb l p vo) (hP : PartsAt w (.slice a n c) ps) (hrb : rb ∉ rowBlock (.slice a n c)) (hd : l.drop p = 36 :: r) (hl : l.length ≤ 2048) (hs : Sm ps 100000) :
    Calls Tryd.prog 43 #[.pointer (some ⟨rb, 0, none⟩), .slice a n c, .int .i64 k] w (VarPost w rb l vo (.slice a n c) p (Lx.varP ps k r)) := by
  have hlen : l.length = p + (r.length + 1) := by
    have := congrArg List.length hd
    rw [List.length_drop, List.length_cons] at this
    omega
  have hsz := Lx.strB_size l
  have hx : (Lx.strB l).extract p l.length = Lx.strB (36 :: r) := by
    have := Lx.strB_tail l p
    rw [hsz, hd] at this
    exact this
  have x0 := hR.c0
  have x1 := hR.c1
  have xf := hR.free 1
  have hp0 : (0 : Int) ≤ (p : Int) := by omega
  have hp1 : (p : Int) ≤ (l.length : Int) := by omega
  have hp2 : (p : Int) ≤ 2048 := by omega
  obtain ⟨t, ht⟩ : ∃ t, (Lx.dollarP r).1 = t := ⟨_, rfl⟩
  obtain ⟨m, hm⟩ : ∃ m, (Lx.dollarP r).2 = m := ⟨_, rfl⟩
  have hdl := dollarP_le r
  rw [ht, hm] at hdl
  have hv := Lib.hid (show Lx.varP ps k r = if m < 0 then none else some (if t = [] then Lx.addP ps 1 [36] else Lx.addP ps k t, m.toNat) from by unfold Lx.varP; rw [ht, hm])
  have HD := Lib.hid ht
  have HM := Lib.hid hm
  have HR := Lib.hid hR
  have HP := Lib.hid hP
  have HRB := Lib.hid hrb
  have HSM := Lib.hid hs
  have hrl2 : r.length + 1 ≤ 2048 := by omega
  have hrl : r.length ≤ 1000000 := by omega
  have HL := Lib.hid hlen
  clear hR hP hrb hs ht hm hd hlen
  by_cases hm0 : m < 0
  · have hmd : decide (m < 0) = true := decide_eq_true hm0
    have HV := Lib.hid (hv.out.trans (if_pos hm0))
    clear hm0 hdl hv
    go_enter Tryd.func43, Tryd.ntmps43
    go_wp2_with fail
    go_region_held3 (fun w' => w'.cell? ⟨rb, 0, none⟩ = some (.string (Lx.strB l)) ∧ w'.cell? ⟨rb, 1, none⟩ = some (.int .i64 p)) (first | exact ⟨x0, x1⟩ | exact ⟨y0, y1⟩)
      ((go_at_call 58; refine (dollar_any 36 r _ hrl).mono ?_; rw [HD.out, HM.out]; rintro e w1 ⟨rfl, hc1⟩; have y0 := hc1.cell x0 (by simp); have y1 := hc1.cell x1 (by simp); have HC := Lib.hid hc1.drew0; clear hc1))
    all_goals
      go_wp2
      go_ret2
      rw [HV.out]
      exact ⟨rfl, HC.out⟩
  · obtain ⟨m', rfl⟩ : ∃ m' : Nat, m = m' := ⟨m.toNat, by omega⟩
    have hmd : decide ((m' : Int) < 0) = false := decide_eq_false hm0
    have hm1 : (m' : Int) ≤ 2048 := by simp only [Int.toNat_natCast] at hdl; omega
    have hm2 : (0 : Int) ≤ (m' : Int) := by omega
    have HV0 := Lib.hid (hv.out.trans (if_neg hm0))
    have htl : t.length + 1 ≤ 4096 := by simp only [Int.toNat_natCast] at hdl; omega
    clear hm0 hdl hv
    by_cases ht : t = []
    · have hE : (Lx.strB t).toList.isEmpty = true := by rw [Lx.strB_toList, ht]; rfl
      have HV := Lib.hid (HV0.out.trans (by rw [if_pos ht]))
      have HT := Lib.hid (show 100000 + ([36] : List UInt8).length ≤ 1000000 from by decide)
      clear ht htl
      go_enter Tryd.func43, Tryd.ntmps43
      go_wp2_with fail
      go_region_held3 (fun w' => w'.cell? ⟨rb, 0, none⟩ = some (.string (Lx.strB l)) ∧ w'.cell? ⟨rb, 1, none⟩ = some (.int .i64 p)) (first | exact ⟨x0, x1⟩ | exact ⟨y0, y1⟩)
        ((go_at_call 58; refine (dollar_any 36 r _ hrl).mono ?_; rw [HD.out, HM.out]; rintro e w1 ⟨rfl, hc1⟩; have y0 := hc1.cell x0 (by simp); have y1 := hc1.cell x1 (by simp); have HC := Lib.hid hc1.drew0; clear hc1))
      all_goals
        have yf := (HR.out.kept0 HC.out).free 1
        obtain ⟨FP, FV⟩ := var_fin (m := m') HR.out HP.out HRB.out HC.out
        have FV := Lib.hid FV
        have FP := Lib.hid FP
        go_wp2_with fail
        refine (add_any a n c ps 1 [36] _ FP.out (Nat.le_trans HSM.out.len (by omega)) (fun q hq => Nat.le_trans (Nat.add_le_add_right (HSM.out.txt q hq) _) HT.out)).mono ?_
        intro e w2 h2
        obtain ⟨a', n', c', rfl, h3⟩ := FV.out _ _ _ h2
        have H3 := Lib.hid h3
        clear h2 h3
        go_wp2
        go_ret2
        rw [HV.out]
        exact H3.out
    · have hE : (Lx.strB t).toList.isEmpty = false := by rw [Lx.strB_toList]; simpa using ht
      have HV := Lib.hid (HV0.out.trans (by rw [if_neg ht]))
      have HT := Lib.hid (show 100000 + t.length ≤ 1000000 from by omega)
      clear ht htl
      go_enter Tryd.func43, Tryd.ntmps43
      go_wp2_with fail
      go_region_held3 (fun w' => w'.cell? ⟨rb, 0, none⟩ = some (.string (Lx.strB l)) ∧ w'.cell? ⟨rb, 1, none⟩ = some (.int .i64 p)) (first | exact ⟨x0, x1⟩ | exact ⟨y0, y1⟩)
        ((go_at_call 58; refine (dollar_any 36 r _ hrl).mono ?_; rw [HD.out, HM.out]; rintro e w1 ⟨rfl, hc1⟩; have y0 := hc1.cell x0 (by simp); have y1 := hc1.cell x1 (by simp); have HC := Lib.hid hc1.drew0; clear hc1))
      all_goals
        have yf := (HR.out.kept0 HC.out).free 1
        obtain ⟨FP, FV⟩ := var_fin (m := m') HR.out HP.out HRB.out HC.out
        have FV := Lib.hid FV
        have FP := Lib.hid FP
        go_wp2_with fail
        refine (add_any a n c ps k t _ FP.out (Nat.le_trans HSM.out.len (by omega)) (fun q hq => Nat.le_trans (Nat.add_le_add_right (HSM.out.txt q hq) _) HT.out)).mono ?_
        intro e w2 h2
        obtain ⟨a', n', c', rfl, h3⟩ := FV.out _ _ _ h2
        have H3 := Lib.hid h3
        clear h2 h3
        go_wp2
        go_ret2
        rw [HV.out]
        exact H3.out

end Go.Proofs.YtfgbbmnmblchiaaDoor
