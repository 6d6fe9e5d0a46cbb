/-
  The reader of commands: its block; what stands there, what is wrong, what must be: walked.
-/
import Derived.Test.YtfgbbmnmblchiaaDoorNode
namespace Go.Proofs.YtfgbbmnmblchiaaDoor
open Go.RowKit
set_option linter.unusedVariables false

theorem ret_b {a b : Bool} (h : a = b) : Ending.returned (.bool a) = .returned (.bool b) := by rw [h]

/-- the reader's block. -/
def PAt (w : World) (pb : Nat) (tv : Value) (at_ deep : Nat) (e : Int) : Prop := w.heap[pb]? = some (.cells #[tv, .int .i64 at_, .int .i64 deep, .int .i64 e] 60 (0, 0))

/-- the blocks of the tokens and of their pieces; block 2 holds a number that strings.Cut reads. -/
def TB (tv : Value) (vs : List Value) (k : Nat) : Prop := k = 2 ∨ k ∈ rowBlock tv ∨ ∃ u ∈ vs, k ∈ rowBlock u

/-- a token such as texts give: short; a word 'name=..' begins with a piece that holds 'name='. -/
def GoodT (t : Lx.Tok) : Prop := t.text.length ≤ 2048 ∧ (t.kind = 1 → ∀ k, Lx.idx 61 t.text = some k → Lx.isName (t.text.take k) = true → ∃ p r, t.parts = p :: r ∧ k + 1 ≤ p.text.length) ∧ t.parts.length ≤ 2048

/-- a reader of tokens. -/
structure PS (w : World) (pb : Nat) (a : Option Addr) (c : Nat) (ts : List Lx.Tok) (vs : List Value) (at_ deep : Nat) (e : Int) : Prop where
  p : PAt w pb (.slice a ts.length c) at_ deep e
  toks : ToksAt w (.slice a ts.length c) ts vs
  out : ¬ TB (.slice a ts.length c) vs pb
  le : at_ ≤ ts.length
  few : ts.length ≤ 100000
  dp : deep ≤ 16
  good : ∀ t ∈ ts, GoodT t
  ml : ∃ m : Int, w.cell? ⟨2, 0, none⟩ = some (.int .i64 m)

section
variable {w w' : World} {pb : Nat} {a : Option Addr} {c : Nat} {ts : List Lx.Tok} {vs : List Value} {at_ deep : Nat} {e : Int}

theorem PS.c0 (h : PS w pb a c ts vs at_ deep e) : w.cell? ⟨pb, 0, none⟩ = some (.slice a ts.length c) := cell_of_obj h.p rfl
theorem PS.c1 (h : PS w pb a c ts vs at_ deep e) : w.cell? ⟨pb, 1, none⟩ = some (.int .i64 at_) := cell_of_obj h.p rfl
theorem PS.c2 (h : PS w pb a c ts vs at_ deep e) : w.cell? ⟨pb, 2, none⟩ = some (.int .i64 deep) := cell_of_obj h.p rfl
theorem PS.c3 (h : PS w pb a c ts vs at_ deep e) : w.cell? ⟨pb, 3, none⟩ = some (.int .i64 e) := cell_of_obj h.p rfl
theorem PS.free (h : PS w pb a c ts vs at_ deep e) (j : Nat) : w.frozen? ⟨pb, j, none⟩ = false := free_of_obj h.p j
theorem PS.lt (h : PS w pb a c ts vs at_ deep e) : pb < w.heap.size := lt_of_obj h.p

theorem PS.tb_lt (h : PS w pb a c ts vs at_ deep e) : ∀ k, TB (.slice a ts.length c) vs k → k < w.heap.size := by
  rintro k (rfl | hk | ⟨u, hu, hk⟩)
  · obtain ⟨m, hm⟩ := h.ml
    exact World.block_lt_of_cell? w _ hm
  · exact Row.block_lt h.toks.row k hk
  · obtain ⟨i, hi⟩ := List.mem_iff_getElem?.1 hu
    have hlt : i < ts.length := by rw [← h.toks.len]; exact (List.getElem?_eq_some_iff.1 hi).1
    exact Row.block_lt (h.toks.parts i _ u (List.getElem?_eq_getElem hlt) hi).1 k hk

theorem PS.mlP (h : PS w pb a c ts vs at_ deep e) (j : Nat) (v : Value) : ∃ m : Int, (w.setCell ⟨pb, j, none⟩ v).cell? ⟨2, 0, none⟩ = some (.int .i64 m) := by
  obtain ⟨m, hm⟩ := h.ml
  exact ⟨m, ((Chg.refl [pb] w).setCell ⟨pb, j, none⟩ v (.inl (by simp))).cell hm (by simp; rintro rfl; exact h.out (.inl rfl))⟩

theorem PS.chg (h : PS w pb a c ts vs at_ deep e) {F : List Nat} (hc : Chg F w w') (hF : ∀ k ∈ F, k ≠ pb ∧ ¬ TB (.slice a ts.length c) vs k) : PS w' pb a c ts vs at_ deep e :=
  { h with p := hc.obj h.p (fun hk => (hF pb hk).1 rfl), toks := h.toks.kept hc (fun k hk hF' => (hF k hF').2 (.inr (.inl hk))) (fun u hu k hk hF' => (hF k hF').2 (.inr (.inr ⟨u, hu, hk⟩))), ml := h.ml.imp fun m hm => hc.cell hm (fun hF' => (hF 2 hF').2 (.inl rfl)) }
theorem PS.chg0 (h : PS w pb a c ts vs at_ deep e) (hc : Chg [] w w') : PS w' pb a c ts vs at_ deep e := h.chg hc (by simp)

theorem PS.toksP (h : PS w pb a c ts vs at_ deep e) (j : Nat) (v : Value) : ToksAt (w.setCell ⟨pb, j, none⟩ v) (.slice a ts.length c) ts vs :=
  h.toks.kept (F := [pb]) ((Chg.refl [pb] w).setCell _ _ (.inl (by simp))) (fun k hk => by simp only [List.mem_singleton]; rintro rfl; exact h.out (.inr (.inl hk))) (fun u hu k hk => by simp only [List.mem_singleton]; rintro rfl; exact h.out (.inr (.inr ⟨u, hu, hk⟩)))

theorem PS.setAt (h : PS w pb a c ts vs at_ deep e) (q : Nat) (z : Int) (hz : z = q) (hq : q ≤ ts.length) : PS (w.setCell ⟨pb, 1, none⟩ (.int .i64 z)) pb a c ts vs q deep e := by
  subst hz
  exact { h with p := obj_setCell h.p 1 _, toks := h.toksP 1 _, le := hq, ml := h.mlP 1 _ }
theorem PS.setDeep (h : PS w pb a c ts vs at_ deep e) (q : Nat) (z : Int) (hz : z = q) (hq : q ≤ 16) : PS (w.setCell ⟨pb, 2, none⟩ (.int .i64 z)) pb a c ts vs at_ q e := by
  subst hz
  exact { h with p := obj_setCell h.p 2 _, toks := h.toksP 2 _, dp := hq, ml := h.mlP 2 _ }
theorem PS.setE (h : PS w pb a c ts vs at_ deep e) (z : Int) : PS (w.setCell ⟨pb, 3, none⟩ (.int .i64 z)) pb a c ts vs at_ deep z :=
  { h with p := obj_setCell h.p 3 _, toks := h.toksP 3 _, ml := h.mlP 3 _ }
end

theorem ToksAt.cell4 {w : World} {a : Option Addr} {n c : Nat} {ts : List Lx.Tok} {vs : List Value} (h : ToksAt w (.slice a n c) ts vs) (k : Nat) (t : Lx.Tok) (hk : ts[k]? = some t) :
    ∃ g a' n', a = some ⟨g, 0, none⟩ ∧ w.cell? ⟨g, k * 4, none⟩ = some (.int .i64 t.kind) ∧ w.cell? ⟨g, k * 4 + 1, none⟩ = some (.string (Lx.strB t.text)) ∧ w.cell? ⟨g, k * 4 + 2, none⟩ = some (.slice a' n' n') ∧ w.cell? ⟨g, k * 4 + 3, none⟩ = some (.int .i64 t.pos) ∧ PartsAt w (.slice a' n' n') t.parts := by
  have hlt := (List.getElem?_eq_some_iff.1 hk).1
  obtain ⟨g, rfl, _, _, hc⟩ := h.cells (by omega)
  obtain ⟨u, hu⟩ : ∃ u, vs[k]? = some u := ⟨_, List.getElem?_eq_getElem (by rw [h.len]; exact hlt)⟩
  obtain ⟨hp, a', n', rfl⟩ := h.parts k t u hk hu
  have := hc k t _ hk hu
  exact ⟨g, a', n', rfl, by rw [Nat.mul_comm]; exact this.kind, by rw [Nat.mul_comm]; exact this.text, by rw [Nat.mul_comm]; exact this.ps, by rw [Nat.mul_comm]; exact this.pos, hp⟩

theorem isT_none {ts : List Lx.Tok} {a : Nat} (h : ¬ a < ts.length) (k : Int) (x : List UInt8) : Ps.isT ts a k x = false := by
  unfold Ps.isT
  rw [List.getElem?_eq_none (by omega)]
theorem isT_some {ts : List Lx.Tok} {a : Nat} {t : Lx.Tok} (h : ts[a]? = some t) (k : Int) (x : List UInt8) : Ps.isT ts a k x = (t.kind == k && (x.isEmpty || t.text == x)) := by
  unfold Ps.isT
  rw [h]

set_option maxHeartbeats 4000000 in
set_option maxRecDepth 10000 in
theorem is_any (pb : Nat) (a : Option Addr) (c : Nat) (ts : List Lx.Tok) (vs : List Value) (p deep : Nat) (er : Int) (kind : Int) (x : List UInt8) (w : World) (h : PS w pb a c ts vs p deep er) :
    Calls Tryd.prog 29 #[.pointer (some ⟨pb, 0, none⟩), .int .i64 kind, .string (Lx.strB x)] w fun e w' => e = .returned (.bool (Ps.isT ts p kind x)) ∧ ∃ n, w' = w.drewN n := by
  have x0 := h.c0
  have x1 := h.c1
  have p0 : (0 : Int) ≤ (p : Int) := by omega
  have hfew := h.few
  have p1 : (p : Int) ≤ 100000 := by have := h.le; omega
  have l1 : (ts.length : Int) ≤ 100000 := by omega
  have HP := Lib.hid h
  clear h hfew
  by_cases hp : p < ts.length
  · have hd : decide (p < ts.length) = true := decide_eq_true hp
    have p2 : (p : Int) < (ts.length : Int) := by omega
    have p3 : 0 < ts.length := by omega
    obtain ⟨t, ht⟩ : ∃ t, ts[p]? = some t := ⟨_, List.getElem?_eq_getElem hp⟩
    have hr := Lib.hid (isT_some ht kind x)
    obtain ⟨g1, a3, n3, rfl, y0, y1, y2, y3, hW⟩ := HP.out.toks.cell4 p t ht
    clear ht hW y2 y3
    by_cases hk : t.kind = kind
    · have e1 : (t.kind == kind) = true := by rw [beq_iff_eq]; exact hk
      by_cases hx : x = []
      · have e2 : (Lx.strB x).toList.isEmpty = true := by rw [Lx.strB_toList, hx]; rfl
        have hr2 := Lib.hid (show Ps.isT ts p kind x = true from by rw [hr.out, e1, hx]; rfl)
        clear hk hx hr
        go_enter Tryd.func29, Tryd.ntmps29
        go_wp2_with fail
        go_quiet (fail)
        all_goals
          go_wp2
          go_ret
          exact ⟨ret_b hr2.out.symm, nq, rfl⟩
      · have e2 : (Lx.strB x).toList.isEmpty = false := by rw [Lx.strB_toList]; simpa using hx
        have hxe : x.isEmpty = false := by simpa using hx
        obtain ⟨b, hb⟩ : ∃ b, (t.text == x) = b := ⟨_, rfl⟩
        have e3 : ((Lx.strB t.text).toList == (Lx.strB x).toList) = b := by rw [Lx.strB_toList, Lx.strB_toList]; exact hb
        have hr2 := Lib.hid (show Ps.isT ts p kind x = b from by rw [hr.out, e1, hxe, hb]; cases b <;> rfl)
        clear hk hx hr hb hxe
        go_enter Tryd.func29, Tryd.ntmps29
        go_wp2_with fail
        go_quiet (fail)
        all_goals
          go_wp2
          go_ret
          exact ⟨ret_b hr2.out.symm, nq, rfl⟩
    · have e1 : (t.kind == kind) = false := by rw [beq_eq_false_iff_ne]; exact hk
      have hr2 := Lib.hid (show Ps.isT ts p kind x = false from by rw [hr.out, e1]; rfl)
      clear hk hr
      go_enter Tryd.func29, Tryd.ntmps29
      go_wp2_with fail
      go_quiet (fail)
      all_goals
        go_wp2
        go_ret
        exact ⟨ret_b hr2.out.symm, nq, rfl⟩
  · have hd : decide (p < ts.length) = false := decide_eq_false hp
    have hr2 := Lib.hid (isT_none hp kind x)
    clear hp
    go_enter Tryd.func29, Tryd.ntmps29
    go_wp2_with fail
    go_quiet (fail)
    all_goals
      go_wp2
      go_ret
      exact ⟨ret_b hr2.out.symm, nq, rfl⟩

end Go.Proofs.YtfgbbmnmblchiaaDoor
