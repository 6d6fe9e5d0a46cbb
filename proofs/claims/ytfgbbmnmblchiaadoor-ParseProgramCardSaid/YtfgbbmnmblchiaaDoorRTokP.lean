/-
  How the document's tokens lie in memory.
-/
import Derived.Test.YtfgbbmnmblchiaaDoorRWord
namespace Go.Proofs.YtfgbbmnmblchiaaDoor
open Go.RowKit
set_option linter.unusedVariables false

theorem quotP_hi (q : Nat) : ∀ (f : Nat) (r : List UInt8) (p : Nat) (ps ps' : List Lx.Part) (p' : Nat), Lx.quotP q f r p ps = .ok (ps', p') → p' ≤ p + r.length
  | 0, _, _, _, _, _, h => by simp [Lx.quotP] at h
  | f + 1, [], _, _, _, _, h => by simp [Lx.quotP] at h
  | f + 1, b :: t, p, ps, ps', p', h => by
    rw [quotP_cons] at h
    rw [List.length_cons]
    split at h
    · cases h; omega
    · split at h
      · cases hv : Lx.varP ps 3 t with
        | none => rw [hv] at h; cases h
        | some pm =>
          obtain ⟨l', m⟩ := pm
          rw [hv] at h
          have hm := varP_some hv
          have := quotP_hi q f _ _ _ _ _ h
          rw [List.length_drop, List.length_cons] at this
          omega
      · split at h
        · rename_i hc
          have hne : t ≠ [] := by rintro rfl; simp [Lx.escB] at hc
          have hl : 1 ≤ t.length := by cases t with
            | nil => exact absurd rfl hne
            | cons _ _ => simp
          have := quotP_hi q f _ _ _ _ _ h
          rw [List.length_drop] at this
          omega
        · have := quotP_hi q f _ _ _ _ _ h
          omega

theorem wordP_le : ∀ (f : Nat) (r : List UInt8) (p : Nat) (l l' : List Lx.Part) (p' : Nat), Lx.wordP f r p l = .ok (l', p') → p' ≤ p + r.length
  | 0, _, _, _, _, _, h => by cases h; omega
  | f + 1, [], _, _, _, _, h => by cases h; omega
  | f + 1, c :: t, p, l, l', p', h => by
    rw [wordP_cons] at h
    rw [List.length_cons]
    split at h
    · cases h; omega
    · split at h
      · split at h
        · cases h
        · rename_i hk
          have := idx_lt _ _ _ hk
          have := wordP_le f _ _ _ _ _ h
          rw [List.length_drop] at this
          omega
      · split at h
        · split at h
          · cases h
          · rename_i hq
            have h1 := quotP_lt _ _ _ _ _ _ _ hq
            have h2 := quotP_hi _ _ _ _ _ _ _ hq
            have := wordP_le f _ _ _ _ _ h
            rw [List.length_drop, List.length_cons] at this
            omega
        · split at h
          · split at h
            · cases h
            · rename_i hv
              have := varP_some hv
              have := wordP_le f _ _ _ _ _ h
              rw [List.length_drop, List.length_cons] at this
              omega
          · split at h
            · split at h
              · cases h
              · rename_i hne
                have := Lx.wid_le t hne
                have := wordP_le f _ _ _ _ _ h
                rw [List.length_drop] at this
                omega
            · have := wordP_le f _ _ _ _ _ h
              omega

/-- the document's tokens in memory. -/
structure ToksR (w : World) (v : Value) (ts : List Lx.Tok) (vs : List Value) : Prop where
  row : Row w 98 4 v ts.length (tcells ts vs)
  len : vs.length = ts.length
  parts : ∀ (i : Nat) (t : Lx.Tok) (u : Value), ts[i]? = some t → vs[i]? = some u → PartsR w u t.parts ∧ ∃ a n c, u = .slice a n c
  out : ∀ u ∈ vs, ∀ k ∈ rowBlock u, k ∉ rowBlock v

theorem ToksR.nil (w : World) (a : Option Addr) : ToksR w (.slice a 0 0) [] [] where
  row := Row.nil _ _ _ _
  len := rfl
  parts := by simp
  out := by simp

theorem ToksR.kept {w w' : World} {F : List Nat} {v : Value} {ts : List Lx.Tok} {vs : List Value} (h : ToksR w v ts vs) (hc : Chg F w w') (h1 : ∀ k ∈ rowBlock v, k ∉ F) (h2 : ∀ u ∈ vs, ∀ k ∈ rowBlock u, k ∉ F) : ToksR w' v ts vs where
  row := h.row.kept hc h1
  len := h.len
  parts := fun i t u ht hu => ⟨(h.parts i t u ht hu).1.kept hc (h2 u (List.mem_of_getElem? hu)), (h.parts i t u ht hu).2⟩
  out := h.out

theorem ToksR.kept0 {w w' : World} {v : Value} {ts : List Lx.Tok} {vs : List Value} (h : ToksR w v ts vs) (hc : Chg [] w w') : ToksR w' v ts vs := h.kept hc (by simp) (by simp)

/-- one token more. -/
theorem ToksR.snoc {w w' : World} {F : List Nat} {v v' : Value} {ts : List Lx.Tok} {vs : List Value} (h : ToksR w v ts vs) (hc : Chg F w w') (h2 : ∀ u ∈ vs, ∀ k ∈ rowBlock u, k ∉ F) (t : Lx.Tok) (u : Value)
    (hr : Row w' 98 4 v' (ts.length + 1) (tcells ts vs ++ tokCells t.kind t.text u t.pos)) (hp : PartsR w' u t.parts) (hu : ∃ a n c, u = .slice a n c) (ho : ∀ k ∈ rowBlock u, k ∉ rowBlock v')
    (hb : ∀ k ∈ rowBlock v', k ∈ rowBlock v ∨ w.heap.size ≤ k) : ToksR w' v' (ts ++ [t]) (vs ++ [u]) where
  row := by rw [tcells_snoc _ _ _ _ h.len, List.length_append]; exact hr
  len := by simp [h.len]
  parts := by
    intro i t' u' ht hu'
    rw [List.getElem?_append] at ht hu'
    by_cases hi : i < ts.length
    · rw [if_pos hi] at ht
      rw [if_pos (by rw [h.len]; exact hi)] at hu'
      exact ⟨(h.parts i t' u' ht hu').1.kept hc (h2 u' (List.mem_of_getElem? hu')), (h.parts i t' u' ht hu').2⟩
    · rw [if_neg hi] at ht
      rw [if_neg (by rw [h.len]; exact hi), h.len] at hu'
      have hz : i - ts.length = 0 := by
        cases hz : i - ts.length with
        | zero => rfl
        | succ j => rw [hz] at ht; simp at ht
      rw [hz] at ht hu'
      simp at ht hu'
      subst ht hu'
      exact ⟨hp, hu⟩
  out := by
    intro x hx k hk hkv
    rcases List.mem_append.1 hx with hx | hx
    · rcases hb k hkv with h1 | h1
      · exact h.out x hx k hk h1
      · obtain ⟨i, hi⟩ := List.mem_iff_getElem?.1 hx
        have hlt : i < ts.length := by rw [← h.len]; exact (List.getElem?_eq_some_iff.1 hi).1
        have := Row.block_lt (h.parts i _ x (List.getElem?_eq_getElem hlt) hi).1 k hk
        omega
    · simp at hx
      subst hx
      exact ho k hk hkv

theorem ToksR.cells {w : World} {a : Option Addr} {n c : Nat} {ts : List Lx.Tok} {vs : List Value} (h : ToksR w (.slice a n c) ts vs) (h0 : 0 < ts.length) :
    ∃ g, a = some ⟨g, 0, none⟩ ∧ n = ts.length ∧ ts.length ≤ c ∧ ∀ i t u, ts[i]? = some t → vs[i]? = some u → TokCell w g i t u := by
  obtain ⟨g, rfl, hn, hc, hx⟩ := h.row.cells h0
  refine ⟨g, rfl, hn, hc, fun i t u ht hu => ⟨?_, ?_, ?_, ?_⟩⟩
  · exact hx (4 * i + 0) _ (tcells_get ts vs i t u ht hu 0 (by omega))
  · exact hx _ _ (tcells_get ts vs i t u ht hu 1 (by omega))
  · exact hx _ _ (tcells_get ts vs i t u ht hu 2 (by omega))
  · exact hx _ _ (tcells_get ts vs i t u ht hu 3 (by omega))

theorem PartsR.cells {w : World} {a : Option Addr} {n c : Nat} {ps : List Lx.Part} (h : PartsR w (.slice a n c) ps) (h0 : 0 < ps.length) :
    ∃ g, a = some ⟨g, 0, none⟩ ∧ n = ps.length ∧ ps.length ≤ c ∧ ∀ i p, ps[i]? = some p → PartCell w g i p := by
  obtain ⟨g, rfl, hn, hc, hx⟩ := Row.cells h h0
  refine ⟨g, rfl, hn, hc, fun i p hp => ⟨?_, ?_⟩⟩
  · exact hx (2 * i + 0) _ (pcells_get ps i p hp 0 (by omega))
  · exact hx _ _ (pcells_get ps i p hp 1 (by omega))

/-- a block of the kind of what the document's Tokens tell. -/
def GotAt (w : World) (gb : Nat) (v : Value) (at_ e : Int) : Prop := w.heap[gb]? = some (.cells #[v, .int .i64 at_, .int .i64 e] 68 (0, 0))

/-- what holds at the head of each round. -/
structure TokRAt (w : World) (rb gb : Nat) (l : List UInt8) (p : Nat) (v : Value) (ts : List Lx.Tok) (vs : List Value) (wr : World) : Prop where
  res : GotAt wr rb (.slice none 0 0) 0 0
  got : GotAt wr gb v 0 0
  toks : ToksR wr v ts vs
  ne : rb ≠ gb
  out : rb ∉ rowBlock v ∧ gb ∉ rowBlock v
  outs : ∀ u ∈ vs, rb ∉ rowBlock u ∧ gb ∉ rowBlock u
  new : w.heap.size ≤ rb ∧ w.heap.size ≤ gb
  news : ∀ k ∈ rowBlock v, w.heap.size ≤ k
  chg : Chg [] w wr
  few : ts.length ≤ p
  le : p ≤ l.length

theorem TokRAt.kept0 {w wr w' : World} {rb gb : Nat} {l : List UInt8} {p : Nat} {v : Value} {ts : List Lx.Tok} {vs : List Value} (h : TokRAt w rb gb l p v ts vs wr) (hc : Chg [] wr w') : TokRAt w rb gb l p v ts vs w' :=
  { h with res := hc.obj h.res (by simp), got := hc.obj h.got (by simp), toks := h.toks.kept0 hc, chg := h.chg.then0 hc }

theorem TokRAt.moved {w wr : World} {rb gb : Nat} {l : List UInt8} {p : Nat} {v : Value} {ts : List Lx.Tok} {vs : List Value} (h : TokRAt w rb gb l p v ts vs wr) (q : Nat) (h1 : p ≤ q) (h2 : q ≤ l.length) : TokRAt w rb gb l q v ts vs wr :=
  { h with few := Nat.le_trans h.few h1, le := h2 }

/-- one token more: the row written, then the header. -/
theorem TokRAt.added {w wr w1 w2 : World} {rb gb : Nat} {l : List UInt8} {p : Nat} {v v' u : Value} {ts : List Lx.Tok} {vs : List Value} {ps : List Lx.Part} (h : TokRAt w rb gb l p v ts vs wr) (h1 : Chg [] wr w1) (h2 : Chg (rowBlock v) w1 w2) (k : Int) (t : List UInt8)
    (hr : Row w2 98 4 v' (ts.length + 1) (tcells ts vs ++ tokCells k t u p)) (hb : ∀ x ∈ rowBlock v', x ∈ rowBlock v ∨ w1.heap.size ≤ x) (hu : PartsR w1 u ps) (hs : ∃ a n c, u = .slice a n c) (hn : ∀ x ∈ rowBlock u, wr.heap.size ≤ x) (q : Nat) (hq : p < q) (hl : q ≤ l.length) :
    TokRAt w rb gb l q v' (ts ++ [⟨k, t, ps, p⟩]) (vs ++ [u]) (w2.setCell ⟨gb, 0, none⟩ v') := by
  have hrl := lt_of_obj h.res
  have hgl := lt_of_obj h.got
  have hvl := Row.block_lt h.toks.row
  have hul := Row.block_lt hu
  have h12 : Chg (rowBlock v) wr w2 := (h1.mono (by simp)).trans h2 (fun x hx => .inl hx)
  have hb' : ∀ x ∈ rowBlock v', x ∈ rowBlock v ∨ wr.heap.size ≤ x := fun x hx => (hb x hx).imp id (Nat.le_trans h1.size)
  have hrv : rb ∉ rowBlock v' := fun hx => by
    rcases hb' rb hx with h3 | h3
    · exact h.out.1 h3
    · omega
  have hgv : gb ∉ rowBlock v' := fun hx => by
    rcases hb' gb hx with h3 | h3
    · exact h.out.2 h3
    · omega
  have huv : ∀ x ∈ rowBlock u, x ∉ rowBlock v := fun x hx hxv => by
    have := hn x hx
    have := hvl x hxv
    omega
  have huo : ∀ x ∈ rowBlock u, x ∉ rowBlock v' := fun x hx hxv => by
    rcases hb x hxv with h3 | h3
    · exact huv x hx h3
    · have := hul x hx
      omega
  have hT : ToksR w2 v' (ts ++ [⟨k, t, ps, p⟩]) (vs ++ [u]) :=
    h.toks.snoc h12 (fun u hu x hx => h.toks.out u hu x hx) ⟨k, t, ps, p⟩ u hr (hu.kept h2 huv) hs huo hb'
  have hs1 : Chg [gb] w2 (w2.setCell ⟨gb, 0, none⟩ v') := (Chg.refl [gb] w2).setCell _ _ (.inl (by simp))
  have houts : ∀ x ∈ vs ++ [u], rb ∉ rowBlock x ∧ gb ∉ rowBlock x := by
    intro x hx
    rcases List.mem_append.1 hx with hx | hx
    · exact h.outs x hx
    · simp at hx; subst hx
      exact ⟨fun e => by have := hn rb e; omega, fun e => by have := hn gb e; omega⟩
  exact
    { res := hs1.obj (h12.obj h.res h.out.1) (by simp; exact h.ne)
      got := obj_setCell (h12.obj h.got h.out.2) 0 v'
      toks := hT.kept hs1 (fun k hk => by simp only [List.mem_singleton]; rintro rfl; exact hgv hk) (fun u hu k hk => by simp only [List.mem_singleton]; rintro rfl; exact (houts u hu).2 hk)
      ne := h.ne
      out := ⟨hrv, hgv⟩
      outs := houts
      new := h.new
      news := fun x hx => by
        rcases hb' x hx with h3 | h3
        · exact h.news x h3
        · exact Nat.le_trans h.chg.size h3
      chg := (h.chg.trans h12 (fun x hx => .inr (h.news x hx))).trans hs1 (fun x hx => by simp at hx; subst hx; exact .inr h.new.2)
      few := by rw [List.length_append, List.length_singleton]; have := h.few; omega
      le := hl }

/-- what the document's Tokens leave. -/
def GotPost (w : World) (r : Int × Nat × List Lx.Tok) (e : Ending) (w' : World) : Prop :=
  ∃ a n c vs, e = .returned (.agg #[.slice a n c, .int .i64 r.2.1, .int .i64 r.1]) ∧ ToksR w' (.slice a n c) r.2.2 vs ∧ Chg [] w w'

theorem got_none {w W : World} {rb : Nat} (hc : Chg [] w W) (hn : w.heap.size ≤ rb) (at_ : Nat) (e : Int) (x y z : Value) :
    GotPost w (e, at_, []) (.returned (.agg #[.slice none 0 0, .int .i64 at_, .int .i64 e])) (((W.setCell ⟨rb, 0, none⟩ x).setCell ⟨rb, 1, none⟩ y).setCell ⟨rb, 2, none⟩ z) :=
  ⟨none, 0, 0, [], rfl, ToksR.nil _ _, ((hc.setCell _ _ (.inr hn)).setCell _ _ (.inr hn)).setCell _ _ (.inr hn)⟩

theorem got_none2 {w W : World} {rb : Nat} (hc : Chg [] w W) (hn : w.heap.size ≤ rb) (at_ : Nat) (e : Int) (x y z : Value) (o : Obj) :
    GotPost w (e, at_, []) (.returned (.agg #[.slice none 0 0, .int .i64 at_, .int .i64 e])) ((((W.setCell ⟨rb, 0, none⟩ x).setCell ⟨rb, 1, none⟩ y).setCell ⟨rb, 2, none⟩ z).alloc o) :=
  ⟨none, 0, 0, [], rfl, ToksR.nil _ _, (((hc.setCell _ _ (.inr hn)).setCell _ _ (.inr hn)).setCell _ _ (.inr hn)).alloc _⟩

theorem got_some {w W : World} {rb gb : Nat} {l : List UInt8} {p : Nat} {a : Option Addr} {n c : Nat} {ts : List Lx.Tok} {vs : List Value} (h : TokRAt w rb gb l p (.slice a n c) ts vs W) (x y z : Value) :
    GotPost w (0, 0, ts) (.returned (.agg #[.slice a n c, .int .i64 ((0 : Nat) : Int), .int .i64 0])) (((W.setCell ⟨rb, 0, none⟩ x).setCell ⟨rb, 1, none⟩ y).setCell ⟨rb, 2, none⟩ z) := by
  have hs : Chg [rb] W (((W.setCell ⟨rb, 0, none⟩ x).setCell ⟨rb, 1, none⟩ y).setCell ⟨rb, 2, none⟩ z) := (((Chg.refl [rb] W).setCell _ _ (.inl (by simp))).setCell _ _ (.inl (by simp))).setCell _ _ (.inl (by simp))
  refine ⟨a, n, c, vs, rfl, h.toks.kept hs (fun k hk => by simp only [List.mem_singleton]; rintro rfl; exact h.out.1 hk) (fun u hu k hk => by simp only [List.mem_singleton]; rintro rfl; exact (h.outs u hu).1 hk), h.chg.trans hs (fun x hx => by simp at hx; subst hx; exact .inr h.new.1)⟩

theorem GotAt.r0 {w : World} {rb : Nat} {v : Value} {at_ e : Int} (h : GotAt w rb v at_ e) (x : Value) : (w.setCell ⟨rb, 0, none⟩ x).cell? ⟨rb, 0, none⟩ = some x := cell_of_obj (obj_setCell h 0 x) rfl
theorem GotAt.r1 {w : World} {rb : Nat} {v : Value} {at_ e : Int} (h : GotAt w rb v at_ e) (x y : Value) : ((w.setCell ⟨rb, 0, none⟩ x).setCell ⟨rb, 1, none⟩ y).cell? ⟨rb, 1, none⟩ = some y := cell_of_obj (obj_setCell (obj_setCell h 0 x) 1 y) rfl
theorem GotAt.r2 {w : World} {rb : Nat} {v : Value} {at_ e : Int} (h : GotAt w rb v at_ e) (x y z : Value) : (((w.setCell ⟨rb, 0, none⟩ x).setCell ⟨rb, 1, none⟩ y).setCell ⟨rb, 2, none⟩ z).cell? ⟨rb, 2, none⟩ = some z := cell_of_obj (obj_setCell (obj_setCell (obj_setCell h 0 x) 1 y) 2 z) rfl

theorem Tryd.infoTokR : (Tryd.prog.info? 98).map (fun i => (i.zero, i.size, i.bytes)) = some (some (.agg #[.int .i64 0, .string ⟨#[]⟩, .slice none 0 0, .int .i64 0]), 4, 56) := by kernel_rfl

end Go.Proofs.YtfgbbmnmblchiaaDoor
