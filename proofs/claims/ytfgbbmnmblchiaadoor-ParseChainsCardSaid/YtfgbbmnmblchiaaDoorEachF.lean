/-
  A 'for': its words' block turned; how it ends.
-/
import Derived.Test.YtfgbbmnmblchiaaDoorEach
namespace Go.Proofs.YtfgbbmnmblchiaaDoor
open Go.RowKit
set_option linter.unusedVariables false

set_option maxRecDepth 10000 in
theorem clip_words (a : Option Addr) (n c : Nat) (hn : n ≤ c) (hc : c ≤ maxLen) (w : World) :
    Calls Tryd.prog 83 #[.slice a n c] w fun e w' => e = .returned (.slice a n n) ∧ w' = w := by
  have h1 : (n : Int) ≤ (c : Int) := by omega
  have h0 : (0 : Int) ≤ (n : Int) := by omega
  go_enter Tryd.func83, Tryd.ntmps83
  go_wp2
  go_ret
  exact ⟨rfl, rfl⟩

section
variable {w wr w' : World} {pb : Nat} {a : Option Addr} {c : Nat} {ts : List Lx.Tok} {vs : List Value} {rb nb : Nat} {k : Int} {nm : List UInt8} {q deep : Nat} {ps : List (List Lx.Part)} {wv : Value} {xs : List Value}

theorem BadB.fin6F {er : Int} {rb : Nat} {F : List Nat} (h : BadB w pb a c ts vs rb q deep er wr) {cs : List Value} (h6 : Six cs) (hc : Chg F wr w') (hF : ∀ j ∈ F, w.heap.size ≤ j) : RdPost w pb a c ts vs deep (.bad er q) (.returned (.tuple #[.agg cs.toArray, .bool false])) w' := by
  exact ⟨_, h6, rfl, h.ps.chg hc (fun j hj => by have := hF j hj; exact ⟨by have := h.old.1; omega, fun ht => by have := h.old.2 j ht; omega⟩), h.chg.trans hc (fun x hx => .inr (hF x hx))⟩

/-- what a reading leaves, its kind apart. -/
def Got (w : World) (pb : Nat) (a : Option Addr) (c : Nat) (ts : List Lx.Tok) (vs : List Value) (deep : Nat) (r : Ps.Res Ps.Node) (cs : List Value) (b : Bool) (w' : World) : Prop :=
  match r with
  | .bad er q => b = false ∧ PS w' pb a c ts vs q deep er
  | .ok n q => b = true ∧ NodeAt w' (Sn (.slice a ts.length c) vs w.heap.size w'.heap.size) n cs ∧ PS w' pb a c ts vs q deep 0
theorem RdPost.got {r : Ps.Res Ps.Node} {e : Ending} (h : RdPost w pb a c ts vs deep r e w') : ∃ cs b, Six cs ∧ e = .returned (.tuple #[.agg cs.toArray, .bool b]) ∧ Chg [pb] w w' ∧ Got w pb a c ts vs deep r cs b w' := by
  cases r with
  | bad er q =>
    obtain ⟨cs, h6, he, hp, hc⟩ := h
    exact ⟨cs, false, h6, he, hc, rfl, hp⟩
  | ok n q =>
    obtain ⟨cs, hn, he, hp, hc⟩ := h
    exact ⟨cs, true, hn.Six, he, hc, rfl, hn, hp⟩

theorem WordsB.setName (h : WordsB w pb a c ts vs rb nb k nm q deep ps wv xs wr) (s : List UInt8) : WordsB w pb a c ts vs rb nb k s q deep ps wv xs (wr.setCell ⟨nb, 2, none⟩ (.string (Lx.strB s))) := by
  have hs : Chg [nb] wr (wr.setCell ⟨nb, 2, none⟩ (.string (Lx.strB s))) := (Chg.refl [nb] wr).setCell _ _ (.inl (by simp))
  have hnb := h.nb0
  exact
    { base := h.base.turnL hs (fun j hj => by simp at hj; omega)
      nd := obj_setCell h.nd 2 _
      row := h.row.kept hs (fun j hj => by simp; exact (h.new j hj).2)
      words := WordsAt.kept hs (fun j hj ht => by simp at hj; subst hj; have := h.base.old.2 _ ht; omega) h.words
      new := h.new
      nb0 := hnb
      few := h.few }

theorem WordsB.setAt (h : WordsB w pb a c ts vs rb nb k nm q deep ps wv xs wr) (z : Int) (hz : z = ((q + 1 : Nat) : Int)) (hq : q + 1 ≤ ts.length) : WordsB w pb a c ts vs rb nb k nm (q + 1) deep ps wv xs (wr.setCell ⟨pb, 1, none⟩ (.int .i64 z)) :=
  h.call (Chg.setP _ _ _ _) (h.base.ps.setAt (q + 1) z hz hq) (by omega)

/-- a 'for' at its end. -/
theorem WordsB.fin {wa : Option Addr} {wn wc : Nat} (h : WordsB w pb a c ts vs rb nb k nm q deep ps (.slice wa wn wc) xs wr) (hwn : wn = ps.length) {x : Ps.Node} {cs : List Value} {lo kb : Nat} (hlo : nb < lo) (hlw : ∀ j ∈ rowBlock (.slice wa wn wc), j < lo)
    (hx : NodeAt wr (Sn (.slice a ts.length c) vs lo wr.heap.size) x cs) (hc : Chg [w.heap.size, nb] wr w') (hk : w.heap.size ≤ kb) (hkb : w'.heap[kb]? = some (.cells cs.toArray 30 (0, 0))) :
    RdPost w pb a c ts vs deep (.ok (.mk k [x] nm ps [] []) q) (.returned (.tuple #[.agg #[.int .i64 k, .slice (some ⟨kb, 0, none⟩) 1 1, .string (Lx.strB nm), .slice wa wn wn, .slice none 0 0, .slice none 0 0], .bool true])) w' := by
  subst hwn
  have hnb := h.nb0
  have hsz := hc.size
  have hmem : ∀ j ∈ [w.heap.size, nb], w.heap.size ≤ j := fun j hj => by
    simp only [List.mem_cons, List.not_mem_nil, or_false] at hj
    omega
  have hlow : w.heap.size ≤ nb := by omega
  have hone := hx.one.1
  have hrow : Row w' 30 6 (.slice (some ⟨kb, 0, none⟩) 1 1) 1 cs :=
    ⟨hone, .inr ⟨kb, _, _, rfl, hkb, Nat.le_refl _, by decide, by simp [hone], by rw [List.take_of_length_le (by simp [hone])]⟩⟩
  have hN : NodeAt w' (Sn (.slice a ts.length c) vs w.heap.size w'.heap.size) x cs := by
    refine NodeAt.mono (fun j hj => hj.imp id (fun h => ⟨by omega, by omega⟩)) _ _ (NodeAt.kept hc (fun j hj hS => ?_) _ _ hx)
    have h1 := hmem j hj
    rcases hS with h2 | h2
    · have := h.base.old.2 _ h2; omega
    · simp only [List.mem_cons, List.not_mem_nil, or_false] at hj
      rcases hj with rfl | rfl <;> omega
  have hle : ps.length ≤ wc := by
    obtain ⟨a', cap, hv, hle, _⟩ := h.row.shape
    cases hv
    exact hle
  have hr : Row w' 49 1 (.slice wa ps.length ps.length) ps.length xs := Row.clip (h.row.kept hc (fun j hj hm => by
    have h1 := h.new j hj
    simp only [List.mem_cons, List.not_mem_nil, or_false] at hm
    omega))
  have hW : WordsAt w' (Sn (.slice a ts.length c) vs w.heap.size w'.heap.size) ps xs := WordsAt.mono (fun j hj => .inl hj) (WordsAt.kept hc (fun j hj hS => by have := hmem j hj; have := h.base.old.2 _ hS; omega) h.words)
  refine ⟨_, ?_, rfl, h.base.ps.chg hc (fun j hj => ?_), h.base.chg.trans hc (fun x hx => .inr (hmem x hx))⟩
  · unfold NodeAt
    refine ⟨_, _, _, _, cs, xs, [], [], rfl, Row.sl hrow (fun j hj => ?_), NodesAt.of1 hN, Row.sl hr (fun j hj => ?_), hW, Sl.nil _ _ _ _, rfl, Sl.nil _ _ _ _, rfl⟩
    · have hj2 : j = kb := by
        simp only [rowBlock] at hj
        split at hj
        · simp at hj
        · simpa using hj
      subst hj2
      exact .inr ⟨hk, lt_of_obj hkb⟩
    · have h1 := rowBlock_clip wa ps.length ps.length wc hle j hj
      have h2 := Row.block_lt h.row j h1
      exact .inr ⟨by have := (h.new j h1).1; omega, by omega⟩
  · have h1 := hmem j hj
    exact ⟨by have := h.base.old.1; omega, fun ht => by have := h.base.old.2 _ ht; omega⟩
end

end Go.Proofs.YtfgbbmnmblchiaaDoor
