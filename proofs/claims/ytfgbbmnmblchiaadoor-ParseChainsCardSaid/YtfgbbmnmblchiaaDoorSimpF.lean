/-
  A command of words: how it lies in memory while it grows; plain steps; redirections' signs.
-/
import Derived.Test.YtfgbbmnmblchiaaDoorEachF
import Derived.Test.YtfgbbmnmblchiaaDoorSet
import Derived.Maps.OwnSet
import Derived.Maps.Range
namespace Go.Proofs.YtfgbbmnmblchiaaDoor
open Go.RowKit
set_option linter.unusedVariables false

section
variable {ts : List Lx.Tok} {f p : Nat} {cm : Ps.Cmd} {t u : Lx.Tok}
theorem simpleL_none (h : ts[p]? = none) : Ps.simpleL ts (f + 1) p cm = .ok cm p := by
  conv => lhs; unfold Ps.simpleL
  rw [h]
theorem simpleL_red (h : ts[p]? = some t) (h2 : t.kind = 2 ∧ 0 < Ps.redK t.text) (h3 : ts[p + 1]? = some u) (h4 : u.kind = 1) : Ps.simpleL ts (f + 1) p cm = Ps.simpleL ts f (p + 2) { cm with reds := cm.reds ++ [⟨Ps.redK t.text, u.parts⟩] } := by
  conv => lhs; unfold Ps.simpleL
  rw [h]
  show (if _ then _ else _) = _
  rw [if_pos h2, h3]
  show (if _ then _ else _) = _
  rw [if_pos h4]
theorem simpleL_red0 (h : ts[p]? = some t) (h2 : t.kind = 2 ∧ 0 < Ps.redK t.text) (h3 : Ps.isT ts (p + 1) 1 [] = false) : Ps.simpleL ts (f + 1) p cm = .bad 10 (p + 1) := by
  conv => lhs; unfold Ps.simpleL
  rw [h]
  show (if _ then _ else _) = _
  rw [if_pos h2]
  cases hu : ts[p + 1]? with
  | none => rfl
  | some u =>
    show (if _ then _ else _) = _
    rw [isT_some hu] at h3
    rw [if_neg (by simpa using h3)]
theorem simpleL_stop (h : ts[p]? = some t) (h2 : ¬ (t.kind = 2 ∧ 0 < Ps.redK t.text)) (h3 : ¬ t.kind = 1) : Ps.simpleL ts (f + 1) p cm = .ok cm p := by
  conv => lhs; unfold Ps.simpleL
  rw [h]
  show (if _ then _ else _) = _
  rw [if_neg h2, if_pos h3]
theorem simpleL_word (h : ts[p]? = some t) (h3 : t.kind = 1) : Ps.simpleL ts (f + 1) p cm = Ps.simpleL ts f (p + 1) (cm.put t) := by
  conv => lhs; unfold Ps.simpleL
  rw [h]
  show (if _ then _ else _) = _
  rw [if_neg (by rw [h3]; exact fun h => absurd h.1 (by decide)), if_neg (by rw [h3]; exact fun h => h rfl)]
theorem put_set {s : Ps.SetP} (h : Ps.setP t = some s) (h2 : cm.words = []) : cm.put t = { cm with sets := cm.sets ++ [s] } := by
  unfold Ps.Cmd.put
  rw [h]
  exact if_pos h2
theorem put_set2 {s : Ps.SetP} (h : Ps.setP t = some s) (h2 : ¬ cm.words = []) : cm.put t = { cm with words := cm.words ++ [t.parts] } := by
  unfold Ps.Cmd.put
  rw [h]
  exact if_neg h2
theorem put_word (h : Ps.setP t = none) : cm.put t = { cm with words := cm.words ++ [t.parts] } := by
  unfold Ps.Cmd.put
  rw [h]
theorem simpleP_bad {e : Int} {b : Nat} (h : Ps.simpleL ts (ts.length + 1) p ⟨[], [], []⟩ = .bad e b) : Ps.simpleP ts p = .bad e b := by unfold Ps.simpleP; rw [h]
theorem simpleP_none (h : Ps.simpleL ts (ts.length + 1) p ⟨[], [], []⟩ = .ok cm p) : Ps.simpleP ts p = .bad 10 p := by
  unfold Ps.simpleP
  rw [h]
  exact if_pos rfl
theorem simpleP_ok {q : Nat} (h : Ps.simpleL ts (ts.length + 1) p ⟨[], [], []⟩ = .ok cm q) (h2 : ¬ q = p) : Ps.simpleP ts p = .ok (.mk 5 [] [] cm.words cm.sets cm.reds) q := by
  unfold Ps.simpleP
  rw [h]
  exact if_neg h2
end

theorem Tryd.infoSet : (Tryd.prog.info? 77).map (fun i => (i.zero, i.size, i.bytes)) = some (some (.agg #[.string ⟨#[]⟩, .slice none 0 0]), 2, 40) := by kernel_rfl
theorem Tryd.infoRed : (Tryd.prog.info? 51).map (fun i => (i.zero, i.size, i.bytes)) = some (some (.agg #[.int .i64 0, .slice none 0 0]), 2, 32) := by kernel_rfl

set_option maxRecDepth 10000 in
theorem clip_sets (a : Option Addr) (n c : Nat) (hn : n ≤ c) (hc : c ≤ maxLen) (w : World) :
    Calls Tryd.prog 84 #[.slice a n c] w fun e w' => e = .returned (.slice a n n) ∧ w' = w := by
  have h1 : (n : Int) ≤ (c : Int) := by omega
  have h0 : (0 : Int) ≤ (n : Int) := by omega
  go_enter Tryd.func84, Tryd.ntmps84
  go_wp2
  go_ret
  exact ⟨rfl, rfl⟩
set_option maxRecDepth 10000 in
theorem clip_reds (a : Option Addr) (n c : Nat) (hn : n ≤ c) (hc : c ≤ maxLen) (w : World) :
    Calls Tryd.prog 85 #[.slice a n c] w fun e w' => e = .returned (.slice a n n) ∧ w' = w := by
  have h1 : (n : Int) ≤ (c : Int) := by omega
  have h0 : (0 : Int) ≤ (n : Int) := by omega
  go_enter Tryd.func85, Tryd.ntmps85
  go_wp2
  go_ret
  exact ⟨rfl, rfl⟩

/-- what the words of sets lie among. -/
def Sc (tv : Value) (vs : List Value) (lo hi nb : Nat) (wv sv rv : Value) (j : Nat) : Prop := TB tv vs j ∨ (lo < j ∧ j < hi ∧ j ≠ nb ∧ j ∉ rowBlock wv ∧ j ∉ rowBlock sv ∧ j ∉ rowBlock rv)

/-- a command of words that grows. -/
structure CmdB (w : World) (pb : Nat) (a : Option Addr) (c : Nat) (ts : List Lx.Tok) (vs : List Value) (nb : Nat) (q deep : Nat) (cm : Ps.Cmd) (wv sv rv : Value) (wx sx rx : List Value) (wr : World) : Prop where
  base : Base w pb a c ts vs q deep wr
  nd : wr.heap[nb]? = some (.cells #[.int .i64 5, .slice none 0 0, .string ⟨#[]⟩, wv, sv, rv] 30 (0, 0))
  rw : Row wr 49 1 wv cm.words.length wx
  rs : Row wr 77 2 sv cm.sets.length sx
  rr : Row wr 51 2 rv cm.reds.length rx
  words : WordsAt wr (TB (.slice a ts.length c) vs) cm.words wx
  sets : SetsAt wr (Sc (.slice a ts.length c) vs w.heap.size wr.heap.size nb wv sv rv) cm.sets sx
  reds : RedsAt wr (TB (.slice a ts.length c) vs) cm.reds rx
  new : ∀ k, k ∈ rowBlock wv ∨ k ∈ rowBlock sv ∨ k ∈ rowBlock rv → w.heap.size < k ∧ k ≠ nb
  d1 : ∀ k ∈ rowBlock wv, k ∉ rowBlock sv
  d2 : ∀ k ∈ rowBlock wv, k ∉ rowBlock rv
  d3 : ∀ k ∈ rowBlock sv, k ∉ rowBlock rv
  nb0 : w.heap.size < nb
  few : cm.words.length ≤ q + 1 ∧ cm.sets.length ≤ q + 1 ∧ cm.reds.length ≤ q + 1

section
variable {w wr w' w1 w2 w3 w4 : World} {pb : Nat} {a : Option Addr} {c : Nat} {ts : List Lx.Tok} {vs : List Value} {nb : Nat} {q deep : Nat} {cm : Ps.Cmd} {wv sv rv : Value} {wx sx rx : List Value}

theorem CmdB.call (h : CmdB w pb a c ts vs nb q deep cm wv sv rv wx sx rx wr) (hc : Chg [pb] wr w') {q' : Nat} (hp : PS w' pb a c ts vs q' deep 0) (hq : q ≤ q') : CmdB w pb a c ts vs nb q' deep cm wv sv rv wx sx rx w' := by
  have h1 := h.base.old.1
  have h2 := h.nb0
  have hn : ∀ k, k ∈ rowBlock wv ∨ k ∈ rowBlock sv ∨ k ∈ rowBlock rv → k ∉ [pb] := fun k hk => by have := (h.new k hk).1; simp; omega
  have ht : ∀ j ∈ [pb], ¬ TB (.slice a ts.length c) vs j := fun j hj => by simp at hj; subst hj; exact h.base.ps.out
  exact
    { h with
      base := h.base.call hc hp
      nd := hc.obj h.nd (by simp; omega)
      rw := h.rw.kept hc (fun j hj => hn j (.inl hj))
      rs := h.rs.kept hc (fun j hj => hn j (.inr (.inl hj)))
      rr := h.rr.kept hc (fun j hj => hn j (.inr (.inr hj)))
      words := WordsAt.kept hc ht h.words
      sets := SetsAt.mono (fun j hj => hj.imp id (fun h => ⟨h.1, Nat.lt_of_lt_of_le h.2.1 hc.size, h.2.2⟩)) (SetsAt.kept hc (fun j hj hS => by
        rcases hS with h3 | h3
        · exact ht j hj h3
        · simp at hj; omega) h.sets)
      reds := RedsAt.kept hc ht h.reds
      few := ⟨by have := h.few.1; omega, by have := h.few.2.1; omega, by have := h.few.2.2; omega⟩ }
theorem CmdB.kept0 (h : CmdB w pb a c ts vs nb q deep cm wv sv rv wx sx rx wr) (hc : Chg [] wr w') : CmdB w pb a c ts vs nb q deep cm wv sv rv wx sx rx w' := h.call (hc.mono (by simp)) (h.base.ps.chg0 hc) (Nat.le_refl _)
theorem CmdB.setAt (h : CmdB w pb a c ts vs nb q deep cm wv sv rv wx sx rx wr) (z : Int) (hz : z = ((q + 1 : Nat) : Int)) (hq : q + 1 ≤ ts.length) : CmdB w pb a c ts vs nb (q + 1) deep cm wv sv rv wx sx rx (wr.setCell ⟨pb, 1, none⟩ (.int .i64 z)) :=
  h.call (Chg.setP _ _ _ _) (h.base.ps.setAt (q + 1) z hz hq) (by omega)

theorem CmdB.start (h : PS w pb a c ts vs q deep 0) :
    CmdB w pb a c ts vs (w.heap.size + 1) q deep ⟨[], [], []⟩ (.slice none 0 0) (.slice none 0 0) (.slice none 0 0) [] [] [] ((w.alloc (.cells (nodeC 0 (.slice none 0 0)) 30)).alloc (.cells (nodeC 5 (.slice none 0 0)) 30)) := by
  have e : (w.alloc (.cells (nodeC 0 (.slice none 0 0)) 30)).heap.size = w.heap.size + 1 := by simp
  exact
    { base := (Base.start h).kept0 ((Chg.refl [] _).alloc _)
      nd := by rw [← e]; exact obj_alloc_new _ _
      rw := Row.nil _ _ _ _
      rs := Row.nil _ _ _ _
      rr := Row.nil _ _ _ _
      words := rfl
      sets := rfl
      reds := rfl
      new := by simp [rowBlock]
      d1 := by simp [rowBlock]
      d2 := by simp [rowBlock]
      d3 := by simp [rowBlock]
      nb0 := by omega
      few := ⟨Nat.zero_le _, Nat.zero_le _, Nat.zero_le _⟩ }

/-- what a change of the rows' blocks and of the node's leaves. -/
theorem CmdB.stay (h : CmdB w pb a c ts vs nb q deep cm wv sv rv wx sx rx w1) {F : List Nat} (hF : ∀ k ∈ F, k = nb ∨ k ∈ rowBlock wv ∨ k ∈ rowBlock sv ∨ k ∈ rowBlock rv) (hc : Chg F w1 w4) {wv' sv' rv' : Value}
    (hb : ∀ k, k ∈ rowBlock wv' ∨ k ∈ rowBlock sv' ∨ k ∈ rowBlock rv' → (k ∈ rowBlock wv ∨ k ∈ rowBlock sv ∨ k ∈ rowBlock rv) ∨ w1.heap.size ≤ k) :
    Base w pb a c ts vs q deep w4 ∧ WordsAt w4 (TB (.slice a ts.length c) vs) cm.words wx ∧ SetsAt w4 (Sc (.slice a ts.length c) vs w.heap.size w4.heap.size nb wv' sv' rv') cm.sets sx ∧ RedsAt w4 (TB (.slice a ts.length c) vs) cm.reds rx ∧ (∀ k, k ∈ rowBlock wv' ∨ k ∈ rowBlock sv' ∨ k ∈ rowBlock rv' → w.heap.size < k ∧ k ≠ nb) := by
  have hnb := h.nb0
  have hnl := lt_of_obj h.nd
  have hsz := h.base.chg.size
  have hlt : ∀ k ∈ F, w.heap.size < k := fun k hk => by
    rcases hF k hk with h1 | h1
    · omega
    · exact (h.new k h1).1
  have ht : ∀ j ∈ F, ¬ TB (.slice a ts.length c) vs j := fun j hj hT => by have := hlt j hj; have := h.base.old.2 j hT; omega
  refine ⟨h.base.turnL hc hlt, WordsAt.kept hc ht h.words, ?_, RedsAt.kept hc ht h.reds, fun k hk => ?_⟩
  · refine SetsAt.mono (fun j hj => hj.imp id (fun h3 => ?_)) (SetsAt.kept hc (fun j hj hS => ?_) h.sets)
    · rcases hS with h3 | h3
      · exact ht j hj h3
      · rcases hF j hj with h4 | h4 | h4 | h4
        · exact h3.2.2.1 h4
        · exact h3.2.2.2.1 h4
        · exact h3.2.2.2.2.1 h4
        · exact h3.2.2.2.2.2 h4
    · have hno : ¬ (j ∈ rowBlock wv' ∨ j ∈ rowBlock sv' ∨ j ∈ rowBlock rv') := fun hj2 => by
        rcases hb j hj2 with (h4 | h4 | h4) | h4
        · exact h3.2.2.2.1 h4
        · exact h3.2.2.2.2.1 h4
        · exact h3.2.2.2.2.2 h4
        · omega
      exact ⟨h3.1, Nat.lt_of_lt_of_le h3.2.1 hc.size, h3.2.2.1, fun h4 => hno (.inl h4), fun h4 => hno (.inr (.inl h4)), fun h4 => hno (.inr (.inr h4))⟩
  · rcases hb k hk with h4 | h4
    · exact h.new k h4
    · exact ⟨by omega, by omega⟩

theorem CmdB.addW (h : CmdB w pb a c ts vs nb q deep cm wv sv rv wx sx rx w1) {p : List Lx.Part} {u v' : Value} (hn : WordIn w1 (TB (.slice a ts.length c) vs) 0 u p) (h12 : Chg [] w1 w2) (hr : Row w3 49 1 v' (cm.words.length + 1) (wx ++ [u]))
    (h23 : Chg (rowBlock wv) w2 w3) (hb : ∀ k ∈ rowBlock v', k ∈ rowBlock wv ∨ w1.heap.size ≤ k) (hf : cm.words.length ≤ q) : CmdB w pb a c ts vs nb q deep { cm with words := cm.words ++ [p] } v' sv rv (wx ++ [u]) sx rx (w3.setCell ⟨nb, 3, none⟩ v') := by
  have h13 : Chg (rowBlock wv) w1 w3 := (h12.mono (by simp)).trans h23 (fun x hx => .inl hx)
  have h14 : Chg (nb :: rowBlock wv) w1 (w3.setCell ⟨nb, 3, none⟩ v') := (h13.mono (fun x hx => .inl (by simp [hx]))).setCell _ _ (.inl (by simp))
  obtain ⟨s1, s2, s3, s4, s5⟩ := h.stay (wv' := v') (sv' := sv) (rv' := rv) (fun k hk => by simp at hk; exact hk.imp id .inl) h14 (fun k hk => by
    rcases hk with h1 | h1 | h1
    · exact (hb k h1).imp .inl id
    · exact .inl (.inr (.inl h1))
    · exact .inl (.inr (.inr h1)))
  have hs : Chg [nb] w3 (w3.setCell ⟨nb, 3, none⟩ v') := (Chg.refl [nb] w3).setCell _ _ (.inl (by simp))
  have hlt := fun k hk => Row.block_lt h.rs k hk
  have hlt2 := fun k hk => Row.block_lt h.rr k hk
  have hw := WordsAt.kept h14 (fun j hj hT => by
    have := h.base.old.2 j hT
    simp at hj
    rcases hj with rfl | hj
    · have := h.nb0; omega
    · have := (h.new j (.inl hj)).1; omega) (WordsAt.snoc h.words hn)
  exact
    { base := s1
      nd := obj_setCell (h13.obj h.nd (fun hj => (h.new _ (.inl hj)).2 rfl)) 3 v'
      rw := by
        rw [List.length_append, List.length_singleton]
        exact hr.kept hs (fun j hj => by simp; exact (s5 j (.inl hj)).2)
      rs := h.rs.kept h14 (fun j hj hm => by simp at hm; exact hm.elim (h.new j (.inr (.inl hj))).2 (fun h1 => h.d1 j h1 hj))
      rr := h.rr.kept h14 (fun j hj hm => by simp at hm; exact hm.elim (h.new j (.inr (.inr hj))).2 (fun h1 => h.d2 j h1 hj))
      words := hw
      sets := s3
      reds := s4
      new := s5
      d1 := fun k hk hk2 => (hb k hk).elim (fun h1 => h.d1 k h1 hk2) (fun h1 => by have := hlt k hk2; omega)
      d2 := fun k hk hk2 => (hb k hk).elim (fun h1 => h.d2 k h1 hk2) (fun h1 => by have := hlt2 k hk2; omega)
      d3 := h.d3
      nb0 := h.nb0
      few := ⟨by rw [List.length_append, List.length_singleton]; omega, h.few.2⟩ }

theorem CmdB.addR (h : CmdB w pb a c ts vs nb q deep cm wv sv rv wx sx rx w1) {p : List Lx.Part} {k0 : Int} {u v' : Value} (hn : WordIn w1 (TB (.slice a ts.length c) vs) 0 u p) (h12 : Chg [] w1 w2) (hr : Row w3 51 2 v' (cm.reds.length + 1) (rx ++ [.int .i64 k0, u]))
    (h23 : Chg (rowBlock rv) w2 w3) (hb : ∀ k ∈ rowBlock v', k ∈ rowBlock rv ∨ w1.heap.size ≤ k) (hf : cm.reds.length ≤ q) : CmdB w pb a c ts vs nb q deep { cm with reds := cm.reds ++ [⟨k0, p⟩] } wv sv v' wx sx (rx ++ [.int .i64 k0, u]) (w3.setCell ⟨nb, 5, none⟩ v') := by
  have h13 : Chg (rowBlock rv) w1 w3 := (h12.mono (by simp)).trans h23 (fun x hx => .inl hx)
  have h14 : Chg (nb :: rowBlock rv) w1 (w3.setCell ⟨nb, 5, none⟩ v') := (h13.mono (fun x hx => .inl (by simp [hx]))).setCell _ _ (.inl (by simp))
  obtain ⟨s1, s2, s3, s4, s5⟩ := h.stay (wv' := wv) (sv' := sv) (rv' := v') (fun k hk => by simp at hk; exact hk.imp id (fun h => .inr (.inr h))) h14 (fun k hk => by
    rcases hk with h1 | h1 | h1
    · exact .inl (.inl h1)
    · exact .inl (.inr (.inl h1))
    · exact (hb k h1).imp (fun h => .inr (.inr h)) id)
  have hs : Chg [nb] w3 (w3.setCell ⟨nb, 5, none⟩ v') := (Chg.refl [nb] w3).setCell _ _ (.inl (by simp))
  have hlt := fun k hk => Row.block_lt h.rs k hk
  have hlt2 := fun k hk => Row.block_lt h.rw k hk
  have hw := RedsAt.kept h14 (fun j hj hT => by
    have := h.base.old.2 j hT
    simp at hj
    rcases hj with rfl | hj
    · have := h.nb0; omega
    · have := (h.new j (.inr (.inr hj))).1; omega) (RedsAt.snoc (r := ⟨k0, p⟩) h.reds hn)
  exact
    { base := s1
      nd := obj_setCell (h13.obj h.nd (fun hj => (h.new _ (.inr (.inr hj))).2 rfl)) 5 v'
      rr := by
        rw [List.length_append, List.length_singleton]
        exact hr.kept hs (fun j hj => by simp; exact (s5 j (.inr (.inr hj))).2)
      rs := h.rs.kept h14 (fun j hj hm => by simp at hm; exact hm.elim (h.new j (.inr (.inl hj))).2 (fun h1 => h.d3 j hj h1))
      rw := h.rw.kept h14 (fun j hj hm => by simp at hm; exact hm.elim (h.new j (.inl hj)).2 (fun h1 => h.d2 j hj h1))
      words := s2
      sets := s3
      reds := hw
      new := s5
      d1 := h.d1
      d2 := fun k hk hk2 => (hb k hk2).elim (fun h1 => h.d2 k hk h1) (fun h1 => by have := hlt2 k hk; omega)
      d3 := fun k hk hk2 => (hb k hk2).elim (fun h1 => h.d3 k hk h1) (fun h1 => by have := hlt k hk; omega)
      nb0 := h.nb0
      few := ⟨h.few.1, h.few.2.1, by rw [List.length_append, List.length_singleton]; omega⟩ }

theorem CmdB.addS (h : CmdB w pb a c ts vs nb q deep cm wv sv rv wx sx rx w1) {s : Ps.SetP} {u v' : Value} {off : Nat} (hn : WordIn w1 (Sc (.slice a ts.length c) vs w.heap.size w1.heap.size nb wv sv rv) off u s.word) (h12 : Chg [] w1 w2) (hr : Row w3 77 2 v' (cm.sets.length + 1) (sx ++ [.string (Lx.strB s.name), u]))
    (h23 : Chg (rowBlock sv) w2 w3) (hb : ∀ k ∈ rowBlock v', k ∈ rowBlock sv ∨ w1.heap.size ≤ k) (hf : cm.sets.length ≤ q) : CmdB w pb a c ts vs nb q deep { cm with sets := cm.sets ++ [s] } wv v' rv wx (sx ++ [.string (Lx.strB s.name), u]) rx (w3.setCell ⟨nb, 4, none⟩ v') := by
  have h13 : Chg (rowBlock sv) w1 w3 := (h12.mono (by simp)).trans h23 (fun x hx => .inl hx)
  have h14 : Chg (nb :: rowBlock sv) w1 (w3.setCell ⟨nb, 4, none⟩ v') := (h13.mono (fun x hx => .inl (by simp [hx]))).setCell _ _ (.inl (by simp))
  have h' : CmdB w pb a c ts vs nb q deep cm wv sv rv wx sx rx w1 := h
  obtain ⟨s1, s2, s3, s4, s5⟩ := h.stay (wv' := wv) (sv' := v') (rv' := rv) (fun k hk => by simp at hk; exact hk.imp id (fun h => .inr (.inl h))) h14 (fun k hk => by
    rcases hk with h1 | h1 | h1
    · exact .inl (.inl h1)
    · exact (hb k h1).imp (fun h => .inr (.inl h)) id
    · exact .inl (.inr (.inr h1)))
  have hs : Chg [nb] w3 (w3.setCell ⟨nb, 4, none⟩ v') := (Chg.refl [nb] w3).setCell _ _ (.inl (by simp))
  have hlt := fun k hk => Row.block_lt h.rw k hk
  have hlt2 := fun k hk => Row.block_lt h.rr k hk
  have hF : ∀ j ∈ nb :: rowBlock sv, ¬ Sc (.slice a ts.length c) vs w.heap.size w1.heap.size nb wv sv rv j := fun j hj hS => by
    simp at hj
    rcases hS with h3 | h3
    · have := h.base.old.2 j h3
      rcases hj with rfl | hj
      · have := h.nb0; omega
      · have := (h.new j (.inr (.inl hj))).1; omega
    · exact hj.elim h3.2.2.1 h3.2.2.2.2.1
  have hw := SetsAt.mono (S' := Sc (.slice a ts.length c) vs w.heap.size (w3.setCell ⟨nb, 4, none⟩ v').heap.size nb wv v' rv) (fun j hj => hj.imp id (fun h3 => ⟨h3.1, Nat.lt_of_lt_of_le h3.2.1 h14.size, h3.2.2.1, h3.2.2.2.1, fun h4 => (hb j h4).elim h3.2.2.2.2.1 (fun h5 => by omega), h3.2.2.2.2.2⟩)) (SetsAt.kept h14 hF (SetsAt.snoc h.sets hn))
  exact
    { base := s1
      nd := obj_setCell (h13.obj h.nd (fun hj => (h.new _ (.inr (.inl hj))).2 rfl)) 4 v'
      rs := by
        rw [List.length_append, List.length_singleton]
        exact hr.kept hs (fun j hj => by simp; exact (s5 j (.inr (.inl hj))).2)
      rw := h.rw.kept h14 (fun j hj hm => by simp at hm; exact hm.elim (h.new j (.inl hj)).2 (fun h1 => h.d1 j hj h1))
      rr := h.rr.kept h14 (fun j hj hm => by simp at hm; exact hm.elim (h.new j (.inr (.inr hj))).2 (fun h1 => h.d3 j h1 hj))
      words := s2
      sets := hw
      reds := s4
      new := s5
      d1 := fun k hk hk2 => (hb k hk2).elim (fun h1 => h.d1 k hk h1) (fun h1 => by have := hlt k hk; omega)
      d2 := h.d2
      d3 := fun k hk hk2 => (hb k hk).elim (fun h1 => h.d3 k h1 hk2) (fun h1 => by have := hlt2 k hk2; omega)
      nb0 := h.nb0
      few := ⟨h.few.1, by rw [List.length_append, List.length_singleton]; omega, h.few.2.2⟩ }

/-- a command at its end. -/
theorem CmdB.fin {wa sa ra : Option Addr} {wn wc sn sc rn rc : Nat} (h : CmdB w pb a c ts vs nb q deep cm (.slice wa wn wc) (.slice sa sn sc) (.slice ra rn rc) wx sx rx wr) (h1 : wn = cm.words.length) (h2 : sn = cm.sets.length) (h3 : rn = cm.reds.length) (hc : Chg [w.heap.size, nb] wr w') :
    RdPost w pb a c ts vs deep (.ok (.mk 5 [] [] cm.words cm.sets cm.reds) q) (.returned (.tuple #[.agg #[.int .i64 5, .slice none 0 0, .string ⟨#[]⟩, .slice wa wn wn, .slice sa sn sn, .slice ra rn rn], .bool true])) w' := by
  subst h1 h2 h3
  have hnb := h.nb0
  have hsz := hc.size
  have hmem : ∀ j ∈ [w.heap.size, nb], w.heap.size ≤ j := fun j hj => by
    simp only [List.mem_cons, List.not_mem_nil, or_false] at hj
    omega
  have ht : ∀ j ∈ [w.heap.size, nb], ¬ TB (.slice a ts.length c) vs j := fun j hj hT => by have := hmem j hj; have := h.base.old.2 j hT; omega
  have hne : ∀ k, k ∈ rowBlock (.slice wa cm.words.length wc) ∨ k ∈ rowBlock (.slice sa cm.sets.length sc) ∨ k ∈ rowBlock (.slice ra cm.reds.length rc) → k ∉ [w.heap.size, nb] := fun k hk hm => by
    have := h.new k hk
    simp only [List.mem_cons, List.not_mem_nil, or_false] at hm
    omega
  have l1 : cm.words.length ≤ wc := by obtain ⟨_, _, hv, hle, _⟩ := h.rw.shape; cases hv; exact hle
  have l2 : cm.sets.length ≤ sc := by obtain ⟨_, _, hv, hle, _⟩ := h.rs.shape; cases hv; exact hle
  have l3 : cm.reds.length ≤ rc := by obtain ⟨_, _, hv, hle, _⟩ := h.rr.shape; cases hv; exact hle
  have hin : ∀ {v : Value} {E : TypeId} {sz n : Nat} {xs : List Value}, Row wr E sz v n xs → (∀ j ∈ rowBlock v, w.heap.size < j) → ∀ j ∈ rowBlock v, Sn (.slice a ts.length c) vs w.heap.size w'.heap.size j := fun hr hl j hj => .inr ⟨by have := hl j hj; omega, by have := Row.block_lt hr j hj; omega⟩
  refine ⟨_, ?_, rfl, h.base.ps.chg hc (fun j hj => ?_), h.base.chg.trans hc (fun x hx => .inr (hmem x hx))⟩
  · unfold NodeAt
    refine ⟨_, _, _, _, [], wx, sx, rx, rfl, Sl.nil _ _ _ _, by unfold NodesAt; rfl, Row.sl (Row.clip (h.rw.kept hc (fun j hj => hne j (.inl hj)))) (fun j hj => hin h.rw (fun j hj => (h.new j (.inl hj)).1) j (rowBlock_clip _ _ _ _ l1 j hj)),
      WordsAt.mono (fun j hj => .inl hj) (WordsAt.kept hc ht h.words),
      Row.sl (Row.clip (h.rs.kept hc (fun j hj => hne j (.inr (.inl hj))))) (fun j hj => hin h.rs (fun j hj => (h.new j (.inr (.inl hj))).1) j (rowBlock_clip _ _ _ _ l2 j hj)),
      SetsAt.mono (fun j hj => hj.imp id (fun h4 => ⟨by omega, by omega⟩)) (SetsAt.kept hc (fun j hj hS => by
        rcases hS with h4 | h4
        · exact ht j hj h4
        · simp only [List.mem_cons, List.not_mem_nil, or_false] at hj
          omega) h.sets),
      Row.sl (Row.clip (h.rr.kept hc (fun j hj => hne j (.inr (.inr hj))))) (fun j hj => hin h.rr (fun j hj => (h.new j (.inr (.inr hj))).1) j (rowBlock_clip _ _ _ _ l3 j hj)),
      RedsAt.mono (fun j hj => .inl hj) (RedsAt.kept hc ht h.reds)⟩
  · exact ⟨by have := hmem j hj; have := h.base.old.1; omega, ht j hj⟩
end

end Go.Proofs.YtfgbbmnmblchiaaDoor
