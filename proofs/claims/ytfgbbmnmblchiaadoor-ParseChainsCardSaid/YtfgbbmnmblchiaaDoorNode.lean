/-
  How trees of commands lie in memory: S is what their blocks are among.
-/
import Derived.Test.YtfgbbmnmblchiaaDoorTokO
import Derived.Test.YtfgbbmnmblchiaaDoorPs
namespace Go.Proofs.YtfgbbmnmblchiaaDoor
open Go.RowKit
set_option linter.unusedVariables false

/-- a slice value of n elements that stands for cells, in a block of S, from 'off' on: to be read. -/
def Sl (w : World) (S : Nat → Prop) (off : Nat) (v : Value) (n : Nat) (xs : List Value) : Prop :=
  ∃ a c, v = .slice a n c ∧ n ≤ c ∧ c ≤ maxLen ∧ (xs ≠ [] → ∃ b, a = some ⟨b, off, none⟩ ∧ S b ∧ ∀ (j : Nat) (u : Value), xs[j]? = some u → w.cell? ⟨b, off + j, none⟩ = some u)

theorem Sl.kept {w w' : World} {S : Nat → Prop} {F : List Nat} {off n : Nat} {v : Value} {xs : List Value} (h : Sl w S off v n xs) (hc : Chg F w w') (hF : ∀ k ∈ F, ¬ S k) : Sl w' S off v n xs := by
  obtain ⟨a, c, h1, h2, h3, h4⟩ := h
  refine ⟨a, c, h1, h2, h3, fun hne => ?_⟩
  obtain ⟨b, rfl, hb, hx⟩ := h4 hne
  exact ⟨b, rfl, hb, fun j u hj => hc.cell (hx j u hj) (fun hk => hF b hk hb)⟩

theorem Sl.mono {w : World} {S S' : Nat → Prop} {off n : Nat} {v : Value} {xs : List Value} (h : Sl w S off v n xs) (hS : ∀ k, S k → S' k) : Sl w S' off v n xs := by
  obtain ⟨a, c, h1, h2, h3, h4⟩ := h
  refine ⟨a, c, h1, h2, h3, fun hne => ?_⟩
  obtain ⟨b, rfl, hb, hx⟩ := h4 hne
  exact ⟨b, rfl, hS b hb, hx⟩

theorem Sl.nil (w : World) (S : Nat → Prop) (off : Nat) (a : Option Addr) : Sl w S off (.slice a 0 0) 0 [] := ⟨a, 0, rfl, Nat.le_refl _, Nat.zero_le _, fun h => absurd rfl h⟩

theorem Row.sl {w : World} {S : Nat → Prop} {E : TypeId} {size n : Nat} {v : Value} {xs : List Value} (h : Row w E size v n xs) (hS : ∀ k ∈ rowBlock v, S k) : Sl w S 0 v n xs := by
  rcases h.2 with ⟨rfl, a, rfl⟩ | ⟨g, cap, cur, rfl, hg, h3, h4, h5, h6⟩
  · exact ⟨a, 0, rfl, Nat.le_refl _, Nat.zero_le _, fun hne => absurd (List.eq_nil_of_length_eq_zero (by simpa using h.1)) hne⟩
  · refine ⟨_, cap, rfl, h3, h4, fun hne => ⟨g, rfl, ?_, fun j u hj => by rw [Nat.zero_add]; exact cells_of_take hg h6 hj⟩⟩
    refine hS g (rowBlock_head g n cap h3 ?_)
    rcases Nat.eq_zero_or_pos n with h0 | h0
    · subst h0
      exact absurd (List.eq_nil_of_length_eq_zero (by simpa using h.1)) hne
    · exact h0

/-- a word's pieces. -/
def WordIn (w : World) (S : Nat → Prop) (off : Nat) (v : Value) (ps : List Lx.Part) : Prop := Sl w S off v ps.length (pcells ps)

theorem PartsAt.word {w : World} {S : Nat → Prop} {v : Value} {ps : List Lx.Part} (h : PartsAt w v ps) (hS : ∀ k ∈ rowBlock v, S k) : WordIn w S 0 v ps := Row.sl h hS

def WordsAt (w : World) (S : Nat → Prop) : List (List Lx.Part) → List Value → Prop
  | [], xs => xs = []
  | p :: ps, xs => ∃ u ys, xs = u :: ys ∧ WordIn w S 0 u p ∧ WordsAt w S ps ys
def SetsAt (w : World) (S : Nat → Prop) : List Ps.SetP → List Value → Prop
  | [], xs => xs = []
  | s :: ss, xs => ∃ u ys off, xs = .string (Lx.strB s.name) :: u :: ys ∧ WordIn w S off u s.word ∧ SetsAt w S ss ys
def RedsAt (w : World) (S : Nat → Prop) : List Ps.RedP → List Value → Prop
  | [], xs => xs = []
  | r :: rs, xs => ∃ u ys, xs = .int .i64 r.kind :: u :: ys ∧ WordIn w S 0 u r.word ∧ RedsAt w S rs ys

mutual
def NodeAt (w : World) (S : Nat → Prop) : Ps.Node → List Value → Prop
  | .mk kind kids name words sets reds, cs => ∃ kv wv sv rv kx wx sx rx, cs = [.int .i64 kind, kv, .string (Lx.strB name), wv, sv, rv] ∧ Sl w S 0 kv kids.length kx ∧ NodesAt w S kids kx ∧
      Sl w S 0 wv words.length wx ∧ WordsAt w S words wx ∧ Sl w S 0 sv sets.length sx ∧ SetsAt w S sets sx ∧ Sl w S 0 rv reds.length rx ∧ RedsAt w S reds rx
def NodesAt (w : World) (S : Nat → Prop) : List Ps.Node → List Value → Prop
  | [], xs => xs = []
  | n :: ns, xs => ∃ cs ys, xs = cs ++ ys ∧ NodeAt w S n cs ∧ NodesAt w S ns ys
end

section
variable {w w' : World} {S S' : Nat → Prop} {F : List Nat}

theorem WordsAt.kept (hc : Chg F w w') (hF : ∀ k ∈ F, ¬ S k) : ∀ {ps : List (List Lx.Part)} {xs : List Value}, WordsAt w S ps xs → WordsAt w' S ps xs
  | [], _, h => h
  | _ :: _, _, ⟨u, ys, h1, h2, h3⟩ => ⟨u, ys, h1, Sl.kept h2 hc hF, WordsAt.kept hc hF h3⟩
theorem SetsAt.kept (hc : Chg F w w') (hF : ∀ k ∈ F, ¬ S k) : ∀ {ps : List Ps.SetP} {xs : List Value}, SetsAt w S ps xs → SetsAt w' S ps xs
  | [], _, h => h
  | _ :: _, _, ⟨u, ys, off, h1, h2, h3⟩ => ⟨u, ys, off, h1, Sl.kept h2 hc hF, SetsAt.kept hc hF h3⟩
theorem RedsAt.kept (hc : Chg F w w') (hF : ∀ k ∈ F, ¬ S k) : ∀ {ps : List Ps.RedP} {xs : List Value}, RedsAt w S ps xs → RedsAt w' S ps xs
  | [], _, h => h
  | _ :: _, _, ⟨u, ys, h1, h2, h3⟩ => ⟨u, ys, h1, Sl.kept h2 hc hF, RedsAt.kept hc hF h3⟩
theorem WordsAt.mono (hS : ∀ k, S k → S' k) : ∀ {ps : List (List Lx.Part)} {xs : List Value}, WordsAt w S ps xs → WordsAt w S' ps xs
  | [], _, h => h
  | _ :: _, _, ⟨u, ys, h1, h2, h3⟩ => ⟨u, ys, h1, Sl.mono h2 hS, WordsAt.mono hS h3⟩
theorem SetsAt.mono (hS : ∀ k, S k → S' k) : ∀ {ps : List Ps.SetP} {xs : List Value}, SetsAt w S ps xs → SetsAt w S' ps xs
  | [], _, h => h
  | _ :: _, _, ⟨u, ys, off, h1, h2, h3⟩ => ⟨u, ys, off, h1, Sl.mono h2 hS, SetsAt.mono hS h3⟩
theorem RedsAt.mono (hS : ∀ k, S k → S' k) : ∀ {ps : List Ps.RedP} {xs : List Value}, RedsAt w S ps xs → RedsAt w S' ps xs
  | [], _, h => h
  | _ :: _, _, ⟨u, ys, h1, h2, h3⟩ => ⟨u, ys, h1, Sl.mono h2 hS, RedsAt.mono hS h3⟩

theorem WordsAt.snoc : ∀ {ps : List (List Lx.Part)} {xs : List Value} {p : List Lx.Part} {u : Value}, WordsAt w S ps xs → WordIn w S 0 u p → WordsAt w S (ps ++ [p]) (xs ++ [u])
  | [], _, _, u, h, h2 => by cases h; exact ⟨u, [], rfl, h2, rfl⟩
  | _ :: _, _, _, u, ⟨v, ys, h1, h3, h4⟩, h2 => by subst h1; exact ⟨v, ys ++ [u], rfl, h3, WordsAt.snoc h4 h2⟩
theorem SetsAt.snoc : ∀ {ps : List Ps.SetP} {xs : List Value} {s : Ps.SetP} {u : Value} {off : Nat}, SetsAt w S ps xs → WordIn w S off u s.word → SetsAt w S (ps ++ [s]) (xs ++ [.string (Lx.strB s.name), u])
  | [], _, s, u, off, h, h2 => by cases h; exact ⟨u, [], off, rfl, h2, rfl⟩
  | _ :: _, _, s, u, off, ⟨v, ys, o, h1, h3, h4⟩, h2 => by subst h1; exact ⟨v, ys ++ [.string (Lx.strB s.name), u], o, rfl, h3, SetsAt.snoc h4 h2⟩
theorem RedsAt.snoc : ∀ {ps : List Ps.RedP} {xs : List Value} {r : Ps.RedP} {u : Value}, RedsAt w S ps xs → WordIn w S 0 u r.word → RedsAt w S (ps ++ [r]) (xs ++ [.int .i64 r.kind, u])
  | [], _, r, u, h, h2 => by cases h; exact ⟨u, [], rfl, h2, rfl⟩
  | _ :: _, _, r, u, ⟨v, ys, h1, h3, h4⟩, h2 => by subst h1; exact ⟨v, ys ++ [.int .i64 r.kind, u], rfl, h3, RedsAt.snoc h4 h2⟩

theorem WordsAt.len : ∀ {ps : List (List Lx.Part)} {xs : List Value}, WordsAt w S ps xs → xs.length = ps.length
  | [], _, h => by cases h; rfl
  | _ :: _, _, ⟨v, ys, h1, h3, h4⟩ => by subst h1; rw [List.length_cons, List.length_cons, WordsAt.len h4]
end

mutual
theorem NodeAt.kept {w w' : World} {S : Nat → Prop} {F : List Nat} (hc : Chg F w w') (hF : ∀ k ∈ F, ¬ S k) : ∀ (n : Ps.Node) (cs : List Value), NodeAt w S n cs → NodeAt w' S n cs
  | .mk kind kids name words sets reds, cs, h => by
    unfold NodeAt at h ⊢
    obtain ⟨kv, wv, sv, rv, kx, wx, sx, rx, h1, h2, h3, h4, h5, h6, h7, h8, h9⟩ := h
    exact ⟨kv, wv, sv, rv, kx, wx, sx, rx, h1, h2.kept hc hF, NodesAt.kept hc hF kids kx h3, h4.kept hc hF, h5.kept hc hF, h6.kept hc hF, h7.kept hc hF, h8.kept hc hF, h9.kept hc hF⟩
theorem NodesAt.kept {w w' : World} {S : Nat → Prop} {F : List Nat} (hc : Chg F w w') (hF : ∀ k ∈ F, ¬ S k) : ∀ (ns : List Ps.Node) (xs : List Value), NodesAt w S ns xs → NodesAt w' S ns xs
  | [], xs, h => by unfold NodesAt at h ⊢; exact h
  | n :: ns, xs, h => by
    unfold NodesAt at h ⊢
    obtain ⟨cs, ys, h1, h2, h3⟩ := h
    exact ⟨cs, ys, h1, NodeAt.kept hc hF n cs h2, NodesAt.kept hc hF ns ys h3⟩
end
mutual
theorem NodeAt.mono {w : World} {S S' : Nat → Prop} (hS : ∀ k, S k → S' k) : ∀ (n : Ps.Node) (cs : List Value), NodeAt w S n cs → NodeAt w S' n cs
  | .mk kind kids name words sets reds, cs, h => by
    unfold NodeAt at h ⊢
    obtain ⟨kv, wv, sv, rv, kx, wx, sx, rx, h1, h2, h3, h4, h5, h6, h7, h8, h9⟩ := h
    exact ⟨kv, wv, sv, rv, kx, wx, sx, rx, h1, h2.mono hS, NodesAt.mono hS kids kx h3, h4.mono hS, h5.mono hS, h6.mono hS, h7.mono hS, h8.mono hS, h9.mono hS⟩
theorem NodesAt.mono {w : World} {S S' : Nat → Prop} (hS : ∀ k, S k → S' k) : ∀ (ns : List Ps.Node) (xs : List Value), NodesAt w S ns xs → NodesAt w S' ns xs
  | [], xs, h => by unfold NodesAt at h ⊢; exact h
  | n :: ns, xs, h => by
    unfold NodesAt at h ⊢
    obtain ⟨cs, ys, h1, h2, h3⟩ := h
    exact ⟨cs, ys, h1, NodeAt.mono hS n cs h2, NodesAt.mono hS ns ys h3⟩
end

/-- six cells, each a slice, a number or a text. -/
theorem NodeAt.six {w : World} {S : Nat → Prop} {n : Ps.Node} {cs : List Value} (h : NodeAt w S n cs) :
    ∃ (ka wa sa ra : Option Addr) (kn kc wn wc sn sc rn rc : Nat), cs = [.int .i64 n.kind, .slice ka kn kc, .string (Lx.strB n.name), .slice wa wn wc, .slice sa sn sc, .slice ra rn rc] ∧ kn = n.kids.length ∧ wn = n.words.length ∧ sn = n.sets.length ∧ rn = n.reds.length := by
  cases n with
  | mk kind kids name words sets reds =>
    unfold NodeAt at h
    obtain ⟨kv, wv, sv, rv, kx, wx, sx, rx, h1, ⟨ka, kc, rfl, _⟩, h3, ⟨wa, wc, rfl, _⟩, h5, ⟨sa, sc, rfl, _⟩, h7, ⟨ra, rc, rfl, _⟩, h9⟩ := h
    exact ⟨ka, wa, sa, ra, _, kc, _, wc, _, sc, _, rc, h1, rfl, rfl, rfl, rfl⟩

theorem NodeAt.one {w : World} {S : Nat → Prop} {n : Ps.Node} {cs : List Value} (h : NodeAt w S n cs) : cs.length = 6 ∧ ∀ u ∈ cs, u.oneCell' = true := by
  obtain ⟨ka, wa, sa, ra, kn, kc, wn, wc, sn, sc, rn, rc, rfl, _⟩ := h.six
  refine ⟨rfl, fun u hu => ?_⟩
  simp only [List.mem_cons, List.not_mem_nil, or_false] at hu
  rcases hu with rfl | rfl | rfl | rfl | rfl | rfl <;> rfl

theorem NodesAt.snoc {w : World} {S : Nat → Prop} : ∀ {ns : List Ps.Node} {xs : List Value} {n : Ps.Node} {cs : List Value}, NodesAt w S ns xs → NodeAt w S n cs → NodesAt w S (ns ++ [n]) (xs ++ cs)
  | [], xs, n, cs, h, h2 => by
    unfold NodesAt at h
    subst h
    show NodesAt w S [n] cs
    unfold NodesAt
    exact ⟨cs, [], by simp, h2, by unfold NodesAt; rfl⟩
  | m :: ns, xs, n, cs, h, h2 => by
    unfold NodesAt at h
    obtain ⟨ds, ys, rfl, h3, h4⟩ := h
    show NodesAt w S (m :: (ns ++ [n])) (ds ++ ys ++ cs)
    unfold NodesAt
    exact ⟨ds, ys ++ cs, by simp, h3, NodesAt.snoc h4 h2⟩

theorem NodesAt.len {w : World} {S : Nat → Prop} : ∀ {ns : List Ps.Node} {xs : List Value}, NodesAt w S ns xs → xs.length = ns.length * 6
  | [], xs, h => by unfold NodesAt at h; subst h; rfl
  | m :: ns, xs, h => by
    unfold NodesAt at h
    obtain ⟨ds, ys, rfl, h3, h4⟩ := h
    rw [List.length_append, NodesAt.len h4, h3.one.1, List.length_cons]
    omega

/-- a node of kids alone. -/
theorem node_at {w : World} {S : Nat → Prop} {k : Int} {ns : List Ps.Node} {kv : Value} {xs : List Value} (h1 : Sl w S 0 kv ns.length xs) (h2 : NodesAt w S ns xs) : NodeAt w S (Ps.node k ns) [.int .i64 k, kv, .string ⟨#[]⟩, .slice none 0 0, .slice none 0 0, .slice none 0 0] := by
  unfold Ps.node NodeAt
  exact ⟨kv, _, _, _, xs, [], [], [], rfl, h1, h2, Sl.nil _ _ _ _, rfl, Sl.nil _ _ _ _, rfl, Sl.nil _ _ _ _, rfl⟩

end Go.Proofs.YtfgbbmnmblchiaaDoor
