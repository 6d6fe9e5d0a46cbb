/-
  The document's reader: its states, all well or an error that sticks; what each reading leaves; nodes that grow in a row.
  The document's reader: commands between |: walked.
  The document's reader: pipes between && and two strokes: walked.
-/
import Derived.Test.YtfgbbmnmblchiaaDoorPm07
namespace Go.Proofs.YtfgbbmnmblchiaaDoor
open Go.RowKit
set_option linter.unusedVariables false

theorem Tryd.infoNodeR : (Tryd.prog.info? 42).map (fun i => (i.zero, i.size, i.bytes)) = some (some (.agg #[.int .i64 0, .slice none 0 0, .string ⟨#[]⟩, .slice none 0 0, .slice none 0 0, .slice none 0 0]), 6, 120) := by kernel_rfl

inductive St where
  | ok (p deep : Nat)
  | bad (er at_ : Int)

def St.is (ts : List Lx.Tok) (k : Int) (x : List UInt8) : St → Bool
  | .ok p _ => Ps.isT ts p k x
  | .bad _ _ => false
def St.fail (ts : List Lx.Tok) (ln : Nat) (e : Int) : St → St
  | .ok p _ => .bad e (posR ts ln p)
  | .bad e t => .bad e t
def St.need (ts : List Lx.Tok) (ln : Nat) (k : Int) (x : List UInt8) : St → St
  | .ok p d => if Ps.isT ts p k x = true then .ok (p + 1) d else .bad 10 (posR ts ln p)
  | .bad e t => .bad e t
def St.ends (ts : List Lx.Tok) : St → St
  | .ok p d => .ok (Ps.endsP ts p) d
  | .bad e t => .bad e t
def St.endsN (ts : List Lx.Tok) : St → Nat
  | .ok p _ => Ps.endsP ts p - p
  | .bad _ _ => 0
def St.stops (ts : List Lx.Tok) : St → Bool
  | .ok p _ => stopsP ts p
  | .bad _ _ => false

/-- the reader's block in a state. -/
def RS (w : World) (pb : Nat) (a : Option Addr) (c : Nat) (ts : List Lx.Tok) (vs : List Value) (ln : Nat) : St → Prop
  | .ok p d => ROk w pb a c ts vs ln p d
  | .bad e t => RBad w pb a c ts vs ln e t

section
variable {w w' : World} {pb : Nat} {a : Option Addr} {c : Nat} {ts : List Lx.Tok} {vs : List Value} {ln : Nat} {st : St}

theorem RS.rw (h : RS w pb a c ts vs ln st) : ∃ p e t d, RW w pb a c ts vs ln p e t d := by
  cases st with
  | ok p d => exact ⟨_, _, _, _, h.1⟩
  | bad e t => obtain ⟨_, p, d, hw⟩ := h; exact ⟨_, _, _, _, hw⟩
theorem RS.chg (h : RS w pb a c ts vs ln st) {F : List Nat} (hc : Chg F w w') (hF : ∀ k ∈ F, k ≠ pb ∧ ¬ TB (.slice a ts.length c) vs k) : RS w' pb a c ts vs ln st := by
  cases st with
  | ok p d => exact ⟨h.1.chg hc hF, h.2⟩
  | bad e t => obtain ⟨he, p, d, hw⟩ := h; exact ⟨he, p, d, hw.chg hc hF⟩
theorem RS.chg0 (h : RS w pb a c ts vs ln st) (hc : Chg [] w w') : RS w' pb a c ts vs ln st := h.chg hc (by simp)
theorem RS.drewN (h : RS w pb a c ts vs ln st) (n : Nat) : RS (w.drewN n) pb a c ts vs ln st := h.chg0 ((Chg.refl [] w).drewN n)
theorem RS.drew (h : RS w pb a c ts vs ln st) : RS w.drew pb a c ts vs ln st := h.chg0 (Chg.refl [] w).drew
theorem RS.lt (h : RS w pb a c ts vs ln st) : pb < w.heap.size := by obtain ⟨_, _, _, _, hw⟩ := h.rw; exact hw.lt
theorem RS.tb_lt (h : RS w pb a c ts vs ln st) : ∀ k, TB (.slice a ts.length c) vs k → k < w.heap.size := by obtain ⟨_, _, _, _, hw⟩ := h.rw; exact hw.tb_lt
theorem RS.out (h : RS w pb a c ts vs ln st) : ¬ TB (.slice a ts.length c) vs pb := by obtain ⟨_, _, _, _, hw⟩ := h.rw; exact hw.out
theorem RS.few (h : RS w pb a c ts vs ln st) : ts.length ≤ 100000 := by obtain ⟨_, _, _, _, hw⟩ := h.rw; exact hw.few
end

section
variable (pb : Nat) (a : Option Addr) (c : Nat) (ts : List Lx.Tok) (vs : List Value) (ln : Nat) (st : St) (w : World) (h : RS w pb a c ts vs ln st)
theorem sis (kind : Int) (x : List UInt8) (hx : x ≠ []) (h : RS w pb a c ts vs ln st) :
    Calls Tryd.prog 52 #[.pointer (some ⟨pb, 0, none⟩), .int .i64 kind, .string (Lx.strB x)] w fun e w' => e = .returned (.bool (st.is ts kind x)) ∧ ∃ n, w' = w.drewN n := by
  cases st with
  | ok p d => exact ris_ok pb a c ts vs ln p d kind x hx w h
  | bad e t => exact ris_bad pb a c ts vs ln e t kind x w h
theorem sfail (k : Int) (hk : k ≠ 0) (h : RS w pb a c ts vs ln st) :
    Calls Tryd.prog 17 #[.pointer (some ⟨pb, 0, none⟩), .int .i64 k] w fun e w' => e = .returned (.tuple #[]) ∧ RS w' pb a c ts vs ln (st.fail ts ln k) ∧ Chg [pb] w w' := by
  cases st with
  | ok p d => exact rfail_ok pb a c ts vs ln p d k hk w h
  | bad e t =>
    refine (rfail_bad pb a c ts vs ln e t k w h).mono ?_
    rintro e w1 ⟨rfl, rfl⟩
    exact ⟨rfl, h, Chg.refl _ _⟩
theorem sneed (kind : Int) (x : List UInt8) (hx : x ≠ []) (h : RS w pb a c ts vs ln st) :
    Calls Tryd.prog 70 #[.pointer (some ⟨pb, 0, none⟩), .int .i64 kind, .string (Lx.strB x)] w fun e w' => e = .returned (.tuple #[]) ∧ RS w' pb a c ts vs ln (st.need ts ln kind x) ∧ Chg [pb] w w' := by
  cases st with
  | ok p d =>
    refine (rneed_ok pb a c ts vs ln p d kind x hx w h).mono ?_
    rintro e w1 ⟨rfl, hc, hr⟩
    refine ⟨rfl, ?_, hc⟩
    unfold Ps.wantP at hr
    show RS w1 pb a c ts vs ln (if Ps.isT ts p kind x = true then .ok (p + 1) d else .bad 10 (posR ts ln p))
    by_cases hb : Ps.isT ts p kind x = true
    · rw [if_pos hb] at hr ⊢; exact hr
    · rw [if_neg hb] at hr ⊢; exact hr
  | bad e t =>
    refine (rneed_bad pb a c ts vs ln e t kind x w h).mono ?_
    rintro e w1 ⟨rfl, hr, hc⟩
    exact ⟨rfl, hr, hc.mono (by simp)⟩
theorem sends (h : RS w pb a c ts vs ln st) :
    Calls Tryd.prog 34 #[.pointer (some ⟨pb, 0, none⟩)] w fun e w' => e = .returned (.int .i64 (st.endsN ts : Nat)) ∧ RS w' pb a c ts vs ln (st.ends ts) ∧ Chg [pb] w w' := by
  cases st with
  | ok p d => exact rends_ok pb a c ts vs ln p d w h
  | bad e t =>
    refine (rends_bad pb a c ts vs ln e t w h).mono ?_
    rintro e w1 ⟨rfl, hr, hc⟩
    exact ⟨rfl, hr, hc.mono (by simp)⟩
theorem sstops (h : RS w pb a c ts vs ln st) :
    Calls Tryd.prog 35 #[.pointer (some ⟨pb, 0, none⟩)] w fun e w' => e = .returned (.bool (st.stops ts)) ∧ Chg [] w w' := by
  cases st with
  | ok p d => exact rstops_ok pb a c ts vs ln p d w h
  | bad e t =>
    refine (rstops_bad pb a c ts vs ln e t w h).mono ?_
    rintro e w1 ⟨rfl, _, hc⟩
    exact ⟨rfl, hc⟩
end

/-- an answer of the plain reader, as a state and a tree. -/
def toS {α : Type} (ts : List Lx.Tok) (ln d : Nat) : Ps.Res α → St × Option α
  | .bad e q => (.bad e (posR ts ln q), none)
  | .ok n q => (.ok q d, some n)
/-- a plain reader, from a state. -/
def St.step {α : Type} (ts : List Lx.Tok) (ln : Nat) (f : Nat → Ps.Res α) : St → St × Option α
  | .bad e t => (.bad e t, none)
  | .ok p d => toS ts ln d (f p)
def St.At (d : Nat) : St → Prop
  | .ok _ d' => d' = d
  | .bad _ _ => True

/-- what a reading leaves. -/
def SPost (w : World) (pb : Nat) (a : Option Addr) (c : Nat) (ts : List Lx.Tok) (vs : List Value) (ln : Nat) (S : St × Option Ps.Node) (e : Ending) (w' : World) : Prop :=
  ∃ cs, Six cs ∧ e = .returned (.agg cs.toArray) ∧ Chg [pb] w w' ∧ RS w' pb a c ts vs ln S.1 ∧ ∀ n, S.2 = some n → NodeAt w' (Sn (.slice a ts.length c) vs w.heap.size w'.heap.size) n cs

/-- a function of the document's reader that does as a plain one, from a depth. -/
def Does (f : Nat) (pb : Nat) (a : Option Addr) (c : Nat) (ts : List Lx.Tok) (vs : List Value) (ln deep : Nat) (g : Nat → Ps.Res Ps.Node) : Prop :=
  ∀ (st : St) (w : World), st.At deep → RS w pb a c ts vs ln st → Calls Tryd.prog f #[.pointer (some ⟨pb, 0, none⟩)] w fun e w' => SPost w pb a c ts vs ln (st.step ts ln g) e w'

theorem zero_six : Six [.int .i64 0, .slice none 0 0, .string ⟨#[]⟩, .slice none 0 0, .slice none 0 0, .slice none 0 0] := ⟨0, [], none, none, none, none, 0, 0, 0, 0, 0, 0, 0, 0, rfl⟩
theorem nodeC_six (k : Int) (ka : Option Addr) (kn kc : Nat) : Six (nodeC k (.slice ka kn kc)).toList := ⟨k, [], ka, none, none, none, kn, kc, 0, 0, 0, 0, 0, 0, rfl⟩

/-- the blocks of trees: the tokens', those made between two sizes, but the private ones and the row's. -/
def Sx (tv : Value) (vs : List Value) (B : List Nat) (kv : Value) (lo hi k : Nat) : Prop := Sn tv vs lo hi k ∧ k ∉ B ∧ k ∉ rowBlock kv

/-- a reading under way: the private blocks B; a row of nodes that grows. -/
structure KR (w : World) (pb : Nat) (a : Option Addr) (c : Nat) (ts : List Lx.Tok) (vs : List Value) (ln : Nat) (B : List Nat) (st : St) (m : Nat) (acc : List Ps.Node) (kv : Value) (xs : List Value) (wr : World) : Prop where
  rs : RS wr pb a c ts vs ln st
  row : Row wr 42 6 kv m xs
  nodes : ∀ p d, st = .ok p d → m = acc.length ∧ NodesAt wr (Sx (.slice a ts.length c) vs B kv w.heap.size wr.heap.size) acc xs
  six : m = 1 → Six xs
  new : ∀ k ∈ rowBlock kv, w.heap.size ≤ k ∧ k ∉ B
  chg : Chg [pb] w wr
  bs : ∀ b ∈ B, w.heap.size ≤ b ∧ b < wr.heap.size
  old : pb < w.heap.size ∧ ∀ k, TB (.slice a ts.length c) vs k → k < w.heap.size
  few : m ≤ 100001

section
variable {w wr w' : World} {pb : Nat} {a : Option Addr} {c : Nat} {ts : List Lx.Tok} {vs : List Value} {ln : Nat} {B : List Nat} {st : St} {m : Nat} {acc : List Ps.Node} {kv : Value} {xs : List Value}

theorem KR.start (h : RS w pb a c ts vs ln st) : KR w pb a c ts vs ln [] st 0 [] (.slice none 0 0) [] w where
  rs := h
  row := Row.nil _ _ _ _
  nodes := fun p d _ => ⟨rfl, by unfold NodesAt; rfl⟩
  six := fun h => absurd h (by decide)
  new := by simp [rowBlock]
  chg := Chg.refl _ _
  bs := by simp
  old := ⟨h.lt, h.tb_lt⟩
  few := by decide

theorem KR.pb_out (h : KR w pb a c ts vs ln B st m acc kv xs wr) {hi : Nat} : ¬ Sx (.slice a ts.length c) vs B kv w.heap.size hi pb := by
  rintro ⟨h1, _⟩
  rcases h1 with h1 | h1
  · exact h.rs.out h1
  · have := h.old.1
    omega
theorem KR.b_ne (h : KR w pb a c ts vs ln B st m acc kv xs wr) {b : Nat} (hb : b ∈ B) : b ≠ pb ∧ ¬ TB (.slice a ts.length c) vs b := by
  have := (h.bs b hb).1
  have := h.old.1
  exact ⟨by omega, fun ht => by have := h.old.2 b ht; omega⟩

/-- a step that turns the reader and private blocks alone. -/
theorem KR.step (h : KR w pb a c ts vs ln B st m acc kv xs wr) {F : List Nat} (hc : Chg F wr w') (hF : ∀ k ∈ F, k = pb ∨ k ∈ B) {st' : St} (hr : RS w' pb a c ts vs ln st') (hg : ∀ p d, st' = .ok p d → ∃ p' d', st = .ok p' d') : KR w pb a c ts vs ln B st' m acc kv xs w' where
  rs := hr
  row := h.row.kept hc (fun k hk hF' => by
    rcases hF k hF' with h1 | h1
    · have := (h.new k hk).1; have := h.old.1; omega
    · exact (h.new k hk).2 h1)
  nodes := fun p d e => by
    obtain ⟨p', d', e'⟩ := hg p d e
    obtain ⟨h1, h2⟩ := h.nodes p' d' e'
    refine ⟨h1, NodesAt.mono (fun j hj => ⟨hj.1.imp id (fun h1 => ⟨h1.1, Nat.lt_of_lt_of_le h1.2 hc.size⟩), hj.2⟩) _ _ (NodesAt.kept hc (fun k hk hS => ?_) _ _ h2)⟩
    rcases hF k hk with rfl | h1
    · exact h.pb_out hS
    · exact hS.2.1 h1
  six := h.six
  new := h.new
  chg := h.chg.trans hc (fun x hx => (hF x hx).imp (fun e => by simp [e]) (fun hb => (h.bs x hb).1))
  bs := fun b hb => ⟨(h.bs b hb).1, Nat.lt_of_lt_of_le (h.bs b hb).2 hc.size⟩
  old := h.old
  few := h.few
theorem KR.kept (h : KR w pb a c ts vs ln B st m acc kv xs wr) {F : List Nat} (hc : Chg F wr w') (hF : ∀ k ∈ F, k ∈ B) : KR w pb a c ts vs ln B st m acc kv xs w' :=
  h.step hc (fun k hk => .inr (hF k hk)) (h.rs.chg hc (fun k hk => h.b_ne (hF k hk))) (fun p d e => ⟨p, d, e⟩)
theorem KR.kept0 (h : KR w pb a c ts vs ln B st m acc kv xs wr) (hc : Chg [] wr w') : KR w pb a c ts vs ln B st m acc kv xs w' := h.kept hc (by simp)
theorem KR.call (h : KR w pb a c ts vs ln B st m acc kv xs wr) (hc : Chg [pb] wr w') {st' : St} (hr : RS w' pb a c ts vs ln st') (hg : ∀ p d, st' = .ok p d → ∃ p' d', st = .ok p' d') : KR w pb a c ts vs ln B st' m acc kv xs w' :=
  h.step hc (fun k hk => .inl (by simpa using hk)) hr hg

/-- a block of one's own. -/
theorem KR.own (h : KR w pb a c ts vs ln B st m acc kv xs wr) (o : Obj) {b : Nat} (hb : b = wr.heap.size) : KR w pb a c ts vs ln (b :: B) st m acc kv xs (wr.alloc o) := by
  subst hb
  have hc : Chg [] wr (wr.alloc o) := (Chg.refl [] wr).alloc o
  have hs : (wr.alloc o).heap.size = wr.heap.size + 1 := by simp
  exact
    { rs := h.rs.chg0 hc
      row := h.row.kept0 hc
      nodes := fun p d e => by
        obtain ⟨h1, h2⟩ := h.nodes p d e
        refine ⟨h1, NodesAt.mono (fun j hj => ?_) _ _ (NodesAt.kept hc (by simp) _ _ h2)⟩
        have hlt : j < wr.heap.size := by
          rcases hj.1 with h1 | h1
          · have := h.old.2 j h1; have := h.chg.size; omega
          · exact h1.2
        refine ⟨hj.1.imp id (fun h1 => ⟨h1.1, by omega⟩), ?_, hj.2.2⟩
        simp only [List.mem_cons, not_or]
        exact ⟨by omega, hj.2.1⟩
      six := h.six
      new := fun k hk => ⟨(h.new k hk).1, by
        have := Row.block_lt h.row k hk
        simp only [List.mem_cons, not_or]
        exact ⟨by omega, (h.new k hk).2⟩⟩
      chg := h.chg.then0 hc
      bs := fun b hb => by
        have := h.chg.size
        rcases List.mem_cons.1 hb with rfl | hb
        · exact ⟨by omega, by omega⟩
        · have := h.bs b hb; exact ⟨this.1, by omega⟩
      old := h.old
      few := h.few }

/-- the tree that a call hands back lies apart. -/
theorem KR.got (h : KR w pb a c ts vs ln B st m acc kv xs wr) {n : Ps.Node} {cs : List Value} {hi : Nat} (hn : NodeAt w' (Sn (.slice a ts.length c) vs wr.heap.size hi) n cs) (hh : hi ≤ w'.heap.size) : NodeAt w' (Sx (.slice a ts.length c) vs B kv w.heap.size w'.heap.size) n cs := by
  have h5 := h.chg.size
  refine NodeAt.mono (fun j hj => ?_) _ _ hn
  rcases hj with hj | hj
  · have h6 := h.old.2 j hj
    exact ⟨.inl hj, fun hb => by have := h.bs j hb; omega, fun hk => by have := (h.new j hk).1; omega⟩
  · exact ⟨.inr ⟨by omega, by omega⟩, fun hb => by have := h.bs j hb; omega, fun hk => by have := Row.block_lt h.row j hk; omega⟩

/-- one node more; what a reading gave. -/
theorem KR.add {w1 w2 w3 : World} (h : KR w pb a c ts vs ln B st m acc kv xs wr) (hc : Chg [pb] wr w1) {S : St × Option Ps.Node} {cs : List Value} (hsix : Six cs) (hr : RS w1 pb a c ts vs ln S.1) (hg : ∀ p d, S.1 = .ok p d → (∃ p' d', st = .ok p' d') ∧ ∃ n, S.2 = some n)
    (hn : ∀ n, S.2 = some n → NodeAt w1 (Sn (.slice a ts.length c) vs wr.heap.size w1.heap.size) n cs) {F : List Nat} (hF : ∀ k ∈ F, k ∈ B) (h12 : Chg F w1 w2) {v' : Value} (hrow : Row w3 42 6 v' (m + 1) (xs ++ cs)) (h23 : Chg (rowBlock kv) w2 w3)
    (hb : ∀ k ∈ rowBlock v', k ∈ rowBlock kv ∨ w1.heap.size ≤ k) (hf : m + 1 ≤ 100001) :
    KR w pb a c ts vs ln B S.1 (m + 1) (acc ++ S.2.toList) v' (xs ++ cs) w3 := by
  have h1 := h.call hc hr (fun p d e => (hg p d e).1)
  have h13 : Chg (F ++ rowBlock kv) w1 w3 := (h12.mono (fun x hx => .inl (by simp [hx]))).trans h23 (fun x hx => .inl (by simp [hx]))
  have hbb : ∀ j ∈ F ++ rowBlock kv, j ∈ B ∨ j ∈ rowBlock kv := fun j hj => (List.mem_append.1 hj).imp (hF j) id
  have hge : ∀ j ∈ F ++ rowBlock kv, w.heap.size ≤ j := fun j hj => by
    rcases hbb j hj with h4 | h4
    · exact (h1.bs j h4).1
    · exact (h.new j h4).1
  have s1 := h1.chg.size
  have s2 := h13.size
  have n2 : ∀ j ∈ rowBlock v', w.heap.size ≤ j ∧ j ∉ B := fun j hj => by
    rcases hb j hj with h4 | h4
    · exact h.new j h4
    · exact ⟨by omega, fun hB => by have := (h1.bs j hB).2; omega⟩
  have hS : ∀ j ∈ F ++ rowBlock kv, ¬ Sx (.slice a ts.length c) vs B kv w.heap.size w1.heap.size j := fun j hj hS => by
    rcases hbb j hj with h4 | h4
    · exact hS.2.1 h4
    · exact hS.2.2 h4
  exact
    { rs := hr.chg h13 (fun j hj => by
        have := hge j hj
        have := h.old.1
        exact ⟨by omega, fun ht => by have := h.old.2 j ht; omega⟩)
      row := hrow
      nodes := fun p d e => by
        obtain ⟨_, n, en⟩ := hg p d e
        obtain ⟨e1, h4⟩ := h1.nodes p d e
        rw [en]
        refine ⟨by simp [e1], NodesAt.mono (fun j hj => ?_) _ _ (NodesAt.snoc (NodesAt.kept h13 hS _ _ h4) (NodeAt.kept h13 hS _ _ (h.got (hn n en) (Nat.le_refl _))))⟩
        have hlt : j < w1.heap.size := by
          rcases hj.1 with h5 | h5
          · have := h.old.2 j h5; omega
          · exact h5.2
        refine ⟨hj.1.imp id (fun h5 => ⟨h5.1, by omega⟩), hj.2.1, fun hk => ?_⟩
        rcases hb j hk with h5 | h5
        · exact hj.2.2 h5
        · omega
      six := fun e => by
        have e0 : m = 0 := by omega
        have : xs = [] := List.eq_nil_of_length_eq_zero (by rw [h.row.1, e0])
        rw [this]
        exact hsix
      new := n2
      chg := h1.chg.trans h13 (fun x hx => .inr (hge x hx))
      bs := fun b hb => ⟨(h1.bs b hb).1, by have := (h1.bs b hb).2; omega⟩
      old := h.old
      few := hf }

/-- at the end: one node alone, the row's first. -/
theorem KR.fin1 (h : KR w pb a c ts vs ln B st 1 acc kv xs wr) {F : List Nat} (hc : Chg F wr w') (hF : ∀ k ∈ F, k ∈ B) {o : Option Ps.Node} (ho : ∀ n, o = some n → acc = [n] ∧ ∃ p d, st = .ok p d) : SPost w pb a c ts vs ln (st, o) (.returned (.agg xs.toArray)) w' := by
  have h1 := h.kept hc hF
  refine ⟨xs, h.six rfl, rfl, h1.chg, h1.rs, fun n hn => ?_⟩
  obtain ⟨rfl, p, d, e⟩ := ho n hn
  have := (h1.nodes p d e).2.one
  exact NodeAt.mono (fun j hj => hj.1) _ _ this

/-- .. all of them, in a node of their own. -/
theorem KR.finN (h : KR w pb a c ts vs ln B st m acc kv xs wr) {F : List Nat} (hc : Chg F wr w') (hF : ∀ k ∈ F, k ∈ B) (k : Int) {ka : Option Addr} {kn kc : Nat} (hv : kv = .slice ka kn kc) {o : Option Ps.Node} (ho : ∀ n, o = some n → n = Ps.node k acc ∧ ∃ p d, st = .ok p d) : SPost w pb a c ts vs ln (st, o) (.returned (.agg (nodeC k (.slice ka kn kc)))) w' := by
  subst hv
  have h1 := h.kept hc hF
  refine ⟨_, nodeC_six k ka kn kc, rfl, h1.chg, h1.rs, fun n hn => ?_⟩
  obtain ⟨rfl, p, d, e⟩ := ho n hn
  obtain ⟨e1, h2⟩ := h1.nodes p d e
  obtain ⟨a', cap, hv, hle, _⟩ := h.row.shape
  cases hv
  subst e1
  refine node_at (Row.sl h1.row (fun j hj => .inr ⟨(h1.new j hj).1, Row.block_lt h1.row j hj⟩)) (NodesAt.mono (fun j hj => hj.1) _ _ h2)
end

end Go.Proofs.YtfgbbmnmblchiaaDoor

namespace Go.Proofs.YtfgbbmnmblchiaaDoor
open Go.RowKit
set_option linter.unusedVariables false

theorem Row.new {w : World} {E : TypeId} {kb m : Nat} {xs : List Value} (h : w.heap[kb]? = some (.cells xs.toArray E (0, 0))) (hl : xs.length = m * 6) (h0 : 0 < m) (hm : m ≤ 100000) : Row w E 6 (.slice (some ⟨kb, 0, none⟩) m m) m xs :=
  ⟨hl, .inr ⟨kb, _, _, rfl, h, Nat.le_refl _, by unfold maxLen; omega, by simp [hl], by rw [List.take_of_length_le (by simp [hl])]⟩⟩

section
variable {ts : List Lx.Tok} {ln : Nat} {α : Type} {f : Nat → Ps.Res α} {st : St} {p d : Nat}
/-- where a reading has gone well. -/
theorem step_ok (h : (st.step ts ln f).1 = .ok p d) : ∃ q n, st = .ok q d ∧ f q = .ok n p ∧ (st.step ts ln f).2 = some n := by
  cases st with
  | bad e t => cases h
  | ok q d' =>
    cases hf : f q with
    | bad e b => simp [St.step, hf, toS] at h
    | ok n b =>
      simp [St.step, hf, toS] at h
      obtain ⟨rfl, rfl⟩ := h
      exact ⟨q, n, rfl, hf, by simp [St.step, hf, toS]⟩
theorem step_some {n : α} (h : (st.step ts ln f).2 = some n) : ∃ p q d, st = .ok q d ∧ f q = .ok n p ∧ (st.step ts ln f).1 = .ok p d := by
  cases st with
  | bad e t => cases h
  | ok q d' =>
    cases hf : f q with
    | bad e b => simp [St.step, hf, toS] at h
    | ok n b =>
      simp [St.step, hf, toS] at h
      subst h
      exact ⟨b, q, d', rfl, hf, by simp [St.step, hf, toS]⟩
theorem step_g (h : (st.step ts ln f).1 = .ok p d) : (∃ p' d', st = .ok p' d') ∧ ∃ n, (st.step ts ln f).2 = some n := by
  obtain ⟨q, n, h1, _, h2⟩ := step_ok h
  exact ⟨⟨_, _, h1⟩, _, h2⟩
theorem step_at {deep : Nat} (h : st.At deep) : (st.step ts ln f).1.At deep := by
  cases h2 : (st.step ts ln f).1 with
  | bad e t => trivial
  | ok p d =>
    obtain ⟨q, n, rfl, _⟩ := step_ok h2
    exact h
theorem is_ok {k : Int} {x : List UInt8} (h : st.is ts k x = true) : ∃ q d, st = .ok q d ∧ Ps.isT ts q k x = true := by
  cases st with
  | ok q d => exact ⟨q, d, rfl, h⟩
  | bad e t => cases h
end

def mapO {α β : Type} (f : α → β) (S : St × Option α) : St × Option β := (S.1, S.2.map f)
theorem toS_pipeR (ts : List Lx.Tok) (ln d : Nat) (r : Ps.Res (List Ps.Node)) : toS ts ln d (pipeR r) = mapO Ps.pipeN (toS ts ln d r) := by cases r <;> rfl

/-- what is left to do behind a command. -/
def pipeK (ts : List Lx.Tok) (ln : Nat) (cmd : Nat → Ps.Res Ps.Node) (g : Nat) (acc : List Ps.Node) : St → St × Option (List Ps.Node)
  | .bad e t => (.bad e t, none)
  | .ok q d => toS ts ln d (if Ps.isT ts q 2 [124] = true then Ps.pipeL ts cmd g (q + 1) acc else .ok acc q)
theorem pipeK_step {ts : List Lx.Tok} {ln : Nat} {cmd : Nat → Ps.Res Ps.Node} {g p d : Nat} {acc : List Ps.Node} : toS ts ln d (Ps.pipeL ts cmd (g + 1) p acc) = pipeK ts ln cmd g (acc ++ ((St.ok p d).step ts ln cmd).2.toList) ((St.ok p d).step ts ln cmd).1 := by
  cases hc : cmd p with
  | bad e b => rw [pipeL_bad hc]; simp [St.step, hc, toS, pipeK]
  | ok k b =>
    cases hb : Ps.isT ts b 2 [124] with
    | true => rw [pipeL_more hc hb]; simp [St.step, hc, toS, pipeK, hb]
    | false => rw [pipeL_end hc hb]; simp [St.step, hc, toS, pipeK, hb]
theorem pipeK_start {ts : List Lx.Tok} {ln : Nat} {cmd : Nat → Ps.Res Ps.Node} (st : St) : st.step ts ln (Ps.pipeP ts cmd) = mapO Ps.pipeN (pipeK ts ln cmd ts.length (st.step ts ln cmd).2.toList (st.step ts ln cmd).1) := by
  cases st with
  | bad e t => rfl
  | ok p d =>
    show toS ts ln d (Ps.pipeP ts cmd p) = _
    rw [pipeP_eq, toS_pipeR, pipeK_step]
    rfl
theorem pipeK_more {ts : List Lx.Tok} {ln : Nat} {cmd : Nat → Ps.Res Ps.Node} {g q d : Nat} {acc : List Ps.Node} (h : Ps.isT ts q 2 [124] = true) : pipeK ts ln cmd (g + 1) acc (.ok q d) = pipeK ts ln cmd g (acc ++ ((St.ok (q + 1) d).step ts ln cmd).2.toList) ((St.ok (q + 1) d).step ts ln cmd).1 := by
  rw [← pipeK_step]
  show toS ts ln d (if _ then _ else _) = _
  rw [if_pos h]
theorem pipeK_end {ts : List Lx.Tok} {ln : Nat} {cmd : Nat → Ps.Res Ps.Node} {g : Nat} {acc : List Ps.Node} {st : St} (h : st.is ts 2 [124] = false) : ∃ o, pipeK ts ln cmd g acc st = (st, o) ∧ ∀ l, o = some l → l = acc ∧ ∃ p d, st = .ok p d := by
  cases st with
  | bad e t => exact ⟨none, rfl, fun l h => by cases h⟩
  | ok q d =>
    refine ⟨some acc, ?_, fun l h => by cases h; exact ⟨rfl, q, d, rfl⟩⟩
    show toS ts ln d (if _ then _ else _) = _
    rw [if_neg (by rw [show Ps.isT ts q 2 [124] = false from h]; decide)]
    rfl

set_option maxHeartbeats 4000000 in
set_option maxRecDepth 10000 in
theorem spipe (pb : Nat) (a : Option Addr) (c : Nat) (ts : List Lx.Tok) (vs : List Value) (ln deep : Nat) (cmd : Nat → Ps.Res Ps.Node) (hcmd : Does 63 pb a c ts vs ln deep cmd) (hmv : Moves cmd) :
    Does 53 pb a c ts vs ln deep (Ps.pipeP ts cmd) := by
  intro st w hat h
  have hfew := h.few
  have HAT := Lib.hid hat
  have HK0 := Lib.hid ((KR.start h).own (.cells (nodeC 0 (.slice none 0 0)) 42) rfl)
  have HRS0 := Lib.hid (obj_alloc_new w (.cells (nodeC 0 (.slice none 0 0)) 42))
  have HR := Lib.hid (pipeK_start (ts := ts) (ln := ln) (cmd := cmd) st)
  have HCMD := Lib.hid hcmd
  have HMV := Lib.hid hmv
  have HPB := Lib.hid h.lt
  obtain ⟨i0, hi, hz0, hz1, hz2⟩ := info_parts Tryd.infoNodeR
  clear h hcmd hmv hat
  go_enter Tryd.func53, Tryd.ntmps53
  go_wp2_with fail
  refine (HCMD.out st _ HAT.out HK0.out.rs).mono ?_
  obtain ⟨S, hS⟩ : ∃ S, st.step ts ln cmd = S := ⟨_, rfl⟩
  rw [hS]
  rintro e w1 ⟨cs, hsix, rfl, hC1, hP1, hN1⟩
  have hg : ∀ p d, S.1 = .ok p d → (∃ p' d', st = .ok p' d') ∧ ∃ n, S.2 = some n := fun p d h => hS ▸ step_g (hS.symm ▸ h)
  have HM1 := Lib.hid (show ∀ p d, S.1 = .ok p d → 1 ≤ p from fun p d h => by
    obtain ⟨q, n, _, h2, _⟩ := step_ok (hS.symm ▸ h)
    have := HMV.out _ _ _ h2
    omega)
  have HA1 := Lib.hid (show S.1.At deep from hS ▸ step_at HAT.out)
  have HR1 := Lib.hid (show st.step ts ln (Ps.pipeP ts cmd) = mapO Ps.pipeN (pipeK ts ln cmd ts.length S.2.toList S.1) from hS ▸ HR.out)
  have HRS1 := Lib.hid (hC1.obj HRS0.out (by have := HPB.out; simp; omega))
  have HK1 := Lib.hid (HK0.out.add (w2 := w1) (w3 := w1.alloc (.cells cs.toArray 42)) hC1 hsix hP1 hg hN1 (F := []) (by simp) (Chg.refl _ _) (v' := .slice (some ⟨w1.heap.size, 0, none⟩) 1 1) (Row.new (obj_alloc_new w1 _) hsix.one.1 (by decide) (by decide)) ((Chg.refl _ _).alloc _) (by simp [rowBlock]) (by decide))
  obtain ⟨k1, s1, ka, wa, sa, ra, kn, kc, wn, wc, sn, sc, rn, rc, rfl⟩ := hsix
  clear hC1 hP1 hN1 hg hS HK0 HRS0 HR
  go_wp2_with fail
  generalize w.heap.size = rb at *
  go_loopg [3] ts.length (fun g c3 wr => ∃ (s : St) (m : Nat) (acc : List Ps.Node) (kv : Value) (xs : List Value), c3 = kv ∧ 1 ≤ m ∧ Hid (∀ p d, s = .ok p d → m ≤ p ∧ ts.length < p + g) ∧ Hid (s.At deep) ∧ Hid (wr.heap[rb]? = some (.cells (nodeC 0 (.slice none 0 0)) 42 (0, 0))) ∧ KR w pb a c ts vs ln [rb] s m acc kv xs wr ∧ Hid (st.step ts ln (Ps.pipeP ts cmd) = mapO Ps.pipeN (pipeK ts ln cmd g acc s)))
  case atStart => exact ⟨S.1, 1, S.2.toList, _, _, rfl, Nat.le_refl _, Lib.hid (fun p d h => by have := HM1.out p d h; omega), HA1, Lib.hid (obj_alloc_old HRS1.out _), HK1.out, Lib.hid HR1.out⟩
  case round =>
    obtain ⟨s, m, acc, kv, xs, rfl, hm1, hq, hat, hrs, hK, hr⟩ := hrel
    clear HK1 HRS1 HR1 HA1 HM1
    have HK := Lib.hid hK
    obtain ⟨ao, co, rfl, hao, hco⟩ := hK.row.shape
    have I1 := fun (x : Bool) (hx : s.is ts 2 [124] = x) => hx ▸ sis pb a c ts vs ln s wr 2 [124] (by decide) hK.rs
    have hfm := hK.few
    clear hK
    cases hb : s.is ts 2 [124] with
    | true =>
      have J1 := Lib.hid (I1 _ hb)
      obtain ⟨q, d, rfl, hT⟩ := is_ok hb
      obtain rfl : d = deep := hat.out
      have hlt := isT_lt hT
      have hq2 := hq.out q d rfl
      cases gk with
      | zero => omega
      | succ g =>
      have HR1 := Lib.hid (hr.out.trans (congrArg (mapO Ps.pipeN) (pipeK_more hT)))
      obtain ⟨S, hS⟩ : ∃ S, (St.ok (q + 1) d).step ts ln cmd = S := ⟨_, rfl⟩
      rw [hS] at HR1
      clear I1 hb hr hT hq
      go_wp2_with fail
      refine J1.out.mono ?_
      rintro e w4 ⟨rfl, n1, rfl⟩
      have HK1 := Lib.hid (HK.out.kept0 ((Chg.refl [] _).drewN n1))
      have HRS1 := Lib.hid (((Chg.refl [] wr).drewN n1).obj hrs.out (by simp))
      generalize wr.drewN n1 = w5 at *
      have x1 := HK1.out.rs.1.c1
      have f1 := HK1.out.rs.1.free 1
      have hpl : (q : Int) ≤ 100000 := by omega
      go_wp2_with fail
      have HK2 := Lib.hid (HK1.out.call (Chg.setP w5 pb 1 (.int .i64 ((q : Int) + 1))) (st' := .ok (q + 1) d) (ROk.setAt HK1.out.rs _ (by omega) (by omega)) (fun p d' _ => ⟨q, d, rfl⟩))
      have HRS2 := Lib.hid ((Chg.setP w5 pb 1 (.int .i64 ((q : Int) + 1))).obj HRS1.out (by have := HK1.out.old.1; have := HK1.out.bs rb (by simp); simp; omega))
      clear x1 f1 HK HK1 HRS1
      refine (HCMD.out (.ok (q + 1) d) _ rfl HK2.out.rs).mono ?_
      rw [hS]
      rintro e w6 ⟨cs, hsix, rfl, hC1, hP1, hN1⟩
      have hg : ∀ p d', S.1 = .ok p d' → (∃ p' d'', St.ok (q + 1) d = .ok p' d'') ∧ ∃ n, S.2 = some n := fun p d h => hS ▸ step_g (hS.symm ▸ h)
      have HM1 := Lib.hid (show ∀ p d, S.1 = .ok p d → q + 2 ≤ p from fun p d h => by
        obtain ⟨q', n, h1, h2, _⟩ := step_ok (hS.symm ▸ h)
        cases h1
        have := HMV.out _ _ _ h2
        omega)
      have HA1 := Lib.hid (show S.1.At d from hS ▸ step_at (ts := ts) (ln := ln) (f := cmd) (st := .ok (q + 1) d) (deep := d) rfl)
      have HRS3 := Lib.hid (hC1.obj HRS2.out (by have := HK2.out.old.1; have := HK2.out.bs rb (by simp); simp; omega))
      have HADD := Lib.hid (fun (w2 w3 : World) (v' : Value) h12 hrow h23 hb hf => HK2.out.add (w2 := w2) (w3 := w3) (v' := v') hC1 hsix hP1 hg hN1 (F := []) (by simp) h12 hrow h23 hb hf)
      have HROW := Lib.hid ((HK2.out.call hC1 hP1 (fun p d h => (hg p d h).1)).row)
      have HONE := Lib.hid hsix.one
      obtain ⟨k1, s1, ka, wa, sa, ra, kn, kc, wn, wc, sn, sc, rn, rc, rfl⟩ := hsix
      have nb1 : (m : Int) ≤ 100000 := by omega
      have HQ := Lib.hid hq2
      have HG := Lib.hid hm1
      have HNB := Lib.hid (show rb ∉ rowBlock (.slice ao m co) from fun hj => (HK2.out.new _ hj).2 (by simp))
      clear hC1 hP1 hN1 hg hS HK2 HRS2 hq2 hm1
      go_wp2_with (at_builtin; refine wpList_append_row _ rfl _ _ 37 rfl 42 i0 _ 6 120 Tryd.underlying37 hi hz0 hz1 hz2 rfl (by decide) _ m xs rfl (HROW.out.alloc _) _ 1 1 [.int .i64 k1, .slice ka kn kc, .string (Lx.strB s1), .slice wa wn wc, .slice sa sn sc, .slice ra rn rc] rfl rfl (srcNew _ _ _ _) HONE.out.2 (by unfold maxLen; omega) (by omega) ?_)
      intro v' w7 r5 q5 g5
      obtain ⟨av, cap, rfl, hac, hcm⟩ := r5.shape
      have HK3 := Lib.hid (HADD.out _ w7 _ ((Chg.refl [] _).alloc _) r5 q5 (fun x hx => (g5 x hx).imp id (fun h => by have h9 : w6.heap.size + 1 ≤ x := (by simpa using h); omega)) (by omega))
      have HRS4 := Lib.hid (q5.obj (obj_alloc_old HRS3.out _) HNB.out)
      clear r5 q5 g5
      go_wp2
      go_roundg g
      case measure => omega
      case rel => exact ⟨S.1, m + 1, _, _, _, rfl, by omega, Lib.hid (fun p d' h => by have := HM1.out p d' h; have := HQ.out; omega), HA1, HRS4, HK3.out, HR1⟩
    | false =>
      have J1 := Lib.hid (I1 _ hb)
      obtain ⟨o, ho, ho2⟩ := pipeK_end (ts := ts) (ln := ln) (cmd := cmd) (g := gk) (acc := acc) hb
      have HR1 := Lib.hid (hr.out.trans (congrArg (mapO Ps.pipeN) ho))
      have HO := Lib.hid ho2
      clear I1 hb hr hq ho ho2
      go_wp2_with fail
      refine J1.out.mono ?_
      rintro e w4 ⟨rfl, n1, rfl⟩
      have HK1 := Lib.hid (HK.out.kept0 ((Chg.refl [] _).drewN n1))
      have HRS1 := Lib.hid (((Chg.refl [] wr).drewN n1).obj hrs.out (by simp))
      generalize wr.drewN n1 = w5 at *
      clear HK J1
      obtain ⟨r0, r1, r2, r3, r4, r5, rf⟩ := node_cells HRS1.out
      have nb1 : (m : Int) ≤ 100001 := by omega
      by_cases hm : m = 1
      · subst hm
        obtain ⟨gb, rfl, hx⟩ := HK1.out.row.head (by decide)
        obtain ⟨k1, s1, ka, wa, sa, ra, kn, kc, wn, wc, sn, sc, rn, rc, rfl⟩ := HK1.out.six rfl
        have y0 := hx 0 _ rfl
        have y1 := hx 1 _ rfl
        have y2 := hx 2 _ rfl
        have y3 := hx 3 _ rfl
        have y4 := hx 4 _ rfl
        have y5 := hx 5 _ rfl
        clear hx
        go_wp2_with fail
        refine bodyPost_ret (v := .agg #[.int .i64 k1, .slice ka kn kc, .string (Lx.strB s1), .slice wa wn wc, .slice sa sn sc, .slice ra rn rc]) (by simp [results, Tryd.results53, go_sem, r0, r1, r2, r3, r4, r5]) rfl ?_
        rw [HR1.out]
        refine HK1.out.fin1 (F := [rb]) ((Chg.refl _ _).six _ _ _ _ _ _ _ (.inl (by simp))) (by simp) (fun n hn => ?_)
        obtain ⟨l, hl, rfl⟩ := Option.map_eq_some_iff.1 hn
        obtain ⟨rfl, p, d, e⟩ := HO.out l hl
        obtain ⟨h1, _⟩ := HK1.out.nodes p d e
        match l, h1 with
        | [x], _ => exact ⟨rfl, p, d, e⟩
      · have hm0 : ((m : Int) == 1) = false := by rw [beq_eq_false_iff_ne]; omega
        have HM := Lib.hid hm
        clear hm
        go_wp2_with fail
        refine bodyPost_ret (v := .agg (nodeC 4 (.slice ao m co))) (by simp [results, Tryd.results53, go_sem, nodeC, r0, r1, r2, r3, r4, r5]) rfl ?_
        rw [HR1.out]
        refine HK1.out.finN (F := [rb]) ((Chg.refl _ _).six _ _ _ _ _ _ _ (.inl (by simp))) (by simp) 4 rfl (fun n hn => ?_)
        obtain ⟨l, hl, rfl⟩ := Option.map_eq_some_iff.1 hn
        obtain ⟨rfl, p, d, e⟩ := HO.out l hl
        obtain ⟨h1, _⟩ := HK1.out.nodes p d e
        refine ⟨?_, p, d, e⟩
        match l, h1 with
        | [], _ => rfl
        | [x], h1 => exact absurd (by simpa using h1) HM.out
        | x :: y :: l, _ => rfl

end Go.Proofs.YtfgbbmnmblchiaaDoor

namespace Go.Proofs.YtfgbbmnmblchiaaDoor
open Go.RowKit
set_option linter.unusedVariables false

section
variable {w wr w' : World} {pb : Nat} {a : Option Addr} {c : Nat} {ts : List Lx.Tok} {vs : List Value} {ln : Nat} {B : List Nat} {st : St} {m : Nat} {acc : List Ps.Node} {kv : Value} {xs : List Value}

/-- a tree held stays. -/
theorem KR.hold (h : KR w pb a c ts vs ln B st m acc kv xs wr) {n : Ps.Node} {cs : List Value} (hn : NodeAt wr (Sx (.slice a ts.length c) vs B kv w.heap.size wr.heap.size) n cs) {F : List Nat} (hc : Chg F wr w') (hF : ∀ k ∈ F, k = pb ∨ k ∈ B) : NodeAt w' (Sx (.slice a ts.length c) vs B kv w.heap.size w'.heap.size) n cs :=
  NodeAt.mono (fun j hj => ⟨hj.1.imp id (fun h1 => ⟨h1.1, Nat.lt_of_lt_of_le h1.2 hc.size⟩), hj.2⟩) _ _ (NodeAt.kept hc (fun k hk hS => by
    rcases hF k hk with rfl | h1
    · exact h.pb_out hS
    · exact hS.2.1 h1) _ _ hn)
/-- .. apart from a block of one's own. -/
theorem KR.holdO (h : KR w pb a c ts vs ln B st m acc kv xs wr) {n : Ps.Node} {cs : List Value} (hn : NodeAt wr (Sx (.slice a ts.length c) vs B kv w.heap.size wr.heap.size) n cs) (o : Obj) {b : Nat} (hb : b = wr.heap.size) : NodeAt (wr.alloc o) (Sx (.slice a ts.length c) vs (b :: B) kv w.heap.size (wr.alloc o).heap.size) n cs := by
  subst hb
  have hc : Chg [] wr (wr.alloc o) := (Chg.refl [] wr).alloc o
  have hs : (wr.alloc o).heap.size = wr.heap.size + 1 := by simp
  refine NodeAt.mono (fun j hj => ?_) _ _ (NodeAt.kept hc (by simp) _ _ hn)
  have hlt : j < wr.heap.size := by
    rcases hj.1 with h1 | h1
    · have := h.old.2 j h1; have := h.chg.size; omega
    · exact h1.2
  refine ⟨hj.1.imp id (fun h1 => ⟨h1.1, by omega⟩), ?_, hj.2.2⟩
  simp only [List.mem_cons, not_or]
  exact ⟨by omega, hj.2.1⟩
/-- a private block through a call. -/
theorem KR.priv (h : KR w pb a c ts vs ln B st m acc kv xs wr) {b : Nat} (hb : b ∈ B) {o : Obj} (ho : wr.heap[b]? = some o) (hc : Chg [pb] wr w') : w'.heap[b]? = some o :=
  hc.obj ho (by have := (h.b_ne hb).1; simpa using this)
/-- a new block of trees that are held: a row. -/
theorem KR.rowOf (h : KR w pb a c ts vs ln B st m acc (.slice none 0 0) xs wr) {ns : List Ps.Node} {ys : List Value} {k : Int} {kb n : Nat} (hn : ns.length = n) (h0 : 0 < n) (hm : n ≤ 100000) (hkb : wr.heap[kb]? = some (.cells ys.toArray 42 (0, 0))) (hlo : w.heap.size ≤ kb) (hB : kb ∉ B)
    (hns : NodesAt wr (Sx (.slice a ts.length c) vs B (.slice none 0 0) w.heap.size wr.heap.size) ns ys) : NodeAt wr (Sx (.slice a ts.length c) vs B (.slice none 0 0) w.heap.size wr.heap.size) (Ps.node k ns) (nodeC k (.slice (some ⟨kb, 0, none⟩) n n)).toList := by
  subst hn
  refine node_at (Row.sl (Row.new hkb (NodesAt.len hns) h0 hm) (fun j hj => ?_)) hns
  have hj2 : j = kb := by
    simp only [rowBlock] at hj
    split at hj
    · simp at hj
    · simpa using hj
  subst hj2
  exact ⟨.inr ⟨hlo, lt_of_obj hkb⟩, hB, by simp [rowBlock]⟩
/-- at the end: the tree held. -/
theorem KR.finH (h : KR w pb a c ts vs ln B st m acc kv xs wr) {o : Option Ps.Node} {cs : List Value} (h6 : Six cs) (hn : ∀ n, o = some n → NodeAt wr (Sx (.slice a ts.length c) vs B kv w.heap.size wr.heap.size) n cs) {F : List Nat} (hc : Chg F wr w') (hF : ∀ k ∈ F, k ∈ B) : SPost w pb a c ts vs ln (st, o) (.returned (.agg cs.toArray)) w' := by
  have h1 := h.kept hc hF
  exact ⟨cs, h6, rfl, h1.chg, h1.rs, fun n hn2 => NodeAt.mono (fun j hj => hj.1) _ _ (h.hold (hn n hn2) hc (fun k hk => .inr (hF k hk)))⟩
end

/-- a tree held, if there is one. -/
def HeldAt (w : World) (tv : Value) (vs : List Value) (B : List Nat) (o : Option Ps.Node) (cs : List Value) (wr : World) : Prop := ∀ n, o = some n → NodeAt wr (Sx tv vs B (.slice none 0 0) w.heap.size wr.heap.size) n cs

/-- two trees joined. -/
def joinO (k : Int) : Option Ps.Node → Option Ps.Node → Option Ps.Node
  | some n, some m => some (Ps.node k [n, m])
  | _, _ => none
theorem joinO_some {k : Int} {x y : Option Ps.Node} {z : Ps.Node} (h : joinO k x y = some z) : ∃ n m, x = some n ∧ y = some m ∧ z = Ps.node k [n, m] := by
  cases x <;> cases y <;> simp [joinO] at h
  exact ⟨_, _, rfl, rfl, h.symm⟩
theorem KR.heldC {w wr w' : World} {pb : Nat} {a : Option Addr} {c : Nat} {ts : List Lx.Tok} {vs : List Value} {ln : Nat} {B : List Nat} {st : St} {m : Nat} {acc : List Ps.Node} {xs : List Value} (h : KR w pb a c ts vs ln B st m acc (.slice none 0 0) xs wr) {o : Option Ps.Node} {cs : List Value} (hn : HeldAt w (.slice a ts.length c) vs B o cs wr) {F : List Nat} (hc : Chg F wr w') (hF : ∀ k ∈ F, k = pb ∨ k ∈ B) : HeldAt w (.slice a ts.length c) vs B o cs w' :=
  fun n hn2 => h.hold (hn n hn2) hc hF
/-- two trees joined in a new block, and the node written. -/
theorem KR.join {w wr w1 W : World} {pb : Nat} {a : Option Addr} {c : Nat} {ts : List Lx.Tok} {vs : List Value} {ln : Nat} {B : List Nat} {st : St} (h : KR w pb a c ts vs ln B st 0 [] (.slice none 0 0) [] wr) {o : Option Ps.Node} {cs ms : List Value} (hn : HeldAt w (.slice a ts.length c) vs B o cs wr)
    (hc : Chg [pb] wr w1) {S : St × Option Ps.Node} (hr : RS w1 pb a c ts vs ln S.1) (hg : ∀ p d, S.1 = .ok p d → ∃ p' d', st = .ok p' d') (hm : ∀ n, S.2 = some n → NodeAt w1 (Sn (.slice a ts.length c) vs wr.heap.size w1.heap.size) n ms) {F : List Nat} (hF : ∀ k ∈ F, k ∈ B) (hW : Chg F (w1.alloc (.cells (cs ++ ms).toArray 42)) W) (k : Int) :
    KR w pb a c ts vs ln B S.1 0 [] (.slice none 0 0) [] W ∧ HeldAt w (.slice a ts.length c) vs B (joinO k o S.2) (nodeC k (.slice (some ⟨w1.heap.size, 0, none⟩) 2 2)).toList W := by
  have h1 := h.call hc hr hg
  have h2 : Chg F w1 W := ((Chg.refl F w1).alloc _).trans hW (fun x hx => .inl hx)
  have h3 := h1.kept h2 hF
  have hB : w1.heap.size ∉ B := fun hb => by have := (h1.bs _ hb).2; omega
  refine ⟨h3, fun z hz => ?_⟩
  obtain ⟨n, m, e1, e2, rfl⟩ := joinO_some hz
  have hF2 : ∀ k ∈ F, k = pb ∨ k ∈ B := fun k hk => .inr (hF k hk)
  have a1 := h1.hold (h.hold (hn n e1) hc (by simp)) h2 hF2
  have a2 := h1.hold (h.got (hm m e2) (Nat.le_refl _)) h2 hF2
  exact h3.rowOf (ns := [n, m]) (n := 2) rfl (by decide) (by decide) (hW.obj (obj_alloc_new w1 _) (fun hk => hB (hF _ hk))) h1.chg.size hB (NodesAt.two a1 a2)

/-- what is left to do behind a pipe. -/
def chainS (ts : List Lx.Tok) (ln : Nat) (cmd : Nat → Ps.Res Ps.Node) (g : Nat) : St → Option Ps.Node → St × Option Ps.Node
  | .bad e t, _ => (.bad e t, none)
  | .ok q d, none => (.ok q d, none)
  | .ok q d, some n => toS ts ln d (Ps.chainL ts cmd g q n)
def St.link (ts : List Lx.Tok) : St → Int
  | .ok p _ => Ps.linkK ts p
  | .bad _ _ => 0
theorem chainS_start {ts : List Lx.Tok} {ln : Nat} {cmd : Nat → Ps.Res Ps.Node} (st : St) : st.step ts ln (Ps.chainP ts cmd) = chainS ts ln cmd (ts.length + 1) (st.step ts ln (Ps.pipeP ts cmd)).1 (st.step ts ln (Ps.pipeP ts cmd)).2 := by
  cases st with
  | bad e t => rfl
  | ok p d =>
    show toS ts ln d (Ps.chainP ts cmd p) = _
    rw [chainP_eq]
    cases hc : Ps.pipeP ts cmd p with
    | bad e b => simp [St.step, hc, toS, chainR, chainS]
    | ok n b => simp [St.step, hc, toS, chainR, chainS]
theorem chainS_end {ts : List Lx.Tok} {ln : Nat} {cmd : Nat → Ps.Res Ps.Node} {g : Nat} {s : St} {o : Option Ps.Node} (h : s.link ts = 0) (hg : ∀ q d, s = .ok q d → o ≠ none) : ∃ o', chainS ts ln cmd (g + 1) s o = (s, o') ∧ ∀ n, o' = some n → o = some n ∧ ∃ p d, s = .ok p d := by
  cases s with
  | bad e t => exact ⟨none, rfl, fun n h => by cases h⟩
  | ok q d =>
    cases o with
    | none => exact absurd rfl (hg q d rfl)
    | some n =>
      refine ⟨some n, ?_, fun m hm => ⟨hm, q, d, rfl⟩⟩
      show toS ts ln d (Ps.chainL ts cmd (g + 1) q n) = _
      rw [chainL_end h]
      rfl
theorem chainS_more {ts : List Lx.Tok} {ln : Nat} {cmd : Nat → Ps.Res Ps.Node} {g q d : Nat} {lk : Int} {n : Ps.Node} (h : Ps.linkK ts q = lk) (h0 : lk ≠ 0) : chainS ts ln cmd (g + 1) (.ok q d) (some n) = chainS ts ln cmd g ((St.ok (Ps.endsP ts (q + 1)) d).step ts ln (Ps.pipeP ts cmd)).1 (joinO lk (some n) ((St.ok (Ps.endsP ts (q + 1)) d).step ts ln (Ps.pipeP ts cmd)).2) := by
  show toS ts ln d (Ps.chainL ts cmd (g + 1) q n) = _
  rw [chainL_more h h0]
  cases hc : Ps.pipeP ts cmd (Ps.endsP ts (q + 1)) with
  | bad e b => simp [St.step, hc, toS, chainK, chainS]
  | ok k b => simp [St.step, hc, toS, chainK, chainS, joinO]
/-- && is not two strokes. -/
theorem and_or {ts : List Lx.Tok} {q : Nat} (h : Ps.isT ts q 2 [38, 38] = true) : Ps.isT ts q 2 [124, 124] = false := by
  have hlt := isT_lt h
  have ht : ts[q]? = some ts[q] := List.getElem?_eq_getElem hlt
  rw [isT_some ht] at h ⊢
  simp at h
  rw [h.2]
  simp
theorem link_cases (ts : List Lx.Tok) (s : St) : (∃ q d, s = .ok q d ∧ Ps.isT ts q 2 [38, 38] = true) ∨ (∃ q d, s = .ok q d ∧ Ps.isT ts q 2 [38, 38] = false ∧ Ps.isT ts q 2 [124, 124] = true) ∨ (s.is ts 2 [38, 38] = false ∧ s.is ts 2 [124, 124] = false ∧ s.link ts = 0) := by
  cases s with
  | bad e t => exact .inr (.inr ⟨rfl, rfl, rfl⟩)
  | ok q d =>
    cases h1 : Ps.isT ts q 2 [38, 38] with
    | true => exact .inl ⟨q, d, rfl, h1⟩
    | false =>
      cases h2 : Ps.isT ts q 2 [124, 124] with
      | true => exact .inr (.inl ⟨q, d, rfl, h1, h2⟩)
      | false => exact .inr (.inr ⟨h1, h2, linkK_no h1 h2⟩)

set_option maxHeartbeats 4000000 in
set_option maxRecDepth 10000 in
theorem schain (pb : Nat) (a : Option Addr) (c : Nat) (ts : List Lx.Tok) (vs : List Value) (ln deep : Nat) (cmd : Nat → Ps.Res Ps.Node) (hcmd : Does 63 pb a c ts vs ln deep cmd) (hmv : Moves cmd) :
    Does 36 pb a c ts vs ln deep (Ps.chainP ts cmd) := by
  intro st w hat h
  have hfew := h.few
  have HAT := Lib.hid hat
  have HK0 := Lib.hid ((KR.start h).own (.cells (nodeC 0 (.slice none 0 0)) 42) rfl)
  have HRS0 := Lib.hid (obj_alloc_new w (.cells (nodeC 0 (.slice none 0 0)) 42))
  have HR := Lib.hid (chainS_start (ts := ts) (ln := ln) (cmd := cmd) st)
  have HPI := Lib.hid (spipe pb a c ts vs ln deep cmd hcmd hmv)
  have HMV := Lib.hid (pipe_moves (ts := ts) hmv)
  have HPB := Lib.hid h.lt
  clear h hcmd hmv hat
  go_enter Tryd.func36, Tryd.ntmps36
  go_wp2_with fail
  refine (HPI.out st _ HAT.out HK0.out.rs).mono ?_
  obtain ⟨S, hS⟩ : ∃ S, st.step ts ln (Ps.pipeP ts cmd) = S := ⟨_, rfl⟩
  rw [hS]
  rintro e w1 ⟨cs, hsix, rfl, hC1, hP1, hN1⟩
  have hg : ∀ p d, S.1 = .ok p d → (∃ p' d', st = .ok p' d') ∧ ∃ n, S.2 = some n := fun p d h => hS ▸ step_g (hS.symm ▸ h)
  have HG1 := Lib.hid (show ∀ p d, S.1 = .ok p d → S.2 ≠ none from fun p d h => by obtain ⟨_, n, e⟩ := hg p d h; rw [e]; simp)
  have HA1 := Lib.hid (show S.1.At deep from hS ▸ step_at HAT.out)
  have HR1 := Lib.hid (show st.step ts ln (Ps.chainP ts cmd) = chainS ts ln cmd (ts.length + 1) S.1 S.2 from hS ▸ HR.out)
  have HRS1 := Lib.hid (obj_alloc_old (HK0.out.priv (by simp) HRS0.out hC1) (.cells cs.toArray 42))
  have hK1 := HK0.out.call hC1 hP1 (fun p d h => (hg p d h).1)
  have HK1 := Lib.hid (hK1.own (.cells cs.toArray 42) rfl)
  have HND1 := Lib.hid (obj_alloc_new w1 (.cells cs.toArray 42))
  have HN1 := Lib.hid (show HeldAt w (.slice a ts.length c) vs [w1.heap.size, w.heap.size] S.2 cs (w1.alloc (.cells cs.toArray 42)) from fun n (hn : S.2 = some n) => hK1.holdO (HK0.out.got (hN1 n hn) (Nat.le_refl _)) (.cells cs.toArray 42) rfl)
  have HSIX := Lib.hid hsix
  have HNB := Lib.hid (show w1.heap.size ≠ w.heap.size from by have := hC1.size; simp at this; omega)
  obtain ⟨k1, s1, ka, wa, sa, ra, kn, kc, wn, wc, sn, sc, rn, rc, rfl⟩ := hsix
  clear hC1 hP1 hN1 hg hS HK0 HRS0 HR hK1
  go_wp2_with fail
  generalize w1.heap.size = nb at *
  generalize w.heap.size = rb at *
  go_loopg [4] (ts.length + 1) (fun g c4 wr => ∃ (s : St) (o : Option Ps.Node) (cs : List Value), KR w pb a c ts vs ln [nb, rb] s 0 [] (.slice none 0 0) [] wr ∧ Hid (wr.heap[nb]? = some (.cells cs.toArray 42 (0, 0))) ∧ Hid (wr.heap[rb]? = some (.cells (nodeC 0 (.slice none 0 0)) 42 (0, 0))) ∧ Six cs ∧ Hid (HeldAt w (.slice a ts.length c) vs [nb, rb] o cs wr) ∧ Hid (∀ q d, s = .ok q d → o ≠ none) ∧ Hid (s.At deep) ∧ Hid (∀ q d, s = .ok q d → ts.length < q + g) ∧ Hid (st.step ts ln (Ps.chainP ts cmd) = chainS ts ln cmd g s o))
  case atStart => exact ⟨S.1, S.2, _, HK1.out, HND1, HRS1, HSIX.out, HN1, HG1, HA1, Lib.hid (fun q d _ => by omega), HR1⟩
  case round =>
    obtain ⟨s, o, cs, hK, hnd, hrs, hsix, hn, hgd, hat, hq, hr⟩ := hrel
    clear HK1 HND1 HRS1 HSIX HN1 HG1 HA1 HR1
    obtain ⟨k2, s2, ka2, wa2, sa2, ra2, kn2, kc2, wn2, wc2, sn2, sc2, rn2, rc2, rfl⟩ := hsix
    have HK := Lib.hid hK
    have I1 := fun (x : Bool) (hx : s.is ts 2 [38, 38] = x) => hx ▸ sis pb a c ts vs ln s wr 2 [38, 38] (by decide) hK.rs
    have I2 := fun (n1 : Nat) (x : Bool) (hx : s.is ts 2 [124, 124] = x) => hx ▸ sis pb a c ts vs ln s _ 2 [124, 124] (by decide) (hK.rs.drewN n1)
    have I3 := fun (n1 n2 : Nat) (x : Bool) (hx : s.is ts 2 [124, 124] = x) => hx ▸ sis pb a c ts vs ln s _ 2 [124, 124] (by decide) ((hK.rs.drewN n1).drewN n2)
    clear hK
    rcases link_cases ts s with ⟨q, d, rfl, hT⟩ | ⟨q, d, rfl, hT0, hT⟩ | ⟨h1, h2, h3⟩
    · have J1 := Lib.hid (I1 _ hT)
      have J2 := Lib.hid (fun n => I2 n _ (and_or hT))
      have HLK := Lib.hid (linkK_and hT)
      have hlt := isT_lt hT
      obtain rfl : d = deep := hat.out
      have hq2 := hq.out q d rfl
      obtain ⟨n, rfl⟩ : ∃ n, o = some n := by
        cases o with
        | none => exact absurd rfl (hgd.out q d rfl)
        | some n => exact ⟨n, rfl⟩
      cases gk with
      | zero => omega
      | succ g =>
      have HR1 := Lib.hid (hr.out.trans (chainS_more HLK.out (by decide)))
      clear I1 I2 I3 hr hT hq hgd
      go_wp2_with fail
      refine J1.out.mono ?_
      rintro e w4 ⟨rfl, n1, rfl⟩
      go_wp2_with fail
      refine (J2.out n1).mono ?_
      rintro e w5 ⟨rfl, n2, rfl⟩
      have hC0 := ((Chg.refl [] wr).drewN n1).drewN n2
      have HK1 := Lib.hid (HK.out.kept0 hC0)
      have HND1 := Lib.hid (hC0.obj hnd.out (by simp))
      have HRS1 := Lib.hid (hC0.obj hrs.out (by simp))
      have HN1 := Lib.hid (HK.out.heldC hn.out hC0 (by simp))
      clear hC0 HK hnd hrs hn J1 J2
      generalize (wr.drewN n1).drewN n2 = w5 at *
      have x1 := HK1.out.rs.1.c1
      have f1 := HK1.out.rs.1.free 1
      have hpl : (q : Int) ≤ 100000 := by omega
      go_wp2_with fail
      have hC1 := Chg.setP w5 pb 1 (.int .i64 ((q : Int) + 1))
      have HK2 := Lib.hid (HK1.out.call hC1 (st' := .ok (q + 1) d) (ROk.setAt HK1.out.rs _ (by omega) (by omega)) (fun p d' _ => ⟨q, d, rfl⟩))
      have HND2 := Lib.hid (HK1.out.priv (by simp) HND1.out hC1)
      have HRS2 := Lib.hid (HK1.out.priv (by simp) HRS1.out hC1)
      have HN2 := Lib.hid (HK1.out.heldC HN1.out hC1 (by simp))
      clear x1 f1 HK1 HND1 HRS1 HN1 hC1
      refine (sends pb a c ts vs ln (.ok (q + 1) d) _ HK2.out.rs).mono ?_
      rintro e w6 ⟨rfl, hP2, hC2⟩
      have HK3 := Lib.hid (HK2.out.call (st' := .ok (Ps.endsP ts (q + 1)) d) hC2 hP2 (fun p d' _ => ⟨_, d, rfl⟩))
      have hnd3 := HK2.out.priv (by simp) HND2.out hC2
      have HND3 := Lib.hid hnd3
      have HRS3 := Lib.hid (HK2.out.priv (by simp) HRS2.out hC2)
      have HN3 := Lib.hid (HK2.out.heldC HN2.out hC2 (by simp))
      have HNE := Lib.hid (show nb ∉ [pb] from by have := (HK3.out.b_ne (b := nb) (by simp)).1; simpa using this)
      have HEN := Lib.hid (endsP_le (ts := ts) (p := q + 1) (by omega))
      obtain ⟨t0, t1, t2, t3, t4, t5, tf⟩ := six_cells hnd3
      obtain ⟨S, hS⟩ : ∃ S, (St.ok (Ps.endsP ts (q + 1)) d).step ts ln (Ps.pipeP ts cmd) = S := ⟨_, rfl⟩
      rw [hS] at HR1
      have HSS := Lib.hid hS
      have HPI2 := Lib.hid (fun W (h : RS W pb a c ts vs ln (.ok (Ps.endsP ts (q + 1)) d)) => HPI.out (.ok (Ps.endsP ts (q + 1)) d) W rfl h)
      rw [hS] at HPI2
      clear hP2 hC2 HK2 HND2 HRS2 HN2 hnd3 hS
      go_wp2_with fail
      go_region_law ((first | (go_simp; refine (HPI2.out _ (HK3.out.rs.drew)).mono ?_; rintro e w7 ⟨ms, ⟨k3, s3, ka3, wa3, sa3, ra3, kn3, kc3, wn3, wc3, sn3, sc3, rn3, rc3, rfl⟩, rfl, hC7, hP7, hN7⟩; have u0 := hC7.cell t0 HNE.out; have u1 := hC7.cell t1 HNE.out; have u2 := hC7.cell t2 HNE.out; have u3 := hC7.cell t3 HNE.out; have u4 := hC7.cell t4 HNE.out; have u5 := hC7.cell t5 HNE.out; have hnd7 := hC7.drew0.obj HND3.out HNE.out; obtain ⟨c0, c1, c2, c3, c4, c5, cf⟩ := six_cells_alloc hnd7; have HND7 := Lib.hid hnd7; have HC7 := Lib.hid hC7.drew0; have HP7 := Lib.hid hP7; have HN7 := Lib.hid hN7; clear hnd7 hC7 hP7 hN7)))
      all_goals
        go_wp2
        go_roundg g
        case measure => omega
        case rel =>
          have hW := (Chg.refl [nb] (w7.alloc (.cells #[.int .i64 k2, .slice ka2 kn2 kc2, .string (Lx.strB s2), .slice wa2 wn2 wc2, .slice sa2 sn2 sc2, .slice ra2 rn2 rc2, .int .i64 k3, .slice ka3 kn3 kc3, .string (Lx.strB s3), .slice wa3 wn3 wc3, .slice sa3 sn3 sc3, .slice ra3 rn3 rc3] 42))).six nb (.int .i64 2) (.slice (some ⟨w7.heap.size, 0, none⟩) 2 2) (.string ⟨#[]⟩) (.slice none 0 0) (.slice none 0 0) (.slice none 0 0) (.inl (by simp))
          have hgg : ∀ p d', S.1 = .ok p d' → (∃ p' d'', St.ok (Ps.endsP ts (q + 1)) d = .ok p' d'') ∧ ∃ n, S.2 = some n := fun p d h => HSS.out ▸ step_g (HSS.out.symm ▸ h)
          have J := HK3.out.join HN3.out HC7.out HP7.out (fun p d h => (hgg p d h).1) HN7.out (by simp) hW 2
          refine ⟨S.1, joinO 2 (some n) S.2, (nodeC 2 (.slice (some ⟨w7.heap.size, 0, none⟩) 2 2)).toList, ?_⟩
          refine ⟨?_, ?_, ?_, nodeC_six _ _ _ _, Lib.hid J.2, Lib.hid (fun p d h => ?_), Lib.hid (HSS.out ▸ step_at (ts := ts) (ln := ln) (f := Ps.pipeP ts cmd) (st := .ok (Ps.endsP ts (q + 1)) d) (deep := d) rfl), Lib.hid (fun p d h => ?_), HR1⟩
          · exact J.1
          · exact Lib.hid (six_obj (obj_alloc_old HND7.out _) _ _ _ _ _ _)
          · exact Lib.hid (hW.obj (obj_alloc_old (HK3.out.priv (by simp) HRS3.out HC7.out) _) (by have := HNB.out; simp; exact fun e => this e.symm))
          · obtain ⟨_, m, e⟩ := hgg p d h
            rw [e]
            simp [joinO]
          · obtain ⟨q', m, h1, h2, _⟩ := step_ok (HSS.out.symm ▸ h)
            cases h1
            have := HMV.out _ _ _ h2
            have := HEN.out
            omega
    · have J1 := Lib.hid (I1 _ hT0)
      have J2 := Lib.hid (fun n => I2 n _ hT)
      have J3 := Lib.hid (fun n => I2 n _ hT)
      have HLK := Lib.hid (linkK_or hT0 hT)
      have hlt := isT_lt hT
      obtain rfl : d = deep := hat.out
      have hq2 := hq.out q d rfl
      obtain ⟨n, rfl⟩ : ∃ n, o = some n := by
        cases o with
        | none => exact absurd rfl (hgd.out q d rfl)
        | some n => exact ⟨n, rfl⟩
      cases gk with
      | zero => omega
      | succ g =>
      have HR1 := Lib.hid (hr.out.trans (chainS_more HLK.out (by decide)))
      clear I1 I2 I3 hr hT hq hgd hT0
      go_wp2_with fail
      refine J1.out.mono ?_
      rintro e w4 ⟨rfl, n1, rfl⟩
      go_wp2_with fail
      refine (J2.out n1).mono ?_
      rintro e w5 ⟨rfl, n2, rfl⟩
      go_wp2_with fail
      refine (J3.out (n1 + n2)).mono ?_
      rintro e w6 ⟨rfl, n3, rfl⟩
      have hC0 := ((Chg.refl [] wr).drewN (n1 + n2)).drewN n3
      have HK1 := Lib.hid (HK.out.kept0 hC0)
      have HND1 := Lib.hid (hC0.obj hnd.out (by simp))
      have HRS1 := Lib.hid (hC0.obj hrs.out (by simp))
      have HN1 := Lib.hid (HK.out.heldC hn.out hC0 (by simp))
      clear hC0 HK hnd hrs hn J1 J2 J3
      generalize (wr.drewN (n1 + n2)).drewN n3 = w5 at *
      have x1 := HK1.out.rs.1.c1
      have f1 := HK1.out.rs.1.free 1
      have hpl : (q : Int) ≤ 100000 := by omega
      go_wp2_with fail
      have hC1 := Chg.setP w5 pb 1 (.int .i64 ((q : Int) + 1))
      have HK2 := Lib.hid (HK1.out.call hC1 (st' := .ok (q + 1) d) (ROk.setAt HK1.out.rs _ (by omega) (by omega)) (fun p d' _ => ⟨q, d, rfl⟩))
      have HND2 := Lib.hid (HK1.out.priv (by simp) HND1.out hC1)
      have HRS2 := Lib.hid (HK1.out.priv (by simp) HRS1.out hC1)
      have HN2 := Lib.hid (HK1.out.heldC HN1.out hC1 (by simp))
      clear x1 f1 HK1 HND1 HRS1 HN1 hC1
      refine (sends pb a c ts vs ln (.ok (q + 1) d) _ HK2.out.rs).mono ?_
      rintro e w6 ⟨rfl, hP2, hC2⟩
      have HK3 := Lib.hid (HK2.out.call (st' := .ok (Ps.endsP ts (q + 1)) d) hC2 hP2 (fun p d' _ => ⟨_, d, rfl⟩))
      have hnd3 := HK2.out.priv (by simp) HND2.out hC2
      have HND3 := Lib.hid hnd3
      have HRS3 := Lib.hid (HK2.out.priv (by simp) HRS2.out hC2)
      have HN3 := Lib.hid (HK2.out.heldC HN2.out hC2 (by simp))
      have HNE := Lib.hid (show nb ∉ [pb] from by have := (HK3.out.b_ne (b := nb) (by simp)).1; simpa using this)
      have HEN := Lib.hid (endsP_le (ts := ts) (p := q + 1) (by omega))
      obtain ⟨t0, t1, t2, t3, t4, t5, tf⟩ := six_cells hnd3
      obtain ⟨S, hS⟩ : ∃ S, (St.ok (Ps.endsP ts (q + 1)) d).step ts ln (Ps.pipeP ts cmd) = S := ⟨_, rfl⟩
      rw [hS] at HR1
      have HSS := Lib.hid hS
      have HPI2 := Lib.hid (fun W (h : RS W pb a c ts vs ln (.ok (Ps.endsP ts (q + 1)) d)) => HPI.out (.ok (Ps.endsP ts (q + 1)) d) W rfl h)
      rw [hS] at HPI2
      clear hP2 hC2 HK2 HND2 HRS2 HN2 hnd3 hS
      go_wp2_with fail
      go_region_law ((first | (go_simp; refine (HPI2.out _ (HK3.out.rs.drew)).mono ?_; rintro e w7 ⟨ms, ⟨k3, s3, ka3, wa3, sa3, ra3, kn3, kc3, wn3, wc3, sn3, sc3, rn3, rc3, rfl⟩, rfl, hC7, hP7, hN7⟩; have u0 := hC7.cell t0 HNE.out; have u1 := hC7.cell t1 HNE.out; have u2 := hC7.cell t2 HNE.out; have u3 := hC7.cell t3 HNE.out; have u4 := hC7.cell t4 HNE.out; have u5 := hC7.cell t5 HNE.out; have hnd7 := hC7.drew0.obj HND3.out HNE.out; obtain ⟨c0, c1, c2, c3, c4, c5, cf⟩ := six_cells_alloc hnd7; have HND7 := Lib.hid hnd7; have HC7 := Lib.hid hC7.drew0; have HP7 := Lib.hid hP7; have HN7 := Lib.hid hN7; clear hnd7 hC7 hP7 hN7)))
      all_goals
        go_wp2
        go_roundg g
        case measure => omega
        case rel =>
          have hW := (Chg.refl [nb] (w7.alloc (.cells #[.int .i64 k2, .slice ka2 kn2 kc2, .string (Lx.strB s2), .slice wa2 wn2 wc2, .slice sa2 sn2 sc2, .slice ra2 rn2 rc2, .int .i64 k3, .slice ka3 kn3 kc3, .string (Lx.strB s3), .slice wa3 wn3 wc3, .slice sa3 sn3 sc3, .slice ra3 rn3 rc3] 42))).six nb (.int .i64 3) (.slice (some ⟨w7.heap.size, 0, none⟩) 2 2) (.string ⟨#[]⟩) (.slice none 0 0) (.slice none 0 0) (.slice none 0 0) (.inl (by simp))
          have hgg : ∀ p d', S.1 = .ok p d' → (∃ p' d'', St.ok (Ps.endsP ts (q + 1)) d = .ok p' d'') ∧ ∃ n, S.2 = some n := fun p d h => HSS.out ▸ step_g (HSS.out.symm ▸ h)
          have J := HK3.out.join HN3.out HC7.out HP7.out (fun p d h => (hgg p d h).1) HN7.out (by simp) hW 3
          refine ⟨S.1, joinO 3 (some n) S.2, (nodeC 3 (.slice (some ⟨w7.heap.size, 0, none⟩) 2 2)).toList, ?_⟩
          refine ⟨?_, ?_, ?_, nodeC_six _ _ _ _, Lib.hid J.2, Lib.hid (fun p d h => ?_), Lib.hid (HSS.out ▸ step_at (ts := ts) (ln := ln) (f := Ps.pipeP ts cmd) (st := .ok (Ps.endsP ts (q + 1)) d) (deep := d) rfl), Lib.hid (fun p d h => ?_), HR1⟩
          · exact J.1
          · exact Lib.hid (six_obj (obj_alloc_old HND7.out _) _ _ _ _ _ _)
          · exact Lib.hid (hW.obj (obj_alloc_old (HK3.out.priv (by simp) HRS3.out HC7.out) _) (by have := HNB.out; simp; exact fun e => this e.symm))
          · obtain ⟨_, m, e⟩ := hgg p d h
            rw [e]
            simp [joinO]
          · obtain ⟨q', m, h1, h2, _⟩ := step_ok (HSS.out.symm ▸ h)
            cases h1
            have := HMV.out _ _ _ h2
            have := HEN.out
            omega
    · -- none of both
      have J1 := Lib.hid (I1 _ h1)
      have J2 := Lib.hid (fun n => I2 n _ h2)
      have HR1 : Hid (∃ o', st.step ts ln (Ps.chainP ts cmd) = (s, o') ∧ ∀ n, o' = some n → o = some n) := by
        cases gk with
        | zero =>
          cases s with
          | bad e t => exact Lib.hid ⟨none, hr.out, fun n h => by cases h⟩
          | ok q d =>
            exfalso
            have := hq.out q d rfl
            have := HK.out.rs.2.1
            omega
        | succ g =>
          obtain ⟨o', e1, e2⟩ := chainS_end (ln := ln) (cmd := cmd) (g := g) h3 hgd.out
          exact Lib.hid ⟨o', hr.out.trans e1, fun n h => (e2 n h).1⟩
      obtain ⟨r0, r1, r2, r3, r4, r5, rf⟩ := node_cells hrs.out
      obtain ⟨t0, t1, t2, t3, t4, t5, tf⟩ := six_cells hnd.out
      clear I1 I2 I3 hr hq hgd h1 h2 h3
      go_wp2_with fail
      refine J1.out.mono ?_
      rintro e w4 ⟨rfl, n1, rfl⟩
      go_wp2_with fail
      refine (J2.out n1).mono ?_
      rintro e w5 ⟨rfl, n2, rfl⟩
      go_wp2_with fail
      refine bodyPost_ret (v := .agg #[.int .i64 k2, .slice ka2 kn2 kc2, .string (Lx.strB s2), .slice wa2 wn2 wc2, .slice sa2 sn2 sc2, .slice ra2 rn2 rc2]) (by simp [results, Tryd.results36, go_sem, r0, r1, r2, r3, r4, r5]) rfl ?_
      obtain ⟨o', e1, e2⟩ := HR1.out
      rw [e1]
      have hC0 := (Chg.refl [] wr).drewN (n1 + n2)
      refine (HK.out.kept0 hC0).finH ⟨_, _, _, _, _, _, _, _, _, _, _, _, _, _, rfl⟩ (fun n hn2 => HK.out.heldC hn.out hC0 (by simp) n (e2 n hn2)) (F := [rb]) ?_ (by simp)
      exact (Chg.refl [rb] (wr.drewN (n1 + n2))).six rb (.int .i64 k2) (.slice ka2 kn2 kc2) (.string (Lx.strB s2)) (.slice wa2 wn2 wc2) (.slice sa2 sn2 sc2) (.slice ra2 rn2 rc2) (.inl (by simp))

end Go.Proofs.YtfgbbmnmblchiaaDoor
