/-
  The document's reader: a list: walked. (Printed by genlistr.py.)
-/
import Derived.Test.YtfgbbmnmblchiaaDoorPm08
import Derived.StillTailTactics
namespace Go.Proofs.YtfgbbmnmblchiaaDoor
open Go.RowKit
set_option linter.unusedVariables false

def closeR (ts : List Lx.Tok) : Ps.Res (List Ps.Node) → Ps.Res (List Ps.Node)
  | .bad e b => .bad e b
  | .ok l b => if Ps.closing ts b = true then .ok l b else .bad 10 b
theorem listQ_eq (ts : List Lx.Tok) (cmd : Nat → Ps.Res Ps.Node) (sm : Bool) (p : Nat) : listQ ts cmd sm p = listR sm (closeR ts (Ps.listL ts cmd (ts.length + 1) (Ps.endsP ts p) [])) := by
  unfold listQ
  rw [listP_eq]
  cases Ps.listL ts cmd (ts.length + 1) (Ps.endsP ts p) [] with
  | bad e b => rfl
  | ok l b =>
    by_cases h1 : sm = true ∧ l = []
    · by_cases h2 : Ps.closing ts b = true
      · simp [listR, closeR, h1, h2]
      · simp [listR, closeR, h1, h2]
    · by_cases h2 : Ps.closing ts b = true
      · simp only [listR, closeR, if_neg h1, if_pos h2]
      · simp only [listR, closeR, if_neg h1, if_neg h2]
/-- what is left to do at a list's next chain. -/
def listS (ts : List Lx.Tok) (ln : Nat) (cmd : Nat → Ps.Res Ps.Node) (g : Nat) (acc : List Ps.Node) : St → St × Option (List Ps.Node)
  | .bad e t => (.bad e t, none)
  | .ok q d => toS ts ln d (closeR ts (Ps.listL ts cmd g q acc))
/-- .. behind the last one. -/
def mapQ (ts : List Lx.Tok) (ln : Nat) (sm : Bool) : St × Option (List Ps.Node) → St × Option Ps.Node
  | (.ok p d, some l) => if sm = true ∧ l = [] then (.bad 10 (posR ts ln p), none) else (.ok p d, some (Ps.node 1 l))
  | (s, _) => (s, none)
def St.after (ts : List Lx.Tok) (ln : Nat) : St → St
  | .bad e t => .bad e t
  | .ok b d => if Ps.isT ts b 3 [] = true then .ok (Ps.endsP ts b) d else if Ps.closing ts b = true then .ok b d else .bad 10 (posR ts ln b)
theorem listS_start {ts : List Lx.Tok} {ln : Nat} {cmd : Nat → Ps.Res Ps.Node} (sm : Bool) (st : St) : st.step ts ln (listQ ts cmd sm) = mapQ ts ln sm (listS ts ln cmd (ts.length + 1) [] (st.ends ts)) := by
  cases st with
  | bad e t => rfl
  | ok p d =>
    show toS ts ln d (listQ ts cmd sm p) = mapQ ts ln sm (toS ts ln d (closeR ts (Ps.listL ts cmd (ts.length + 1) (Ps.endsP ts p) [])))
    rw [listQ_eq]
    cases closeR ts (Ps.listL ts cmd (ts.length + 1) (Ps.endsP ts p) []) with
    | bad e b => rfl
    | ok l b =>
      by_cases h1 : sm = true ∧ l = []
      · simp only [listR, toS, mapQ, if_pos h1]
      · simp only [listR, toS, mapQ, if_neg h1]
theorem listS_more {ts : List Lx.Tok} {ln : Nat} {cmd : Nat → Ps.Res Ps.Node} {g q d : Nat} {acc : List Ps.Node} (h : Ps.closing ts q = false) : listS ts ln cmd (g + 1) acc (.ok q d) = listS ts ln cmd g (acc ++ ((St.ok q d).step ts ln (Ps.chainP ts cmd)).2.toList) (((St.ok q d).step ts ln (Ps.chainP ts cmd)).1.after ts ln) := by
  show toS ts ln d (closeR ts (Ps.listL ts cmd (g + 1) q acc)) = _
  rw [listL_more h]
  cases hc : Ps.chainP ts cmd q with
  | bad e b => simp [St.step, hc, toS, listK, closeR, listS, St.after]
  | ok k b =>
    have e1 : ((St.ok q d).step ts ln (Ps.chainP ts cmd)) = (.ok b d, some k) := by simp [St.step, hc, toS]
    rw [e1]
    cases h3 : Ps.isT ts b 3 [] with
    | true => simp [listK, h3, St.after, listS]
    | false =>
      cases h4 : Ps.closing ts b with
      | true =>
        have e2 : (St.ok b d).after ts ln = .ok b d := by simp [St.after, h3, h4]
        show _ = listS ts ln cmd g (acc ++ (some k).toList) ((St.ok b d).after ts ln)
        rw [e2]
        show toS ts ln d (closeR ts (if _ then _ else _)) = toS ts ln d (closeR ts (Ps.listL ts cmd g b (acc ++ [k])))
        rw [if_neg (by rw [h3]; decide)]
        cases g with
        | zero => rfl
        | succ g => rw [listL_end h4]
      | false => simp [listK, h3, St.after, listS, closeR, h4, toS]
theorem listS_end {ts : List Lx.Tok} {ln : Nat} {cmd : Nat → Ps.Res Ps.Node} {g : Nat} {acc : List Ps.Node} {s : St} (h : ∀ q d, s = .ok q d → Ps.closing ts q = true ∧ 0 < g) : ∃ o, listS ts ln cmd g acc s = (s, o) ∧ ∀ p d, s = .ok p d → o = some acc := by
  cases s with
  | bad e t => exact ⟨none, rfl, fun p d h => by cases h⟩
  | ok q d =>
    obtain ⟨h1, h2⟩ := h q d rfl
    refine ⟨some acc, ?_, fun p d _ => rfl⟩
    cases g with
    | zero => omega
    | succ g =>
      show toS ts ln d (closeR ts (Ps.listL ts cmd (g + 1) q acc)) = _
      rw [listL_end h1]
      show toS ts ln d (if _ then _ else _) = _
      rw [if_pos h1]
      rfl
theorem after_at {ts : List Lx.Tok} {ln deep : Nat} {s : St} (h : s.At deep) : (s.after ts ln).At deep := by
  cases s with
  | bad e t => trivial
  | ok b d =>
    simp only [St.after]
    split
    · exact h
    · split
      · exact h
      · trivial
theorem after_ok {ts : List Lx.Tok} {ln : Nat} {s : St} {q d : Nat} (h : s.after ts ln = .ok q d) : ∃ b, s = .ok b d ∧ b ≤ q := by
  cases s with
  | bad e t => cases h
  | ok b d' =>
    simp only [St.after] at h
    split at h
    · cases h; exact ⟨b, rfl, Nat.le_add_right _ _⟩
    · split at h
      · cases h; exact ⟨_, rfl, Nat.le_refl _⟩
      · cases h
theorem endsP_twice (ts : List Lx.Tok) : ∀ (n p : Nat), ts.length - p ≤ n → Ps.isT ts (Ps.endsP ts p) 3 [] = false
  | n, p, h => by
    cases hb : Ps.isT ts p 3 [] with
    | false => rw [endsP_here hb]; exact hb
    | true =>
      have hlt := isT_lt hb
      rw [endsP_next hb]
      cases n with
      | zero => omega
      | succ n => exact endsP_twice ts n (p + 1) (by omega)
/-- does a list's test behind a chain hit? -/
def St.hit (ts : List Lx.Tok) : St → Bool
  | .bad _ _ => false
  | .ok b _ => !(Ps.isT ts b 3 []) && !(Ps.closing ts b)
theorem ends_id {ts : List Lx.Tok} (p : Nat) : Ps.endsP ts (Ps.endsP ts p) = Ps.endsP ts p := endsP_here (endsP_twice ts _ _ (Nat.le_refl _))
theorem after_hit {ts : List Lx.Tok} {ln : Nat} {s : St} (h : s.hit ts = true) : (s.ends ts).fail ts ln 10 = s.after ts ln ∧ (s.after ts ln).ends ts = s.after ts ln := by
  cases s with
  | bad e t => cases h
  | ok b d =>
    have h' : (!(Ps.isT ts b 3 []) && !(Ps.closing ts b)) = true := h
    rw [Bool.and_eq_true, Bool.not_eq_true', Bool.not_eq_true'] at h'
    obtain ⟨h1, h2⟩ := h'
    have e : (St.ok b d).after ts ln = .bad 10 (posR ts ln b) := by simp [St.after, h1, h2]
    rw [e]
    refine ⟨?_, rfl⟩
    show St.bad 10 (posR ts ln (Ps.endsP ts b)) = _
    rw [endsP_here h1]
theorem after_no {ts : List Lx.Tok} {ln : Nat} {s : St} (h : s.hit ts = false) : (s.ends ts).ends ts = s.after ts ln := by
  cases s with
  | bad e t => rfl
  | ok b d =>
    have h' : (!(Ps.isT ts b 3 []) && !(Ps.closing ts b)) = false := h
    show St.ok (Ps.endsP ts (Ps.endsP ts b)) d = _
    rw [ends_id]
    cases h1 : Ps.isT ts b 3 [] with
    | true => simp [St.after, h1]
    | false =>
      rw [h1] at h'
      have h2 : Ps.closing ts b = true := by simpa using h'
      rw [endsP_here h1]
      simp [St.after, h1, h2]
/-- where a list stands. -/
theorem hit_cases (ts : List Lx.Tok) (s : St) : (∃ e t, s = .bad e t ∧ s.hit ts = false ∧ s.ends ts = s) ∨ (∃ b d, s = .ok b d ∧ ¬ b < ts.length ∧ s.hit ts = false ∧ s.ends ts = s) ∨ (∃ b d, s = .ok b d ∧ b < ts.length ∧ stopsP ts b = true ∧ s.hit ts = false ∧ s.ends ts = s) ∨
    (∃ b d N, s = .ok b d ∧ b < ts.length ∧ stopsP ts b = false ∧ s.endsN ts = N ∧ N ≤ ts.length ∧ s.hit ts = (N == 0)) := by
  cases s with
  | bad e t => exact .inl ⟨e, t, rfl, rfl, rfl⟩
  | ok b d =>
    by_cases hlt : b < ts.length
    · have ht : ts[b]? = some ts[b] := List.getElem?_eq_getElem hlt
      have hst : stopsP ts b = Ps.closing ts b := by unfold stopsP; rw [ht]
      cases hs : stopsP ts b with
      | true =>
        have h3 : Ps.isT ts b 3 [] = false := by
          have hs2 := hs
          rw [hst, closing_some ht] at hs2
          rw [isT_some ht]
          cases hk : (ts[b].kind == 3) with
          | false => rfl
          | true =>
            have : ts[b].kind = 3 := by simpa using hk
            rw [this] at hs2
            simp at hs2
        refine .inr (.inr (.inl ⟨b, d, rfl, hlt, hs, ?_, ?_⟩))
        · simp [St.hit, ← hst, hs]
        · simp [St.ends, endsP_here h3]
      | false =>
        refine .inr (.inr (.inr ⟨b, d, Ps.endsP ts b - b, rfl, hlt, hs, rfl, by have := (endsP_le (ts := ts) (p := b) (by omega)).2; omega, ?_⟩))
        cases h3 : Ps.isT ts b 3 [] with
        | true =>
          have e1 := endsP_next h3
          have e2 := (endsP_le (ts := ts) (p := b + 1) (by omega)).1
          have e3 : (Ps.endsP ts b - b == 0) = false := by rw [beq_eq_false_iff_ne]; omega
          rw [e3]
          simp [St.hit, h3]
        | false =>
          have e3 : (Ps.endsP ts b - b == 0) = true := by rw [endsP_here h3]; simp
          rw [e3]
          simp [St.hit, h3, ← hst, hs]
    · have h3 : Ps.isT ts b 3 [] = false := isT_none hlt _ _
      have hc : Ps.closing ts b = true := by unfold Ps.closing; rw [List.getElem?_eq_none (by omega)]
      exact .inr (.inl ⟨b, d, rfl, hlt, by simp [St.hit, hc], by simp [St.ends, endsP_here h3]⟩)
theorem head_cases (ts : List Lx.Tok) (s : St) : (∃ e t, s = .bad e t) ∨ (∃ b d, s = .ok b d ∧ ¬ b < ts.length ∧ Ps.closing ts b = true) ∨ (∃ b d, s = .ok b d ∧ b < ts.length ∧ stopsP ts b = true ∧ Ps.closing ts b = true) ∨ (∃ b d, s = .ok b d ∧ b < ts.length ∧ stopsP ts b = false ∧ Ps.closing ts b = false) := by
  cases s with
  | bad e t => exact .inl ⟨e, t, rfl⟩
  | ok b d =>
    by_cases hlt : b < ts.length
    · have ht : ts[b]? = some ts[b] := List.getElem?_eq_getElem hlt
      have hst : stopsP ts b = Ps.closing ts b := by unfold stopsP; rw [ht]
      cases hs : stopsP ts b with
      | true => exact .inr (.inr (.inl ⟨b, d, rfl, hlt, hs, hst ▸ hs⟩))
      | false => exact .inr (.inr (.inr ⟨b, d, rfl, hlt, hs, hst ▸ hs⟩))
    · exact .inr (.inl ⟨b, d, rfl, hlt, by unfold Ps.closing; rw [List.getElem?_eq_none (by omega)]⟩)
theorem list_fin {w wr w' : World} {pb : Nat} {a : Option Addr} {c : Nat} {ts : List Lx.Tok} {vs : List Value} {ln : Nat} {B : List Nat} {s : St} {m : Nat} {acc : List Ps.Node} {kv : Value} {xs : List Value} {sm : Bool} {o : Option (List Ps.Node)} {ka : Option Addr} {kn kc : Nat} (h : KR w pb a c ts vs ln B s m acc kv xs wr) (hv : kv = .slice ka kn kc) (ho : ∀ p d, s = .ok p d → o = some acc) (hm : sm = true → m ≠ 0) {F : List Nat} (hc : Chg F wr w') (hF : ∀ k ∈ F, k ∈ B) :
    SPost w pb a c ts vs ln (mapQ ts ln sm (s, o)) (.returned (.agg (nodeC 1 (.slice ka kn kc)))) w' := by
  cases s with
  | bad e t =>
    have : mapQ ts ln sm (St.bad e t, o) = (St.bad e t, none) := by cases o <;> rfl
    rw [this]
    exact h.finN hc hF 1 hv (fun n h => by cases h)
  | ok p d =>
    rw [ho p d rfl]
    have : mapQ ts ln sm (St.ok p d, some acc) = (St.ok p d, some (Ps.node 1 acc)) := by
      show (if _ then _ else _) = _
      rw [if_neg]
      rintro ⟨h1, rfl⟩
      exact hm h1 (h.nodes p d rfl).1
    rw [this]
    exact h.finN hc hF 1 hv (fun n hn => by cases hn; exact ⟨rfl, p, d, rfl⟩)
theorem list_fin0 {w wr w2 w' : World} {pb : Nat} {a : Option Addr} {c : Nat} {ts : List Lx.Tok} {vs : List Value} {ln : Nat} {B : List Nat} {s : St} {acc : List Ps.Node} {kv : Value} {xs : List Value} {o : Option (List Ps.Node)} {ka : Option Addr} {kn kc : Nat} (h : KR w pb a c ts vs ln B s 0 acc kv xs wr) (h2 : KR w pb a c ts vs ln B (s.fail ts ln 10) 0 acc kv xs w2) (hv : kv = .slice ka kn kc) (ho : ∀ p d, s = .ok p d → o = some acc) {F : List Nat} (hc : Chg F w2 w') (hF : ∀ k ∈ F, k ∈ B) :
    SPost w pb a c ts vs ln (mapQ ts ln true (s, o)) (.returned (.agg (nodeC 1 (.slice ka kn kc)))) w' := by
  have e : mapQ ts ln true (s, o) = (s.fail ts ln 10, none) := by
    cases s with
    | bad e t => cases o <;> rfl
    | ok p d =>
      rw [ho p d rfl]
      have h1 := (h.nodes p d rfl).1
      have h2 : acc = [] := List.eq_nil_of_length_eq_zero h1.symm
      subst h2
      simp [mapQ, St.fail]
  rw [e]
  exact h2.finN hc hF 1 hv (fun n h => by cases h)

set_option maxHeartbeats 4000000 in
set_option maxRecDepth 10000 in
theorem slist (pb : Nat) (a : Option Addr) (c : Nat) (ts : List Lx.Tok) (vs : List Value) (ln deep : Nat) (cmd : Nat → Ps.Res Ps.Node) (hcmd : Does 63 pb a c ts vs ln deep cmd) (hmv : Moves cmd) (em : Bool) (st : St) (w : World) (hat : st.At deep) (h : RS w pb a c ts vs ln st) :
    Calls Tryd.prog 16 #[.pointer (some ⟨pb, 0, none⟩), .bool em] w fun e w' => SPost w pb a c ts vs ln (st.step ts ln (listQ ts cmd (!em))) e w' := by
  have hfew := h.few
  have HK0 := Lib.hid (((KR.start h).own (.cells (nodeC 0 (.slice none 0 0)) 42) rfl).own (.cells (nodeC 1 (.slice none 0 0)) 42) rfl)
  have HRS0 := Lib.hid (obj_alloc_old (obj_alloc_new w (.cells (nodeC 0 (.slice none 0 0)) 42)) (.cells (nodeC 1 (.slice none 0 0)) 42))
  have HND0 := Lib.hid (obj_alloc_new (w.alloc (.cells (nodeC 0 (.slice none 0 0)) 42)) (.cells (nodeC 1 (.slice none 0 0)) 42))
  have HNB := Lib.hid (show (w.alloc (.cells (nodeC 0 (.slice none 0 0)) 42)).heap.size = w.heap.size + 1 from by simp)
  have HR := Lib.hid (listS_start (ts := ts) (ln := ln) (cmd := cmd) (!em) st)
  have HCH := Lib.hid (schain pb a c ts vs ln deep cmd hcmd hmv)
  have HMV := Lib.hid (fun (p : Nat) (n : Ps.Node) (q : Nat) (h : Ps.chainP ts cmd p = .ok n q) => chain_moves hmv h)
  have HAE := Lib.hid (show (st.ends ts).At deep from by cases st <;> exact hat)
  rw [HNB.out] at HK0 HND0
  obtain ⟨i0, hi, hz0, hz1, hz2⟩ := info_parts Tryd.infoNodeR
  clear h hcmd hmv hat
  go_enter Tryd.func16, Tryd.ntmps16
  go_wp2_with fail
  refine (sends pb a c ts vs ln st _ HK0.out.rs).mono ?_
  rintro e w1 ⟨rfl, hP1, hC1⟩
  have HK1 := Lib.hid (HK0.out.call hC1 hP1 (fun p d e => by cases st with
    | bad e t => cases e
    | ok p d => exact ⟨_, _, rfl⟩))
  have HND1 := Lib.hid (HK0.out.priv (by simp) HND0.out hC1)
  have HRS1 := Lib.hid (HK0.out.priv (by simp) HRS0.out hC1)
  clear hP1 hC1 HK0 HND0 HRS0 HNB
  generalize w.heap.size = rb at *
  go_wp2_with fail
  go_loopg [] (ts.length + 1) (fun g wr => ∃ (s : St) (m : Nat) (acc : List Ps.Node) (kv : Value) (xs : List Value), KR w pb a c ts vs ln [rb + 1, rb] s m acc kv xs wr ∧ Hid (wr.heap[rb + 1]? = some (.cells (nodeC 1 kv) 42 (0, 0))) ∧ Hid (wr.heap[rb]? = some (.cells (nodeC 0 (.slice none 0 0)) 42 (0, 0))) ∧ Hid (s.At deep) ∧ Hid (∀ q d, s = .ok q d → m ≤ q ∧ ts.length < q + g) ∧ Hid (st.step ts ln (listQ ts cmd (!em)) = mapQ ts ln (!em) (listS ts ln cmd g acc s)))
  case atStart => exact ⟨st.ends ts, 0, [], _, [], HK1.out, HND1, HRS1, HAE, Lib.hid (fun q d _ => ⟨by omega, by omega⟩), HR⟩
  case round =>
    obtain ⟨s, m, acc, kv, xs, hK, hnd, hrs, hat, hq, hr⟩ := hrel
    clear HK1 HND1 HRS1 HR HAE
    have HK := Lib.hid hK
    obtain ⟨ao, co, rfl, hao, hco⟩ := hK.row.shape
    clear hK
    rcases head_cases ts s with ⟨er, t, rfl⟩ | ⟨q, d, rfl, hlt, hcl⟩ | ⟨q, d, rfl, hlt, hst, hcl⟩ | ⟨q, d, rfl, hlt, hst, hcl⟩
    · have HR1 := Lib.hid (listS_end (ts := ts) (ln := ln) (cmd := cmd) (g := gk) (acc := acc) (s := .bad er t) (fun q' d' e => by cases e))
      obtain ⟨he, p, d, hw⟩ := HK.out.rs
      have x3 := hw.c3
      have e1 : (er == 0) = false := by rw [beq_eq_false_iff_ne]; exact he
      clear hw he
      go_wp2_with fail
      go_quiet (fail)
      all_goals
        have hC0 := (Chg.refl [] wr).drewN nq
        have HK1 := Lib.hid (HK.out.kept0 hC0)
        have HND1 := Lib.hid (hC0.obj hnd.out (by simp))
        have HRS1 := Lib.hid (hC0.obj hrs.out (by simp))
        clear hC0 hnd hrs
        generalize wr.drewN nq = w5 at *
        clear x3
        obtain ⟨ol, ho, ho2⟩ := HR1.out
        have HO := Lib.hid (hr.out.trans (congrArg (mapQ ts ln (!em)) ho))
        have hm1 : (m : Int) ≤ 100001 := by have := HK.out.few; omega
        obtain ⟨d0, d1, d2, d3, d4, d5, df⟩ := node_cells HND1.out
        obtain ⟨r0, r1, r2, r3, r4, r5, rf⟩ := node_cells HRS1.out
        have HX := Lib.hid ho2
        clear hr HR1 ho ho2 hq HK
        cases em with
        | true =>
          go_wp2_with fail
          refine bodyPost_ret (v := .agg (nodeC 1 (.slice ao m co))) (by simp [results, Tryd.results16, go_sem, nodeC, r0, r1, r2, r3, r4, r5]) rfl ?_
          rw [HO.out]
          exact list_fin HK1.out rfl HX.out (fun h => by simp at h) ((Chg.refl [rb] _).six rb (.int .i64 1) (.slice ao m co) (.string ⟨#[]⟩) (.slice none 0 0) (.slice none 0 0) (.slice none 0 0) (.inl (by simp))) (by simp)
        | false =>
          by_cases hm0 : m = 0
          · subst hm0
            have hz : (((0 : Nat) : Int) == 0) = true := rfl
            go_wp2_with fail
            refine (sfail pb a c ts vs ln _ _ 10 (by decide) HK1.out.rs).mono ?_
            rintro e w9 ⟨rfl, hP9, hC9⟩
            have HK9 := Lib.hid (HK1.out.call hC9 hP9 (fun p d e => by cases e))
            obtain ⟨d0, d1, d2, d3, d4, d5, df⟩ := node_cells (HK1.out.priv (by simp) HND1.out hC9)
            obtain ⟨r0, r1, r2, r3, r4, r5, rf⟩ := node_cells (HK1.out.priv (by simp) HRS1.out hC9)
            clear hP9 hC9
            go_wp2_with fail
            refine bodyPost_ret (v := .agg (nodeC 1 (.slice ao 0 co))) (by simp [results, Tryd.results16, go_sem, nodeC, r0, r1, r2, r3, r4, r5]) rfl ?_
            rw [HO.out]
            exact list_fin0 HK1.out HK9.out rfl HX.out ((Chg.refl [rb] _).six rb (.int .i64 1) (.slice ao 0 co) (.string ⟨#[]⟩) (.slice none 0 0) (.slice none 0 0) (.slice none 0 0) (.inl (by simp))) (by simp)
          · have hz : ((m : Int) == 0) = false := by rw [beq_eq_false_iff_ne]; omega
            have HM := Lib.hid hm0
            clear hm0
            go_wp2_with fail
            refine bodyPost_ret (v := .agg (nodeC 1 (.slice ao m co))) (by simp [results, Tryd.results16, go_sem, nodeC, r0, r1, r2, r3, r4, r5]) rfl ?_
            rw [HO.out]
            exact list_fin HK1.out rfl HX.out (fun _ => HM.out) ((Chg.refl [rb] _).six rb (.int .i64 1) (.slice ao m co) (.string ⟨#[]⟩) (.slice none 0 0) (.slice none 0 0) (.slice none 0 0) (.inl (by simp))) (by simp)
    · have HR1 := Lib.hid (listS_end (ts := ts) (ln := ln) (cmd := cmd) (g := gk) (acc := acc) (s := .ok q d) (fun q' d' e => by cases e; have := hq.out q d rfl; have := HK.out.rs.2.1; exact ⟨hcl, by omega⟩))
      have x0 := HK.out.rs.1.c0
      have x1 := HK.out.rs.1.c1
      have x3 := HK.out.rs.1.c3
      have p0 : (0 : Int) ≤ (q : Int) := by omega
      have p1 : (q : Int) ≤ 100000 := by have := HK.out.rs.2.1; omega
      have l1 : (ts.length : Int) ≤ 100000 := by omega
      have hd : decide (q < ts.length) = false := decide_eq_false hlt
      clear hlt hcl
      go_wp2_with fail
      go_quiet (fail)
      all_goals
        have hC0 := (Chg.refl [] wr).drewN nq
        have HK1 := Lib.hid (HK.out.kept0 hC0)
        have HND1 := Lib.hid (hC0.obj hnd.out (by simp))
        have HRS1 := Lib.hid (hC0.obj hrs.out (by simp))
        clear hC0 hnd hrs
        generalize wr.drewN nq = w5 at *
        clear x0 x1 x3
        obtain ⟨ol, ho, ho2⟩ := HR1.out
        have HO := Lib.hid (hr.out.trans (congrArg (mapQ ts ln (!em)) ho))
        have hm1 : (m : Int) ≤ 100001 := by have := HK.out.few; omega
        obtain ⟨d0, d1, d2, d3, d4, d5, df⟩ := node_cells HND1.out
        obtain ⟨r0, r1, r2, r3, r4, r5, rf⟩ := node_cells HRS1.out
        have HX := Lib.hid ho2
        clear hr HR1 ho ho2 hq HK
        cases em with
        | true =>
          go_wp2_with fail
          refine bodyPost_ret (v := .agg (nodeC 1 (.slice ao m co))) (by simp [results, Tryd.results16, go_sem, nodeC, r0, r1, r2, r3, r4, r5]) rfl ?_
          rw [HO.out]
          exact list_fin HK1.out rfl HX.out (fun h => by simp at h) ((Chg.refl [rb] _).six rb (.int .i64 1) (.slice ao m co) (.string ⟨#[]⟩) (.slice none 0 0) (.slice none 0 0) (.slice none 0 0) (.inl (by simp))) (by simp)
        | false =>
          by_cases hm0 : m = 0
          · subst hm0
            have hz : (((0 : Nat) : Int) == 0) = true := rfl
            go_wp2_with fail
            refine (sfail pb a c ts vs ln _ _ 10 (by decide) HK1.out.rs).mono ?_
            rintro e w9 ⟨rfl, hP9, hC9⟩
            have HK9 := Lib.hid (HK1.out.call hC9 hP9 (fun p d e => by cases e))
            obtain ⟨d0, d1, d2, d3, d4, d5, df⟩ := node_cells (HK1.out.priv (by simp) HND1.out hC9)
            obtain ⟨r0, r1, r2, r3, r4, r5, rf⟩ := node_cells (HK1.out.priv (by simp) HRS1.out hC9)
            clear hP9 hC9
            go_wp2_with fail
            refine bodyPost_ret (v := .agg (nodeC 1 (.slice ao 0 co))) (by simp [results, Tryd.results16, go_sem, nodeC, r0, r1, r2, r3, r4, r5]) rfl ?_
            rw [HO.out]
            exact list_fin0 HK1.out HK9.out rfl HX.out ((Chg.refl [rb] _).six rb (.int .i64 1) (.slice ao 0 co) (.string ⟨#[]⟩) (.slice none 0 0) (.slice none 0 0) (.slice none 0 0) (.inl (by simp))) (by simp)
          · have hz : ((m : Int) == 0) = false := by rw [beq_eq_false_iff_ne]; omega
            have HM := Lib.hid hm0
            clear hm0
            go_wp2_with fail
            refine bodyPost_ret (v := .agg (nodeC 1 (.slice ao m co))) (by simp [results, Tryd.results16, go_sem, nodeC, r0, r1, r2, r3, r4, r5]) rfl ?_
            rw [HO.out]
            exact list_fin HK1.out rfl HX.out (fun _ => HM.out) ((Chg.refl [rb] _).six rb (.int .i64 1) (.slice ao m co) (.string ⟨#[]⟩) (.slice none 0 0) (.slice none 0 0) (.slice none 0 0) (.inl (by simp))) (by simp)
    · have HR1 := Lib.hid (listS_end (ts := ts) (ln := ln) (cmd := cmd) (g := gk) (acc := acc) (s := .ok q d) (fun q' d' e => by cases e; have := hq.out q d rfl; have := HK.out.rs.2.1; exact ⟨hcl, by omega⟩))
      have x0 := HK.out.rs.1.c0
      have x1 := HK.out.rs.1.c1
      have x3 := HK.out.rs.1.c3
      have p0 : (0 : Int) ≤ (q : Int) := by omega
      have p1 : (q : Int) ≤ 100000 := by have := HK.out.rs.2.1; omega
      have l1 : (ts.length : Int) ≤ 100000 := by omega
      have hd : decide (q < ts.length) = true := decide_eq_true hlt
      have HST := Lib.hid (fun W (h : RS W pb a c ts vs ln (.ok q d)) => sstops pb a c ts vs ln (.ok q d) W h)
      rw [show St.stops ts (.ok q d) = true from hst] at HST
      clear hlt hcl hst
      go_upto_region 3 with (fail)
      go_still_tail 19, (by kernel_rfl)
      change wpList _ _ _ _ _ wr.drew
      have hC0 := (Chg.refl [] wr).drew
      have HKd := Lib.hid (HK.out.kept0 hC0)
      have HNd := Lib.hid (hC0.obj hnd.out (by simp))
      have HRd := Lib.hid (hC0.obj hrs.out (by simp))
      clear hC0 x0 x1 x3 hnd hrs
      generalize wr.drew = wd at *
      go_wp2_with fail
      refine (HST.out _ HKd.out.rs).mono ?_
      rintro e w5 ⟨rfl, hC5⟩
      have HK1 := Lib.hid (HKd.out.kept0 hC5)
      have HND1 := Lib.hid (hC5.obj HNd.out (by simp))
      have HRS1 := Lib.hid (hC5.obj HRd.out (by simp))
      clear hC5 HKd HNd HRd HST
      obtain ⟨ol, ho, ho2⟩ := HR1.out
      have HO := Lib.hid (hr.out.trans (congrArg (mapQ ts ln (!em)) ho))
      have hm1 : (m : Int) ≤ 100001 := by have := HK.out.few; omega
      obtain ⟨d0, d1, d2, d3, d4, d5, df⟩ := node_cells HND1.out
      obtain ⟨r0, r1, r2, r3, r4, r5, rf⟩ := node_cells HRS1.out
      have HX := Lib.hid ho2
      clear hr HR1 ho ho2 hq HK
      cases em with
      | true =>
        go_wp2_with fail
        refine bodyPost_ret (v := .agg (nodeC 1 (.slice ao m co))) (by simp [results, Tryd.results16, go_sem, nodeC, r0, r1, r2, r3, r4, r5]) rfl ?_
        rw [HO.out]
        exact list_fin HK1.out rfl HX.out (fun h => by simp at h) ((Chg.refl [rb] _).six rb (.int .i64 1) (.slice ao m co) (.string ⟨#[]⟩) (.slice none 0 0) (.slice none 0 0) (.slice none 0 0) (.inl (by simp))) (by simp)
      | false =>
        by_cases hm0 : m = 0
        · subst hm0
          have hz : (((0 : Nat) : Int) == 0) = true := rfl
          go_wp2_with fail
          refine (sfail pb a c ts vs ln _ _ 10 (by decide) HK1.out.rs).mono ?_
          rintro e w9 ⟨rfl, hP9, hC9⟩
          have HK9 := Lib.hid (HK1.out.call hC9 hP9 (fun p d e => by cases e))
          obtain ⟨d0, d1, d2, d3, d4, d5, df⟩ := node_cells (HK1.out.priv (by simp) HND1.out hC9)
          obtain ⟨r0, r1, r2, r3, r4, r5, rf⟩ := node_cells (HK1.out.priv (by simp) HRS1.out hC9)
          clear hP9 hC9
          go_wp2_with fail
          refine bodyPost_ret (v := .agg (nodeC 1 (.slice ao 0 co))) (by simp [results, Tryd.results16, go_sem, nodeC, r0, r1, r2, r3, r4, r5]) rfl ?_
          rw [HO.out]
          exact list_fin0 HK1.out HK9.out rfl HX.out ((Chg.refl [rb] _).six rb (.int .i64 1) (.slice ao 0 co) (.string ⟨#[]⟩) (.slice none 0 0) (.slice none 0 0) (.slice none 0 0) (.inl (by simp))) (by simp)
        · have hz : ((m : Int) == 0) = false := by rw [beq_eq_false_iff_ne]; omega
          have HM := Lib.hid hm0
          clear hm0
          go_wp2_with fail
          refine bodyPost_ret (v := .agg (nodeC 1 (.slice ao m co))) (by simp [results, Tryd.results16, go_sem, nodeC, r0, r1, r2, r3, r4, r5]) rfl ?_
          rw [HO.out]
          exact list_fin HK1.out rfl HX.out (fun _ => HM.out) ((Chg.refl [rb] _).six rb (.int .i64 1) (.slice ao m co) (.string ⟨#[]⟩) (.slice none 0 0) (.slice none 0 0) (.slice none 0 0) (.inl (by simp))) (by simp)
    · obtain rfl : d = deep := hat.out
      have hq2 := hq.out q d rfl
      cases gk with
      | zero => omega
      | succ g =>
      have HR1 := Lib.hid (hr.out.trans (congrArg (mapQ ts ln (!em)) (listS_more hcl)))
      obtain ⟨S, hS⟩ : ∃ S, (St.ok q d).step ts ln (Ps.chainP ts cmd) = S := ⟨_, rfl⟩
      rw [hS] at HR1
      have HSS := Lib.hid hS
      have HG := Lib.hid (show ∀ p d', S.1 = .ok p d' → (∃ p' d'', St.ok q d = .ok p' d'') ∧ ∃ n, S.2 = some n from fun p d h => HSS.out ▸ step_g (HSS.out.symm ▸ h))
      have HF := Lib.hid (show ∀ q' d', S.1.after ts ln = .ok q' d' → m + 1 ≤ q' ∧ ts.length < q' + g from fun q' d' h => by
        obtain ⟨b, h1, h2⟩ := after_ok h
        obtain ⟨q0, n, h3, h4, _⟩ := step_ok (HSS.out.symm ▸ h1)
        cases h3
        have := HMV.out _ _ _ h4
        omega)
      have HAF := Lib.hid (show (S.1.after ts ln).At d from after_at (HSS.out ▸ step_at (ts := ts) (ln := ln) (f := Ps.chainP ts cmd) (st := .ok q d) (deep := d) rfl))
      have HCH2 := Lib.hid (fun W (h : RS W pb a c ts vs ln (.ok q d)) => HCH.out (.ok q d) W rfl h)
      rw [hS] at HCH2
      have nb1 : (m : Int) ≤ 100000 := by omega
      have nb2 : m + 1 ≤ 100001 := by omega
      have x0 := HK.out.rs.1.c0
      have x1 := HK.out.rs.1.c1
      have x3 := HK.out.rs.1.c3
      have p0 : (0 : Int) ≤ (q : Int) := by omega
      have p1 : (q : Int) ≤ 100000 := by have := HK.out.rs.2.1; omega
      have l1 : (ts.length : Int) ≤ 100000 := by omega
      have hd : decide (q < ts.length) = true := decide_eq_true hlt
      have HST := Lib.hid (fun W (h : RS W pb a c ts vs ln (.ok q d)) => sstops pb a c ts vs ln (.ok q d) W h)
      rw [show St.stops ts (.ok q d) = false from hst] at HST
      clear hlt hcl hst hr hq hq2 hS
      go_upto_region 3 with (fail)
      go_cut [30] from 9 to 68 (fun v30 wx => v30 = .bool true ∧ KR w pb a c ts vs ln [rb + 1, rb] (.ok q d) m acc (.slice ao m co) xs wx ∧ Hid (wx.heap[rb + 1]? = some (.cells (nodeC 1 (.slice ao m co)) 42 (0, 0))) ∧ Hid (wx.heap[rb]? = some (.cells (nodeC 0 (.slice none 0 0)) 42 (0, 0))))
      case first =>
        go_still_tail 19, (by kernel_rfl)
        change wpList _ _ _ _ _ wr.drew
        have hC0 := (Chg.refl [] wr).drew
        have HKd := Lib.hid (HK.out.kept0 hC0)
        have HNd := Lib.hid (hC0.obj hnd.out (by simp))
        have HRd := Lib.hid (hC0.obj hrs.out (by simp))
        clear hC0 x0 x1 x3 HK hnd hrs
        generalize wr.drew = wd at *
        go_wp2_with fail
        refine (HST.out _ HKd.out.rs).mono ?_
        rintro e w5 ⟨rfl, hC5⟩
        go_wp2
        go_meet
        exact ⟨rfl, HKd.out.kept0 hC5, Lib.hid (hC5.obj HNd.out (by simp)), Lib.hid (hC5.obj HRd.out (by simp))⟩
      case rest =>
        obtain ⟨rfl, hK1, HND1, HRS1⟩ := hcut
        clear x0 x1 x3 hd HK hnd hrs HST
        have HK1 := Lib.hid hK1
        have d1 := (node_cells HND1.out).2.1
        have HNE := Lib.hid (show rb + 1 ∉ [pb] from by have := (HK1.out.b_ne (b := rb + 1) (by simp)).1; simpa using this)
        have HNR := Lib.hid (show rb + 1 ∉ rowBlock (.slice ao m co) from fun hj => (HK1.out.new _ hj).2 (by simp))
        have HNR2 := Lib.hid (show rb ∉ rowBlock (.slice ao m co) from fun hj => (HK1.out.new _ hj).2 (by simp))
        clear hK1
        go_upto_region 4 with (fail)
        go_cut [] from 9 to 68 (fun wx => ∃ (kv' : Value) (xs' : List Value), KR w pb a c ts vs ln [rb + 1, rb] S.1 (m + 1) (acc ++ S.2.toList) kv' xs' wx ∧ Hid (wx.heap[rb + 1]? = some (.cells (nodeC 1 kv') 42 (0, 0))) ∧ Hid (wx.heap[rb]? = some (.cells (nodeC 0 (.slice none 0 0)) 42 (0, 0))))
        case first =>
          go_region_law ((first | (refine step_append_row (by rfl) _ _ 37 (by rfl) 42 i0 _ 6 120 Tryd.underlying37 hi hz0 hz1 hz2 (by rfl) (by decide) _ m xs (by rfl) (HROW.out.alloc _) _ 1 1 [.int .i64 k3, .slice ka3 kn3 kc3, .string (Lx.strB s3), .slice wa3 wn3 wc3, .slice sa3 sn3 sc3, .slice ra3 rn3 rc3] (by rfl) (by rfl) (srcNew _ _ _ _) HONE.out (by unfold maxLen; omega) (by omega) ?_; intro v' w8 r8 q8 g8; obtain ⟨av, cap, rfl, hav, hcap⟩ := r8.shape; have o8 := q8.obj (obj_alloc_old HND7.out _) HNR.out; have f8 := free_of_obj o8 1; have c8 := cell_of_obj o8 (j := 1) rfl) | (go_simp; refine (HCH2.out _ HK1.out.rs.drew).mono ?_; rintro e w7 ⟨cs7, ⟨k3, s3, ka3, wa3, sa3, ra3, kn3, kc3, wn3, wc3, sn3, sc3, rn3, rc3, rfl⟩, rfl, hC7, hP7, hN7⟩; have u1 := hC7.cell d1 HNE.out; have u1a := fun (o : Obj) => ((Chg.refl [] w7).alloc o).cell u1 (by simp); have HND7 := Lib.hid (HK1.out.priv (by simp) HND1.out hC7.drew0); have HRS7 := Lib.hid (HK1.out.priv (by simp) HRS1.out hC7.drew0); have HROW := Lib.hid (HK1.out.call hC7.drew0 hP7 (fun p d h => (HG.out p d h).1)).row; have HONE := Lib.hid (Six.one ⟨k3, s3, ka3, wa3, sa3, ra3, kn3, kc3, wn3, wc3, sn3, sc3, rn3, rc3, rfl⟩).2; have HC7 := Lib.hid hC7.drew0; have HP7 := Lib.hid hP7; have HN7 := Lib.hid hN7; clear hC7 hP7 hN7)))
          all_goals
            have hK8 := HK1.out.add (w2 := w7.alloc (.cells #[.int .i64 k3, .slice ka3 kn3 kc3, .string (Lx.strB s3), .slice wa3 wn3 wc3, .slice sa3 sn3 sc3, .slice ra3 rn3 rc3] 42)) (w3 := w8) HC7.out ⟨k3, s3, ka3, wa3, sa3, ra3, kn3, kc3, wn3, wc3, sn3, sc3, rn3, rc3, rfl⟩ HP7.out HG.out HN7.out (F := []) (by simp) ((Chg.refl _ _).alloc _) r8 q8 (fun x hx => (g8 x hx).imp id (fun h => by have h9 : w7.heap.size + 1 ≤ x := (by simpa using h); omega)) nb2
            have hC8 : Chg [rb + 1] w8 (w8.setCell ⟨rb + 1, 1, none⟩ (.slice av (m + 1) cap)) := (Chg.refl _ _).setCell _ _ (.inl (by simp))
            have HK2 := Lib.hid (hK8.kept hC8 (by simp))
            have HND2 := Lib.hid (obj_setCell o8 1 (.slice av (m + 1) cap))
            have HRS2 := Lib.hid (hC8.obj (q8.obj (obj_alloc_old HRS7.out _) HNR2.out) (by simp))
            clear hK8 hC8 o8 f8 c8 r8 q8 g8 u1 u1a HND7 HRS7 HROW HONE HC7 HP7 HN7 d1 HK1 HND1 HRS1 HCH2
            go_wp2
            go_meet
            exact ⟨_, _, HK2.out, HND2, HRS2⟩
        case rest =>
          obtain ⟨kv', xs', hK2, HND2, HRS2⟩ := hcut
          have HK2 := Lib.hid hK2
          clear hK2 d1 HK1 HND1 HRS1 HCH2 HNE HNR HNR2
          have HEN := Lib.hid (fun W (h : RS W pb a c ts vs ln S.1) => sends pb a c ts vs ln S.1 W h)
          have HAH := Lib.hid (fun h => after_hit (ts := ts) (ln := ln) (s := S.1) h)
          have HAN := Lib.hid (fun h => after_no (ts := ts) (ln := ln) (s := S.1) h)
          generalize S.1 = s1 at *
          rename World => w9
          go_upto_region 5 with (fail)
          go_cut [64] from 9 to 68 (fun v64 wx => v64 = .bool (s1.hit ts) ∧ KR w pb a c ts vs ln [rb + 1, rb] (s1.ends ts) (m + 1) (acc ++ S.2.toList) kv' xs' wx ∧ Hid (wx.heap[rb + 1]? = some (.cells (nodeC 1 kv') 42 (0, 0))) ∧ Hid (wx.heap[rb]? = some (.cells (nodeC 0 (.slice none 0 0)) 42 (0, 0))))
          case first =>
            have HE2 := Lib.hid (HK2.out.rs)
            rcases hit_cases ts s1 with ⟨e5, t5, rfl, hh, he5⟩ | ⟨b, d5, rfl, hlt, hh, he5⟩ | ⟨b, d5, rfl, hlt, hst, hh, he5⟩ | ⟨b, d5, N, rfl, hlt, hst, hN, hN2, hh⟩
            · have HH := Lib.hid hh
              have HE5 := Lib.hid he5
              obtain ⟨he, p, d6, hw⟩ := HK2.out.rs
              have x3 := hw.c3
              have e1 : (e5 == 0) = false := by rw [beq_eq_false_iff_ne]; exact he
              clear hw he hh he5 HEN HAH HAN HR1 HF HAF
              go_quiet (fail)
              all_goals
                go_wp2
                go_meet
                have hC0 := (Chg.refl [] w9).drewN nq
                rw [HH.out, HE5.out]
                exact ⟨rfl, HK2.out.kept0 hC0, Lib.hid (hC0.obj HND2.out (by simp)), Lib.hid (hC0.obj HRS2.out (by simp))⟩
            · have HH := Lib.hid hh
              have HE5 := Lib.hid he5
              have x0 := HK2.out.rs.1.c0
              have x1 := HK2.out.rs.1.c1
              have x3 := HK2.out.rs.1.c3
              have p0 : (0 : Int) ≤ (b : Int) := by omega
              have p1 : (b : Int) ≤ 100000 := by have := HK2.out.rs.2.1; omega
              have l1 : (ts.length : Int) ≤ 100000 := by omega
              have hd : decide (b < ts.length) = false := decide_eq_false hlt
              clear hh he5 hlt HEN HAH HAN HR1 HF HAF
              go_quiet (fail)
              all_goals
                go_wp2
                go_meet
                have hC0 := (Chg.refl [] w9).drewN nq
                rw [HH.out, HE5.out]
                exact ⟨rfl, HK2.out.kept0 hC0, Lib.hid (hC0.obj HND2.out (by simp)), Lib.hid (hC0.obj HRS2.out (by simp))⟩
            · have HH := Lib.hid hh
              have HE5 := Lib.hid he5
              have x0 := HK2.out.rs.1.c0
              have x1 := HK2.out.rs.1.c1
              have x3 := HK2.out.rs.1.c3
              have p0 : (0 : Int) ≤ (b : Int) := by omega
              have p1 : (b : Int) ≤ 100000 := by have := HK2.out.rs.2.1; omega
              have l1 : (ts.length : Int) ≤ 100000 := by omega
              have hd : decide (b < ts.length) = true := decide_eq_true hlt
              have HST := Lib.hid (fun W (h : RS W pb a c ts vs ln (.ok b d5)) => sstops pb a c ts vs ln (.ok b d5) W h)
              rw [show St.stops ts (.ok b d5) = true from hst] at HST
              clear hh he5 hlt hst HEN HAH HAN HR1 HF HAF
              go_still_tail 19, (by kernel_rfl)
              change wpList _ _ _ _ _ w9.drew
              have hC0 := (Chg.refl [] w9).drew
              have HKd := Lib.hid (HK2.out.kept0 hC0)
              have HNd := Lib.hid (hC0.obj HND2.out (by simp))
              have HRd := Lib.hid (hC0.obj HRS2.out (by simp))
              clear hC0 x0 x1 x3 HK2 HND2 HRS2
              generalize w9.drew = wd at *
              go_wp2_with fail
              refine (HST.out _ HKd.out.rs).mono ?_
              rintro e w10 ⟨rfl, hC5⟩
              go_wp2
              go_meet
              rw [HH.out, HE5.out]
              exact ⟨rfl, HKd.out.kept0 hC5, Lib.hid (hC5.obj HNd.out (by simp)), Lib.hid (hC5.obj HRd.out (by simp))⟩
            · rw [hN] at HEN
              have x0 := HK2.out.rs.1.c0
              have x1 := HK2.out.rs.1.c1
              have x3 := HK2.out.rs.1.c3
              have p0 : (0 : Int) ≤ (b : Int) := by omega
              have p1 : (b : Int) ≤ 100000 := by have := HK2.out.rs.2.1; omega
              have l1 : (ts.length : Int) ≤ 100000 := by omega
              have hd : decide (b < ts.length) = true := decide_eq_true hlt
              have HST := Lib.hid (fun W (h : RS W pb a c ts vs ln (.ok b d5)) => sstops pb a c ts vs ln (.ok b d5) W h)
              rw [show St.stops ts (.ok b d5) = false from hst] at HST
              have HGG := Lib.hid (show ∀ p d, (St.ok b d5).ends ts = .ok p d → ∃ p' d', St.ok b d5 = .ok p' d' from fun p d _ => ⟨_, _, rfl⟩)
              obtain ⟨bo, hbo⟩ : ∃ bo, (N == 0) = bo := ⟨_, rfl⟩
              have hz : ((N : Int) == 0) = bo := by rw [← hbo]; cases N with | zero => rfl | succ n => simp; omega
              have HH := Lib.hid (hh.trans hbo)
              clear hh hlt hst HAH HAN HR1 HF HAF hN hN2 hbo
              go_still_tail 19, (by kernel_rfl)
              change wpList _ _ _ _ _ w9.drew
              have hC0 := (Chg.refl [] w9).drew
              have HKd := Lib.hid (HK2.out.kept0 hC0)
              have HNd := Lib.hid (hC0.obj HND2.out (by simp))
              have HRd := Lib.hid (hC0.obj HRS2.out (by simp))
              clear hC0 x0 x1 x3 HK2 HND2 HRS2
              generalize w9.drew = wd at *
              go_wp2_with fail
              refine (HST.out _ HKd.out.rs).mono ?_
              rintro e w10 ⟨rfl, hC5⟩
              have hK3 := HKd.out.kept0 hC5
              have HK3 := Lib.hid hK3
              have HND3 := Lib.hid (hC5.obj HNd.out (by simp))
              have HRS3 := Lib.hid (hC5.obj HRd.out (by simp))
              clear hC5 hK3 HKd HNd HRd HST
              go_wp2_with fail
              refine (HEN.out _ HK3.out.rs).mono ?_
              rintro e w11 ⟨rfl, hP6, hC6⟩
              go_wp2
              go_meet
              rw [HH.out]
              exact ⟨rfl, HK3.out.call hC6 hP6 HGG.out, Lib.hid (HK3.out.priv (by simp) HND3.out hC6), Lib.hid (HK3.out.priv (by simp) HRS3.out hC6)⟩
          case rest =>
            obtain ⟨rfl, hK3, HND3, HRS3⟩ := hcut
            have HK3 := Lib.hid hK3
            clear hK3 HK2 HND2 HRS2 HEN
            cases hb : s1.hit ts with
            | true =>
              have HA := Lib.hid (HAH.out hb)
              clear HAH HAN hb
              go_wp2_with fail
              refine (sfail pb a c ts vs ln _ _ 10 (by decide) HK3.out.rs).mono ?_
              rintro e w10 ⟨rfl, hP10, hC10⟩
              rw [HA.out.1] at hP10
              have HK4 := Lib.hid (HK3.out.call hC10 hP10 (fun p d e => by obtain ⟨b, h1, _⟩ := after_ok e; rw [h1]; exact ⟨_, _, rfl⟩))
              have HND4 := Lib.hid (HK3.out.priv (by simp) HND3.out hC10)
              have HRS4 := Lib.hid (HK3.out.priv (by simp) HRS3.out hC10)
              clear hP10 hC10 HK3 HND3 HRS3
              go_wp2_with fail
              refine (sends pb a c ts vs ln _ _ HK4.out.rs).mono ?_
              rintro e w11 ⟨rfl, hP11, hC11⟩
              rw [HA.out.2] at hP11
              have HK5 := Lib.hid (HK4.out.call hC11 hP11 (fun p d e => ⟨_, _, e⟩))
              have HND5 := Lib.hid (HK4.out.priv (by simp) HND4.out hC11)
              have HRS5 := Lib.hid (HK4.out.priv (by simp) HRS4.out hC11)
              clear hP11 hC11 HK4 HND4 HRS4
              go_wp2
              go_roundg g
              case measure => omega
              case rel => exact ⟨s1.after ts ln, m + 1, _, _, _, HK5.out, HND5, HRS5, HAF, HF, HR1⟩
            | false =>
              have HA := Lib.hid (HAN.out hb)
              clear HAH HAN hb
              go_wp2_with fail
              refine (sends pb a c ts vs ln _ _ HK3.out.rs).mono ?_
              rintro e w11 ⟨rfl, hP11, hC11⟩
              rw [HA.out] at hP11
              have HK5 := Lib.hid (HK3.out.call hC11 hP11 (fun p d e => by obtain ⟨b, h1, _⟩ := after_ok e; rw [h1]; exact ⟨_, _, rfl⟩))
              have HND5 := Lib.hid (HK3.out.priv (by simp) HND3.out hC11)
              have HRS5 := Lib.hid (HK3.out.priv (by simp) HRS3.out hC11)
              clear hP11 hC11 HK3 HND3 HRS3
              go_wp2
              go_roundg g
              case measure => omega
              case rel => exact ⟨s1.after ts ln, m + 1, _, _, _, HK5.out, HND5, HRS5, HAF, HF, HR1⟩

end Go.Proofs.YtfgbbmnmblchiaaDoor
