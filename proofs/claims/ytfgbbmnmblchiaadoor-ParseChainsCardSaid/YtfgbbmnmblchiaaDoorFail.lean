/-
  What is wrong; what must be; ends; where a list ends: walked.
-/
import Derived.Test.YtfgbbmnmblchiaaDoorPar
import Derived.Test.YtfgbbmnmblchiaaDoorShelf
namespace Go.Proofs.YtfgbbmnmblchiaaDoor
open Go.RowKit
set_option linter.unusedVariables false

theorem isT_lt {ts : List Lx.Tok} {p : Nat} {k : Int} {x : List UInt8} (h : Ps.isT ts p k x = true) : p < ts.length := by
  apply Decidable.byContradiction
  intro hn
  rw [isT_none hn] at h
  cases h

section
variable {w w' : World} {pb : Nat} {a : Option Addr} {c : Nat} {ts : List Lx.Tok} {vs : List Value} {p deep : Nat} {er : Int}
theorem PS.drewN (h : PS w pb a c ts vs p deep er) (n : Nat) : PS (w.drewN n) pb a c ts vs p deep er := h.chg0 ((Chg.refl [] w).drewN n)
theorem Chg.setP (w : World) (pb j : Nat) (v : Value) : Chg [pb] w (w.setCell ⟨pb, j, none⟩ v) := (Chg.refl [pb] w).setCell _ _ (.inl (by simp))
end

set_option maxHeartbeats 4000000 in
set_option maxRecDepth 10000 in
theorem fail_any (pb : Nat) (a : Option Addr) (c : Nat) (ts : List Lx.Tok) (vs : List Value) (p deep : Nat) (k : Int) (w : World) (h : PS w pb a c ts vs p deep 0) :
    Calls Tryd.prog 14 #[.pointer (some ⟨pb, 0, none⟩), .int .i64 k] w fun e w' => e = .returned (.bool false) ∧ PS w' pb a c ts vs p deep k ∧ Chg [pb] w w' := by
  have x3 := h.c3
  have f3 := h.free 3
  have HP := Lib.hid h
  clear h
  go_enter Tryd.func14, Tryd.ntmps14
  go_wp2_with fail
  go_ret
  exact ⟨rfl, HP.out.setE k, Chg.setP _ _ _ _⟩

/-- what must be. -/
def WantPost (w : World) (pb : Nat) (a : Option Addr) (c : Nat) (ts : List Lx.Tok) (vs : List Value) (deep : Nat) (r : Ps.Res Unit) (e : Ending) (w' : World) : Prop :=
  match r with
  | .bad er q => e = .returned (.bool false) ∧ PS w' pb a c ts vs q deep er ∧ Chg [pb] w w'
  | .ok _ q => e = .returned (.bool true) ∧ PS w' pb a c ts vs q deep 0 ∧ Chg [pb] w w'

set_option maxHeartbeats 4000000 in
set_option maxRecDepth 10000 in
theorem want_any (pb : Nat) (a : Option Addr) (c : Nat) (ts : List Lx.Tok) (vs : List Value) (p deep : Nat) (kind : Int) (x : List UInt8) (w : World) (h : PS w pb a c ts vs p deep 0) :
    Calls Tryd.prog 88 #[.pointer (some ⟨pb, 0, none⟩), .int .i64 kind, .string (Lx.strB x)] w fun e w' => WantPost w pb a c ts vs deep (Ps.wantP ts p kind x) e w' := by
  have HP := Lib.hid h
  have H1 := Lib.hid (is_any pb a c ts vs p deep 0 kind x w h)
  have hfew := h.few
  clear h
  cases hb : Ps.isT ts p kind x with
  | true =>
    have hlt := isT_lt hb
    have hr := Lib.hid (show Ps.wantP ts p kind x = .ok () (p + 1) from by unfold Ps.wantP; rw [if_pos hb])
    rw [hb] at H1
    clear hb
    go_enter Tryd.func88, Tryd.ntmps88
    go_wp2_with fail
    refine H1.out.mono ?_
    rintro e w1 ⟨rfl, n1, rfl⟩
    have HP1 := Lib.hid (HP.out.drewN n1)
    have x1 := HP1.out.c1
    have f1 := HP1.out.free 1
    go_wp2
    go_ret
    rw [hr.out]
    exact ⟨rfl, HP1.out.setAt (p + 1) _ (by go_num) (by omega), ((Chg.refl _ _).drewN n1).trans (Chg.setP _ _ _ _) (fun k hk => .inl hk)⟩
  | false =>
    have hr := Lib.hid (show Ps.wantP ts p kind x = .bad 10 p from by unfold Ps.wantP; rw [if_neg (by rw [hb]; decide)])
    rw [hb] at H1
    clear hb
    go_enter Tryd.func88, Tryd.ntmps88
    go_wp2_with fail
    refine H1.out.mono ?_
    rintro e w1 ⟨rfl, n1, rfl⟩
    have HP1 := Lib.hid (HP.out.drewN n1)
    go_wp2_with fail
    refine (fail_any pb a c ts vs p deep 10 _ HP1.out).mono ?_
    rintro e w2 ⟨rfl, P2, C2⟩
    go_wp2
    go_ret
    rw [hr.out]
    exact ⟨rfl, P2, ((Chg.refl _ _).drewN n1).trans C2 (fun k hk => .inl hk)⟩

theorem endsP_here {ts : List Lx.Tok} {p : Nat} (h : Ps.isT ts p 3 [] = false) : Ps.endsP ts p = p := by
  unfold Ps.endsP
  cases hd : ts.drop p with
  | nil => simp
  | cons t r =>
    have ht : ts[p]? = some t := by
      have := congrArg List.head? hd
      simpa [List.head?_drop] using this
    rw [isT_some ht] at h
    have h3 : (t.kind == 3) = false := by simpa using h
    rw [List.takeWhile_cons_of_neg (by rw [h3]; decide)]
    rfl
theorem endsP_next {ts : List Lx.Tok} {p : Nat} (h : Ps.isT ts p 3 [] = true) : Ps.endsP ts p = Ps.endsP ts (p + 1) := by
  have hlt := isT_lt h
  unfold Ps.endsP
  rw [List.drop_eq_getElem_cons hlt]
  rw [isT_some (List.getElem?_eq_getElem hlt)] at h
  have h3 : (ts[p].kind == 3) = true := by simpa using h
  have h4 : List.takeWhile (fun t : Lx.Tok => t.kind == 3) (ts[p] :: List.drop (p + 1) ts) = ts[p] :: List.takeWhile (fun t : Lx.Tok => t.kind == 3) (List.drop (p + 1) ts) := List.takeWhile_cons_of_pos h3
  rw [h4, List.length_cons]
  omega
theorem endsP_le {ts : List Lx.Tok} {p : Nat} (h : p ≤ ts.length) : p ≤ Ps.endsP ts p ∧ Ps.endsP ts p ≤ ts.length := by
  unfold Ps.endsP
  have := (List.takeWhile_prefix (fun t : Lx.Tok => t.kind == 3) (l := ts.drop p)).length_le
  rw [List.length_drop] at this
  omega

set_option maxHeartbeats 4000000 in
set_option maxRecDepth 10000 in
theorem ends_any (pb : Nat) (a : Option Addr) (c : Nat) (ts : List Lx.Tok) (vs : List Value) (p deep : Nat) (w : World) (h : PS w pb a c ts vs p deep 0) :
    Calls Tryd.prog 26 #[.pointer (some ⟨pb, 0, none⟩)] w fun e w' => e = .returned (.tuple #[]) ∧ PS w' pb a c ts vs (Ps.endsP ts p) deep 0 ∧ Chg [pb] w w' := by
  have hfew := h.few
  have HP := Lib.hid h
  clear h
  go_enter Tryd.func26, Tryd.ntmps26
  go_wp2_with fail
  go_loopg [] (ts.length + 1) (fun g wr => ∃ q : Nat, ts.length < q + g ∧ PS wr pb a c ts vs q deep 0 ∧ Hid (Ps.endsP ts q = Ps.endsP ts p) ∧ Chg [pb] w wr)
  case atStart => exact ⟨p, by omega, HP.out, Lib.hid rfl, Chg.refl _ _⟩
  case round =>
    obtain ⟨q, hg, hP, hE, hC⟩ := hrel
    have hle := hP.le
    have HQ := Lib.hid hP
    have HC := Lib.hid hC
    have H1 := Lib.hid (is_any pb a c ts vs q deep 0 3 [] wr hP)
    clear hP hC HP
    cases hb : Ps.isT ts q 3 [] with
    | true =>
      have hlt := isT_lt hb
      have hr := Lib.hid (hE.out.symm.trans (endsP_next hb))
      rw [hb] at H1
      clear hb hE
      cases gk with
      | zero => omega
      | succ g =>
        have HG := Lib.hid hg
        clear hg
        go_wp2_with fail
        refine H1.out.mono ?_
        rintro e w1 ⟨rfl, n1, rfl⟩
        have HP1 := Lib.hid (HQ.out.drewN n1)
        have x1 := HP1.out.c1
        have f1 := HP1.out.free 1
        go_wp2
        go_roundg g
        case measure => omega
        case rel => exact ⟨q + 1, by have := HG.out; omega, HP1.out.setAt (q + 1) _ (by go_num) (by omega), Lib.hid hr.out.symm, (HC.out.drewN n1).trans (Chg.setP _ _ _ _) (fun k hk => .inl hk)⟩
    | false =>
      have hr := Lib.hid (hE.out.symm.trans (endsP_here hb))
      rw [hb] at H1
      clear hb hE hg
      go_wp2_with fail
      refine H1.out.mono ?_
      rintro e w1 ⟨rfl, n1, rfl⟩
      have HP1 := Lib.hid (HQ.out.drewN n1)
      go_wp2
      refine bodyPost_end (results_none rfl _ _ _) rfl ?_
      rw [hr.out]
      exact ⟨rfl, HP1.out, HC.out.drewN n1⟩

theorem closing_none {ts : List Lx.Tok} {p : Nat} (h : ¬ p < ts.length) : Ps.closing ts p = true := by
  unfold Ps.closing
  rw [List.getElem?_eq_none (by omega)]
theorem closing_some {ts : List Lx.Tok} {p : Nat} {t : Lx.Tok} (h : ts[p]? = some t) : Ps.closing ts p = ((t.kind == 2 && t.text == [41]) || (t.kind == 1 && Ps.closers.contains t.text)) := by
  unfold Ps.closing
  rw [h]

def closersB : List ByteArray := [⟨#[116, 104, 101, 110]⟩, ⟨#[101, 108, 115, 101]⟩, ⟨#[102, 105]⟩, ⟨#[100, 111]⟩, ⟨#[100, 111, 110, 101]⟩]

theorem closers_has (l : List UInt8) : Lib.containsS (closersB.take 5) (Lx.strB l) = Ps.closers.contains l := by
  rw [Bool.eq_iff_iff, Lib.containsS_iff, List.contains_iff_mem]
  have hinj : ∀ x y : List UInt8, Lx.strB x = Lx.strB y ↔ x = y := fun x y => ⟨fun h => by rw [← Lx.strB_toList x, h, Lx.strB_toList], fun h => by rw [h]⟩
  show Lx.strB l ∈ [Lx.strB Ps.kwThen, Lx.strB Ps.kwElse, Lx.strB Ps.kwFi, Lx.strB Ps.kwDo, Lx.strB Ps.kwDone] ↔ l ∈ [Ps.kwThen, Ps.kwElse, Ps.kwFi, Ps.kwDo, Ps.kwDone]
  simp only [List.mem_cons, List.not_mem_nil, or_false, hinj]

def closersA : Array Value := #[.string ⟨#[116, 104, 101, 110]⟩, .string ⟨#[101, 108, 115, 101]⟩, .string ⟨#[102, 105]⟩, .string ⟨#[100, 111]⟩, .string ⟨#[100, 111, 110, 101]⟩]
theorem closer_cells (w : World) (E : TypeId) : ∀ j, j < closersB.length → (w.alloc (.cells closersA E)).cell? ⟨w.heap.size, 0 + j, none⟩ = some (.string (closersB.getD j ByteArray.empty)) := by
  intro j hj
  refine cell_of_obj (obj_alloc_new w _) ?_
  have : j < 5 := hj
  rcases (show j = 0 ∨ j = 1 ∨ j = 2 ∨ j = 3 ∨ j = 4 from by omega) with rfl | rfl | rfl | rfl | rfl <;> rfl

set_option maxHeartbeats 4000000 in
set_option maxRecDepth 10000 in
theorem closing_any (pb : Nat) (a : Option Addr) (c : Nat) (ts : List Lx.Tok) (vs : List Value) (p deep : Nat) (er : Int) (w : World) (h : PS w pb a c ts vs p deep er) :
    Calls Tryd.prog 27 #[.pointer (some ⟨pb, 0, none⟩)] w fun e w' => e = .returned (.bool (Ps.closing ts p)) ∧ Chg [] w w' := by
  have x0 := h.c0
  have x1 := h.c1
  have p0 : (0 : Int) ≤ (p : Int) := by omega
  have hfew := h.few
  have p1 : (p : Int) ≤ 100000 := by have := h.le; omega
  have l1 : (ts.length : Int) ≤ 100000 := by omega
  have HP := Lib.hid h
  have H1 := Lib.hid (fun n => is_any pb a c ts vs p deep er 2 [41] _ (h.drewN n))
  clear h hfew
  by_cases hp : p < ts.length
  · have hd : decide (ts.length ≤ p) = false := decide_eq_false (by omega)
    have p2 : (p : Int) < (ts.length : Int) := by omega
    have p3 : 0 < ts.length := by omega
    obtain ⟨t, ht⟩ : ∃ t, ts[p]? = some t := ⟨_, List.getElem?_eq_getElem hp⟩
    have hr := Lib.hid (closing_some ht)
    have hi := Lib.hid (isT_some ht 2 [41])
    obtain ⟨g1, a3, n3, rfl, y0, y1, y2, y3, hW⟩ := HP.out.toks.cell4 p t ht
    clear ht hW y2 y3
    cases hb : Ps.isT ts p 2 [41] with
    | true =>
      have hr2 := Lib.hid (show Ps.closing ts p = true from by
        rw [hr.out]
        have := hi.out.symm.trans hb
        rw [show (t.kind == 2 && t.text == [41]) = true from by simpa using this]
        rfl)
      rw [hb] at H1
      clear hb hr hi
      go_enter Tryd.func27, Tryd.ntmps27
      go_wp2_with fail
      go_quiet ((go_at_call 29; exact Calls.quiet_of (H1.out _)))
      all_goals
        go_wp2
        go_ret
        exact ⟨ret_b hr2.out.symm, (Chg.refl _ _).drewN _⟩
    | false =>
      have hr1 := Lib.hid (show Ps.closing ts p = (t.kind == 1 && Ps.closers.contains t.text) from by
        rw [hr.out]
        have := hi.out.symm.trans hb
        rw [show (t.kind == 2 && t.text == [41]) = false from by simpa using this]
        rfl)
      rw [hb] at H1
      clear hb hr hi
      by_cases hk : t.kind = 1
      · have e1 : (t.kind == 1) = true := by rw [beq_iff_eq]; exact hk
        have hr2 := Lib.hid (show Ps.closing ts p = Lib.containsS (closersB.take 5) (Lx.strB t.text) from by rw [hr1.out, e1, closers_has]; rfl)
        clear hr1
        go_enter Tryd.func27, Tryd.ntmps27
        go_wp2_with fail
        go_quiet ((go_at_call 29; exact Calls.quiet_of (H1.out _)))
        all_goals
          go_wp2
          have HQ := Lib.hid (HP.out.drewN nq)
          have z0 := HQ.out.c0
          have z1 := HQ.out.c1
          have u0 : (w.drewN nq).cell? ⟨g1, p * 4, none⟩ = some (.int .i64 t.kind) := y0
          have u1 : (w.drewN nq).cell? ⟨g1, p * 4 + 1, none⟩ = some (.string (Lx.strB t.text)) := y1
          have C0 := Lib.hid ((Chg.refl [] w).drewN nq)
          generalize w.drewN nq = w1 at *
          clear x0 x1 y0 y1
          have z0a := fun (o : Obj) => ((Chg.refl [] w1).alloc o).cell z0 (by simp)
          have z1a := fun (o : Obj) => ((Chg.refl [] w1).alloc o).cell z1 (by simp)
          have u0a := fun (o : Obj) => ((Chg.refl [] w1).alloc o).cell u0 (by simp)
          have u1a := fun (o : Obj) => ((Chg.refl [] w1).alloc o).cell u1 (by simp)
          go_region_held3 (fun w' => w'.cell? ⟨pb, 0, none⟩ = some (.slice (some ⟨g1, 0, none⟩) ts.length c) ∧ w'.cell? ⟨pb, 1, none⟩ = some (.int .i64 p) ∧ w'.cell? ⟨g1, p * 4, none⟩ = some (.int .i64 t.kind) ∧ w'.cell? ⟨g1, p * 4 + 1, none⟩ = some (.string (Lx.strB t.text)))
            (first | exact ⟨z0, z1, u0, u1⟩ | exact ⟨z0a _, z1a _, u0a _, u1a _⟩)
            ((go_at_call 45; refine (Tryd.slices_Contains_string _ 0 5 5 closersB (Lx.strB t.text) _ (by decide) (by decide) (by exact closer_cells w1 _)).mono ?_; rintro e w3 ⟨rfl, rfl⟩))
          all_goals
            go_wp2
            go_ret
            exact ⟨ret_b hr2.out.symm, by first | exact (C0.out.alloc _).drew | exact C0.out.alloc _ | exact ((C0.out.alloc _).drew).drew | exact ((C0.out.drew).alloc _)⟩
      · have e1 : (t.kind == 1) = false := by rw [beq_eq_false_iff_ne]; exact hk
        have hr2 := Lib.hid (show Ps.closing ts p = false from by rw [hr1.out, e1]; rfl)
        clear hk hr1
        go_enter Tryd.func27, Tryd.ntmps27
        go_wp2_with fail
        go_quiet ((go_at_call 29; exact Calls.quiet_of (H1.out _)))
        all_goals
          go_wp2
          go_quiet (fail)
          go_wp2
          go_ret
          exact ⟨ret_b hr2.out.symm, ((Chg.refl _ _).drewN _).drewN _⟩
  · have hd : decide (ts.length ≤ p) = true := decide_eq_true (by omega)
    have hr2 := Lib.hid (closing_none hp)
    clear hp
    go_enter Tryd.func27, Tryd.ntmps27
    go_wp2_with fail
    go_quiet (fail)
    all_goals
      go_wp2
      go_ret
      exact ⟨ret_b hr2.out.symm, (Chg.refl _ _).drewN _⟩

end Go.Proofs.YtfgbbmnmblchiaaDoor
