/-
  The document's answer about labels, walked: Has, Sub, Flows, SameSet, Same.
-/
import Derived.Test.YtihkanbkcnonoaaRef3
namespace Go.Proofs.Ytihkanbkcnonoaa
open Go.RowKit
set_option linter.unusedVariables false

theorem drop_cons (zs : List Int) (k : Nat) (h : k < zs.length) : zs.drop k = zs.getD k 0 :: zs.drop (k + 1) := by
  rw [List.drop_eq_getElem_cons h]
  simp [List.getD, h]

set_option maxHeartbeats 1000000 in
theorem rhas_any (a : Option Addr) (len cap : Nat) (zs : List Int) (t : Int) (w : World) (h : Nums w a len cap zs) :
    Calls Try.prog 42 #[.slice a len cap, .int .i64 t] w fun e w' => e = .returned (.bool (zs.contains t)) ∧ w = w' := by
  rcases h.cases with ⟨rfl, rfl⟩ | ⟨b, off, rfl, hlen, h0, hm, hcell⟩
  · go_enter Try.func42, Try.ntmps42
    go_wp2
    refine wp_loop_rounds 1 ?_
    rw [rounds_succ]
    go_wp2
    go_ret
    exact ⟨rfl, rfl⟩
  · clear h
    go_enter Try.func42, Try.ntmps42
    go_wp2_with fail
    go_loopg [5] len (fun g c wr => ∃ k : Nat, k + g = len ∧ c = .int .i64 k ∧ wr = w ∧ Hid (zs.contains t = (zs.drop k).contains t))
    case atStart => exact ⟨0, by omega, rfl, rfl, Lib.hid rfl⟩
    case round =>
      obtain ⟨k, hk, rfl, rfl, hr⟩ := hrel
      cases gk with
      | zero =>
        obtain rfl : k = len := by omega
        have HD : Hid (zs.contains t = false) := Lib.hid (by
          rw [hr.out, List.drop_of_length_le (by omega)]
          simp)
        clear hcell
        go_wp2
        go_ret
        exact ⟨ret_bool HD.out.symm, rfl⟩
      | succ g =>
        have hlt : k < len := by omega
        have hki : (k : Int) < (len : Int) := by omega
        have hk0 : (0 : Int) ≤ (k : Int) := by omega
        have hc := hcell k hlt
        have HST := Lib.hid (drop_cons zs k (by omega))
        obtain ⟨z, hz⟩ : ∃ z, zs.getD k 0 = z := ⟨_, rfl⟩
        rw [hz] at hc HST
        by_cases h1 : z = t
        · subst h1
          have HN : Hid (zs.contains z = true) := Lib.hid (by rw [hr.out, HST.out]; simp)
          clear hcell hz
          go_wp2
          go_ret
          exact ⟨ret_bool HN.out.symm, rfl⟩
        · have h2 : (z == t) = false := by simpa using h1
          have HN : Hid (zs.contains t = (zs.drop (k + 1)).contains t) := Lib.hid (by rw [hr.out, HST.out]; simp; intro e; exact absurd e.symm h1)
          clear hz hcell
          go_wp2
          go_roundg g
          case measure => omega
          case rel => exact ⟨k + 1, by omega, by go_num, rfl, HN⟩

set_option maxHeartbeats 1000000 in
theorem rsub_any (a : Option Addr) (len cap : Nat) (zs : List Int) (a2 : Option Addr) (len2 cap2 : Nat) (ys : List Int) (w : World) (h : Nums w a len cap zs) (h' : Nums w a2 len2 cap2 ys) :
    Calls Try.prog 37 #[.slice a len cap, .slice a2 len2 cap2] w fun e w' => e = .returned (.bool (Pi.subB zs ys)) ∧ w = w' := by
  rcases h.cases with ⟨rfl, rfl⟩ | ⟨b, off, rfl, hlen, h0, hm, hcell⟩
  · go_enter Try.func37, Try.ntmps37
    go_wp2
    refine wp_loop_rounds 1 ?_
    rw [rounds_succ]
    go_wp2
    go_ret
    exact ⟨rfl, rfl⟩
  · clear h
    have H' := Lib.hid h'
    clear h'
    go_enter Try.func37, Try.ntmps37
    go_wp2_with fail
    go_loopg [5] len (fun g c wr => ∃ k : Nat, k + g = len ∧ c = .int .i64 k ∧ wr = w ∧ Hid (Pi.subB zs ys = Pi.subB (zs.drop k) ys))
    case atStart => exact ⟨0, by omega, rfl, rfl, Lib.hid rfl⟩
    case round =>
      obtain ⟨k, hk, rfl, rfl, hr⟩ := hrel
      cases gk with
      | zero =>
        obtain rfl : k = len := by omega
        have HD : Hid (Pi.subB zs ys = true) := Lib.hid (by
          rw [hr.out, List.drop_of_length_le (by omega)]
          rfl)
        clear hcell
        go_wp2
        go_ret
        exact ⟨ret_bool HD.out.symm, rfl⟩
      | succ g =>
        have hlt : k < len := by omega
        have hki : (k : Int) < (len : Int) := by omega
        have hk0 : (0 : Int) ≤ (k : Int) := by omega
        have hc := hcell k hlt
        have HST := Lib.hid (drop_cons zs k (by omega))
        obtain ⟨z, hz⟩ : ∃ z, zs.getD k 0 = z := ⟨_, rfl⟩
        rw [hz] at hc HST
        cases h1 : ys.contains z with
        | false =>
          have HN : Hid (Pi.subB zs ys = false) := Lib.hid (by rw [hr.out, HST.out]; unfold Pi.subB; rw [List.all_cons, h1]; rfl)
          clear hcell hz
          go_wp2_with fail
          refine (rhas_any a2 len2 cap2 ys z wr H'.out).mono ?_
          rw [h1]
          rintro e w' ⟨rfl, rfl⟩
          go_wp2
          go_ret
          exact ⟨ret_bool HN.out.symm, rfl⟩
        | true =>
          have HN : Hid (Pi.subB zs ys = Pi.subB (zs.drop (k + 1)) ys) := Lib.hid (by rw [hr.out, HST.out]; unfold Pi.subB; rw [List.all_cons, h1]; rfl)
          clear hz hcell
          go_wp2_with fail
          refine (rhas_any a2 len2 cap2 ys z wr H'.out).mono ?_
          rw [h1]
          rintro e w' ⟨rfl, rfl⟩
          go_wp2
          go_roundg g
          case measure => omega
          case rel => exact ⟨k + 1, by omega, by go_num, rfl, HN⟩

set_option maxHeartbeats 1000000 in
theorem rsameSet_any (a : Option Addr) (len cap : Nat) (zs : List Int) (a2 : Option Addr) (len2 cap2 : Nat) (ys : List Int) (w : World) (h : Nums w a len cap zs) (h' : Nums w a2 len2 cap2 ys) :
    Calls Try.prog 38 #[.slice a len cap, .slice a2 len2 cap2] w fun e w' => e = .returned (.bool (decide (zs = ys))) ∧ Chg [] w w' := by
  have hl1 := h.1
  have hl2 := h'.1
  by_cases hll : len = len2
  · subst hll
    rcases h.cases with ⟨rfl, rfl⟩ | ⟨b, off, rfl, hlen, h0, hm, hcell⟩
    · have e : ys = [] := List.eq_nil_of_length_eq_zero hl2
      subst e
      go_enter Try.func38, Try.ntmps38
      go_wp2
      refine wp_loop_rounds 1 ?_
      rw [rounds_succ]
      go_wp2
      go_ret
      exact ⟨rfl, Chg.refl _ _⟩
    · rcases h'.cases with ⟨rfl, rfl⟩ | ⟨b2, off2, rfl, hlen2, _, _, hcell2⟩
      · omega
      · clear h h'
        go_enter Try.func38, Try.ntmps38
        go_wp2_with fail
        go_loopg [5] len (fun g c wr => ∃ k : Nat, k + g = len ∧ c = .int .i64 k ∧ Chg [] w wr ∧ Hid (decide (zs = ys) = decide (zs.drop k = ys.drop k)))
        case atStart => exact ⟨0, by omega, rfl, Chg.refl _ _, Lib.hid rfl⟩
        case round =>
          obtain ⟨k, hk, rfl, hch, hr⟩ := hrel
          have HC := Lib.hid hch
          cases gk with
          | zero =>
            obtain rfl : k = len := by omega
            have HD : Hid (decide (zs = ys) = true) := Lib.hid (by
              rw [hr.out, List.drop_of_length_le (by omega), List.drop_of_length_le (by omega)]
              rfl)
            clear hcell hcell2 hch
            go_wp2
            go_ret
            exact ⟨ret_bool HD.out.symm, HC.out⟩
          | succ g =>
            have hlt : k < len := by omega
            have hki : (k : Int) < (len : Int) := by omega
            have hk0 : (0 : Int) ≤ (k : Int) := by omega
            have hc := hch.cell (hcell k hlt) (by simp)
            have hc2 := hch.cell (hcell2 k hlt) (by simp)
            have HST := Lib.hid (drop_cons zs k (by omega))
            have HST2 := Lib.hid (drop_cons ys k (by omega))
            obtain ⟨z, hz⟩ : ∃ z, zs.getD k 0 = z := ⟨_, rfl⟩
            obtain ⟨y, hy⟩ : ∃ y, ys.getD k 0 = y := ⟨_, rfl⟩
            rw [hz] at hc HST
            rw [hy] at hc2 HST2
            clear hch hz hy
            by_cases h1 : z = y
            · subst h1
              have HN : Hid (decide (zs = ys) = decide (zs.drop (k + 1) = ys.drop (k + 1))) := Lib.hid (by rw [hr.out, HST.out, HST2.out]; simp)
              clear hcell hcell2
              go_wp2_with fail
              go_quiet (fail)
              all_goals
                go_wp2
                go_roundg g
                case measure => omega
                case rel => exact ⟨k + 1, by omega, by go_num, HC.out.drewN _, HN⟩
            · have h2 : (z == y) = false := by simpa using h1
              have HN : Hid (decide (zs = ys) = false) := Lib.hid (by rw [hr.out, HST.out, HST2.out]; simp [h1])
              clear hcell hcell2
              go_wp2_with fail
              go_quiet (fail)
              all_goals
                go_wp2
                go_ret
                exact ⟨ret_bool HN.out.symm, HC.out.drewN _⟩
  · have hd : decide (zs = ys) = false := decide_eq_false (fun e => hll (by rw [← hl1, ← hl2, e]))
    have hli : ((len : Int) == (len2 : Int)) = false := by rw [beq_eq_false_iff_ne]; omega
    rw [hd]
    clear h h' hl1 hl2 hd
    go_enter Try.func38, Try.ntmps38
    go_wp2
    go_ret
    exact ⟨rfl, Chg.refl _ _⟩

/-- two labels in blocks of their own. -/
theorem box_two (w : World) (x1 x2 y1 y2 : Value) :
    let w2 := (w.alloc (.cells #[x1, x2] 26)).alloc (.cells #[y1, y2] 26)
    Chg [] w w2 ∧ w2.heap[w.heap.size]? = some (.cells #[x1, x2] 26 (0, 0)) ∧ w2.heap[w.heap.size + 1]? = some (.cells #[y1, y2] 26 (0, 0)) := by
  have e : (w.alloc (.cells #[x1, x2] 26)).heap.size = w.heap.size + 1 := by simp
  have h2 := obj_alloc_new (w.alloc (.cells #[x1, x2] 26)) (.cells #[y1, y2] 26)
  rw [e] at h2
  exact ⟨((Chg.refl [] w).alloc _).alloc _, obj_alloc_old (obj_alloc_new w _) _, h2⟩

set_option maxHeartbeats 1000000 in
theorem rflows_any (a1 : Option Addr) (n1 c1 : Nat) (a2 : Option Addr) (n2 c2 : Nat) (l : Pi.Lab) (b1 : Option Addr) (m1 d1 : Nat) (b2 : Option Addr) (m2 d2 : Nat) (k : Pi.Lab) (w : World)
    (h : LabAt w a1 n1 c1 a2 n2 c2 l) (h' : LabAt w b1 m1 d1 b2 m2 d2 k) :
    Calls Try.prog 32 #[.agg #[.slice a1 n1 c1, .slice a2 n2 c2], .agg #[.slice b1 m1 d1, .slice b2 m2 d2]] w fun e w' => e = .returned (.bool (Pi.flowsB l k)) ∧ Chg [] w w' := by
  obtain ⟨hc0, o1, o2⟩ := box_two w (.slice a1 n1 c1) (.slice a2 n2 c2) (.slice b1 m1 d1) (.slice b2 m2 d2)
  have HL := Lib.hid (h.kept0 hc0)
  have HK := Lib.hid (h'.kept0 hc0)
  have HC0 := Lib.hid hc0
  have HO1 := Lib.hid o1
  have HO2 := Lib.hid o2
  have hm : Pi.flowsB l k = (Pi.subB l.S k.S && Pi.subB k.I l.I) := rfl
  rw [hm]
  clear h h' hc0 o1 o2 hm
  go_enter Try.func32, Try.ntmps32
  go_wp2_with fail
  refine (rsub_any a1 n1 c1 _ b1 m1 d1 _ _ HL.out.s HK.out.s).mono ?_
  rintro e w2 ⟨rfl, rfl⟩
  cases hs : Pi.subB l.S k.S with
  | false =>
    go_wp2
    go_ret
    exact ⟨ret_bool (by rw [hs]; rfl), HC0.out⟩
  | true =>
    go_wp2_with fail
    refine (rsub_any b2 m2 d2 _ a2 n2 c2 _ _ HK.out.i HL.out.i).mono ?_
    rintro e w2 ⟨rfl, rfl⟩
    go_wp2
    go_ret
    exact ⟨ret_bool (by rw [hs]; simp), HC0.out⟩

def eqB (l k : Pi.Lab) : Bool := decide (l.S = k.S) && decide (l.I = k.I)

set_option maxHeartbeats 1000000 in
theorem rsame_any (a1 : Option Addr) (n1 c1 : Nat) (a2 : Option Addr) (n2 c2 : Nat) (l : Pi.Lab) (b1 : Option Addr) (m1 d1 : Nat) (b2 : Option Addr) (m2 d2 : Nat) (k : Pi.Lab) (w : World)
    (h : LabAt w a1 n1 c1 a2 n2 c2 l) (h' : LabAt w b1 m1 d1 b2 m2 d2 k) :
    Calls Try.prog 33 #[.agg #[.slice a1 n1 c1, .slice a2 n2 c2], .agg #[.slice b1 m1 d1, .slice b2 m2 d2]] w fun e w' => e = .returned (.bool (eqB l k)) ∧ Chg [] w w' := by
  obtain ⟨hc0, o1, o2⟩ := box_two w (.slice a1 n1 c1) (.slice a2 n2 c2) (.slice b1 m1 d1) (.slice b2 m2 d2)
  have HL := Lib.hid (h.kept0 hc0)
  have HK := Lib.hid (h'.kept0 hc0)
  have HC0 := Lib.hid hc0
  have HO1 := Lib.hid o1
  have HO2 := Lib.hid o2
  have hm : eqB l k = (decide (l.S = k.S) && decide (l.I = k.I)) := rfl
  rw [hm]
  clear h h' hc0 o1 o2 hm
  go_enter Try.func33, Try.ntmps33
  go_wp2_with fail
  refine (rsameSet_any a1 n1 c1 _ b1 m1 d1 _ _ HL.out.s HK.out.s).mono ?_
  rintro e w2 ⟨rfl, hc2⟩
  have k1 := cell_of_obj (hc2.obj HO1.out (by simp)) (j := 1) rfl
  have k2 := cell_of_obj (hc2.obj HO2.out (by simp)) (j := 1) rfl
  have HL2 := Lib.hid (HL.out.kept0 hc2)
  have HK2 := Lib.hid (HK.out.kept0 hc2)
  have HC2 := Lib.hid (HC0.out.then0 hc2)
  clear hc2
  cases hs : decide (l.S = k.S) with
  | false =>
    go_wp2
    go_ret
    exact ⟨ret_bool (by rw [hs]; rfl), HC2.out⟩
  | true =>
    go_wp2_with fail
    refine (rsameSet_any a2 n2 c2 _ b2 m2 d2 _ _ HL2.out.i HK2.out.i).mono ?_
    rintro e w3 ⟨rfl, hc3⟩
    go_wp2
    go_ret
    exact ⟨ret_bool (by rw [hs]; simp), HC2.out.then0 hc3⟩

theorem rises_lower (l : List Int) : ∀ y, Pi.risesFrom (some y) l = true → ∀ x ∈ l, y < x := by
  induction l with
  | nil => intro y _ x hx; cases hx
  | cons z r ih =>
    intro y h x hx
    simp only [Pi.risesFrom, Bool.and_eq_true, decide_eq_true_eq] at h
    rcases List.mem_cons.1 hx with rfl | hx
    · exact h.1.2
    · have := ih z h.2 x hx; omega

theorem rises_some {l : List Int} {o : Option Int} (h : Pi.risesFrom o l = true) : Pi.risesFrom none l = true := by
  cases l with
  | nil => rfl
  | cons z r =>
    simp only [Pi.risesFrom, Bool.and_eq_true] at h ⊢
    exact ⟨⟨h.1.1, trivial⟩, h.2⟩

/-- two rising lists of the same elements are one. -/
theorem rises_eq : ∀ (a b : List Int), Pi.risesFrom none a = true → Pi.risesFrom none b = true → (∀ x, x ∈ a ↔ x ∈ b) → a = b
  | [], [], _, _, _ => rfl
  | [], y :: r, _, _, h => by have := (h y).2 (by simp); cases this
  | x :: r, [], _, _, h => by have := (h x).1 (by simp); cases this
  | x :: r, y :: q, h1, h2, h => by
    simp only [Pi.risesFrom, Bool.and_eq_true] at h1 h2
    have l1 := rises_lower r x h1.2
    have l2 := rises_lower q y h2.2
    have e : x = y := by
      have hx := (h x).1 (by simp)
      have hy := (h y).2 (by simp)
      rcases List.mem_cons.1 hx with rfl | hx
      · rfl
      · rcases List.mem_cons.1 hy with rfl | hy
        · rfl
        · have := l2 x hx; have := l1 y hy; omega
    subst e
    rw [rises_eq r q (rises_some h1.2) (rises_some h2.2) (fun z => ⟨fun hz => by
      have := (h z).1 (by simp [hz])
      rcases List.mem_cons.1 this with rfl | h
      · have := l1 z hz; omega
      · exact h, fun hz => by
      have := (h z).2 (by simp [hz])
      rcases List.mem_cons.1 this with rfl | h
      · have := l2 z hz; omega
      · exact h⟩)]

theorem sub_iff (a b : List Int) : Pi.subB a b = true ↔ ∀ x ∈ a, x ∈ b := by
  unfold Pi.subB
  simp

theorem set_eq (a b : List Int) (ha : Pi.setB a = true) (hb : Pi.setB b = true) : (Pi.subB a b && Pi.subB b a) = decide (a = b) := by
  unfold Pi.setB at ha hb
  rw [Bool.and_eq_true] at ha hb
  rw [Bool.eq_iff_iff, Bool.and_eq_true, sub_iff, sub_iff, decide_eq_true_eq]
  constructor
  · intro h
    exact rises_eq a b ha.1 hb.1 (fun x => ⟨h.1 x, h.2 x⟩)
  · rintro rfl
    exact ⟨fun x h => h, fun x h => h⟩

theorem same_eq (l k : Pi.Lab) (hl : Pi.mayB l = true) (hk : Pi.mayB k = true) : Pi.sameB l k = eqB l k := by
  unfold Pi.mayB at hl hk
  rw [Bool.and_eq_true] at hl hk
  unfold Pi.sameB eqB
  rw [set_eq _ _ hl.1 hk.1, set_eq _ _ hl.2 hk.2]

end Go.Proofs.Ytihkanbkcnonoaa
