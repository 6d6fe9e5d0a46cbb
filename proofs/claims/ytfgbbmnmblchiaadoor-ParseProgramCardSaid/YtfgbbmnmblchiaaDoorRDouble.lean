/-
  The document's double: walked.
-/
import Derived.Test.YtfgbbmnmblchiaaDoorPm03
namespace Go.Proofs.YtfgbbmnmblchiaaDoor
open Go.RowKit
set_option linter.unusedVariables false

/-- what reading up to the second quote leaves. -/
def DoubPost (w : World) (v : Value) (o : Lx.Res (List Lx.Part × Nat)) (e : Ending) (w' : World) : Prop :=
  match o with
  | .bad i => e = .returned (.agg #[.slice none 0 0, .int .i64 i, .int .i64 10]) ∧ Chg (rowBlock v) w w'
  | .ok (ps, p) => ∃ a n c, e = .returned (.agg #[.slice a n c, .int .i64 p, .int .i64 0]) ∧ PartsR w' (.slice a n c) ps ∧ Chg (rowBlock v) w w' ∧ ∀ k ∈ rowBlock (.slice a n c), k ∈ rowBlock v ∨ w.heap.size ≤ k

/-- the result's block, before anything lies in it. -/
def ResAt (w : World) (rb : Nat) : Prop := w.heap[rb]? = some (.cells #[.slice none 0 0, .int .i64 0, .int .i64 0] 100 (0, 0))

theorem ResAt.r0 {w : World} {rb : Nat} (h : ResAt w rb) (x : Value) : (w.setCell ⟨rb, 0, none⟩ x).cell? ⟨rb, 0, none⟩ = some x := cell_of_obj (obj_setCell h 0 x) rfl
theorem ResAt.r1 {w : World} {rb : Nat} (h : ResAt w rb) (x y : Value) : ((w.setCell ⟨rb, 0, none⟩ x).setCell ⟨rb, 1, none⟩ y).cell? ⟨rb, 1, none⟩ = some y := cell_of_obj (obj_setCell (obj_setCell h 0 x) 1 y) rfl
theorem ResAt.r2 {w : World} {rb : Nat} (h : ResAt w rb) (x y z : Value) : (((w.setCell ⟨rb, 0, none⟩ x).setCell ⟨rb, 1, none⟩ y).setCell ⟨rb, 2, none⟩ z).cell? ⟨rb, 2, none⟩ = some z := cell_of_obj (obj_setCell (obj_setCell (obj_setCell h 0 x) 1 y) 2 z) rfl

/-- what holds at the head of each round of reading. -/
structure DoubAt (w : World) (rb : Nat) (l : List UInt8) (v : Value) (p : Nat) (ps : List Lx.Part) (a : Option Addr) (n c : Nat) (wr : World) : Prop where
  res : ResAt wr rb
  parts : PartsR wr (.slice a n c) ps
  out : rb ∉ rowBlock (.slice a n c)
  new : w.heap.size ≤ rb
  chg : Chg (rowBlock v) w wr
  row : ∀ k ∈ rowBlock (.slice a n c), k ∈ rowBlock v ∨ w.heap.size ≤ k
  sm : Sm ps p
  le : p ≤ l.length

theorem DoubAt.kept0 {w wr w' : World} {rb : Nat} {l : List UInt8} {v : Value} {p : Nat} {ps : List Lx.Part} {a : Option Addr} {n c : Nat} (h : DoubAt w rb l v p ps a n c wr) (hc : Chg [] wr w') : DoubAt w rb l v p ps a n c w' :=
  { h with res := hc.obj h.res (by simp), parts := h.parts.kept0 hc, chg := h.chg.then0 hc }

theorem DoubAt.moved {w wr : World} {rb : Nat} {l : List UInt8} {v : Value} {p : Nat} {ps : List Lx.Part} {a : Option Addr} {n c : Nat} (h : DoubAt w rb l v p ps a n c wr) (q : Nat) (h1 : p ≤ q) (h2 : q ≤ l.length) : DoubAt w rb l v q ps a n c wr :=
  { h with sm := h.sm.mono h1, le := h2 }

/-- a piece put behind the others. -/
theorem DoubAt.added {w wr w' : World} {rb : Nat} {l : List UInt8} {v : Value} {p : Nat} {ps ps' : List Lx.Part} {a a' : Option Addr} {n n' c c' : Nat} (h : DoubAt w rb l v p ps a n c wr)
    (hP : PartsR w' (.slice a' n' c') ps') (hC : Chg (rowBlock (.slice a n c)) wr w') (hB : ∀ k ∈ rowBlock (.slice a' n' c'), k ∈ rowBlock (.slice a n c) ∨ wr.heap.size ≤ k) (q : Nat) (hs : Sm ps' q) (hle : q ≤ l.length) : DoubAt w rb l v q ps' a' n' c' w' where
  res := hC.obj h.res h.out
  parts := hP
  out := fun hx => by
    rcases hB rb hx with h1 | h1
    · exact h.out h1
    · have := lt_of_obj h.res; omega
  new := h.new
  chg := h.chg.trans hC (fun k hk => h.row k hk)
  row := fun k hk => by
    rcases hB k hk with h1 | h1
    · exact h.row k h1
    · exact .inr (Nat.le_trans h.chg.size h1)
  sm := hs
  le := hle

theorem DoubAt.done {w wr : World} {rb : Nat} {l : List UInt8} {v : Value} {p : Nat} {ps : List Lx.Part} {a : Option Addr} {n c : Nat} (h : DoubAt w rb l v p ps a n c wr) (x y z : Value) (q : Nat) :
    DoubPost w v (.ok (ps, q)) (.returned (.agg #[.slice a n c, .int .i64 q, .int .i64 0])) (((wr.setCell ⟨rb, 0, none⟩ x).setCell ⟨rb, 1, none⟩ y).setCell ⟨rb, 2, none⟩ z) := by
  have h3 : Chg [rb] wr (((wr.setCell ⟨rb, 0, none⟩ x).setCell ⟨rb, 1, none⟩ y).setCell ⟨rb, 2, none⟩ z) := (((Chg.refl [rb] wr).setCell _ _ (.inl (by simp))).setCell _ _ (.inl (by simp))).setCell _ _ (.inl (by simp))
  exact ⟨a, n, c, rfl, h.parts.kept h3 (fun k hk => by simp only [List.mem_singleton]; rintro rfl; exact h.out hk), h.chg.trans h3 (fun k hk => by simp at hk; subst hk; exact .inr h.new), h.row⟩

theorem DoubAt.bad {w wr : World} {rb : Nat} {l : List UInt8} {v : Value} {p : Nat} {ps : List Lx.Part} {a : Option Addr} {n c : Nat} (h : DoubAt w rb l v p ps a n c wr) (x y z : Value) (i : Nat) :
    DoubPost w v (.bad i) (.returned (.agg #[.slice none 0 0, .int .i64 i, .int .i64 10])) (((wr.setCell ⟨rb, 0, none⟩ x).setCell ⟨rb, 1, none⟩ y).setCell ⟨rb, 2, none⟩ z) := by
  have h3 : Chg [rb] wr (((wr.setCell ⟨rb, 0, none⟩ x).setCell ⟨rb, 1, none⟩ y).setCell ⟨rb, 2, none⟩ z) := (((Chg.refl [rb] wr).setCell _ _ (.inl (by simp))).setCell _ _ (.inl (by simp))).setCell _ _ (.inl (by simp))
  exact ⟨rfl, h.chg.trans h3 (fun k hk => by simp at hk; subst hk; exact .inr h.new)⟩

theorem doll_cases (qs : List Lx.Part) (k : Int) (r : List UInt8) (p : Nat) :
    (Lx.varP qs k r = none ∧ dollV p (Lx.dollarP r) = .tuple #[.string ⟨#[]⟩, .int .i64 0, .bool false, .bool true]) ∨
    (∃ m : Nat, Lx.varP qs k r = some (Lx.addP qs 1 [36], m) ∧ 1 ≤ m ∧ m ≤ r.length + 1 ∧ dollV p (Lx.dollarP r) = .tuple #[.string ⟨#[]⟩, .int .i64 ((p : Int) + (m : Int)), .bool false, .bool false]) ∨
    (∃ (m : Nat) (x : List UInt8), Lx.varP qs k r = some (Lx.addP qs k x, m) ∧ 1 ≤ m ∧ m ≤ r.length + 1 ∧ x.length + 1 ≤ m ∧ dollV p (Lx.dollarP r) = .tuple #[.string (Lx.strB x), .int .i64 ((p : Int) + (m : Int)), .bool true, .bool false]) := by
  have hd := dollarP_le r
  unfold Lx.varP dollV
  by_cases h0 : (Lx.dollarP r).2 < 0
  · left
    rw [if_pos h0, if_pos h0]
    exact ⟨rfl, rfl⟩
  · right
    rw [if_neg h0, if_neg h0]
    obtain ⟨z, hz⟩ : ∃ z, (Lx.dollarP r).2 = z := ⟨_, rfl⟩
    obtain ⟨x, hx⟩ : ∃ x, (Lx.dollarP r).1 = x := ⟨_, rfl⟩
    rw [hz, hx] at hd
    rw [hz] at h0
    have e : (z.toNat : Int) = z := by omega
    rw [hz, hx]
    by_cases h1 : x = []
    · left
      rw [if_pos h1, if_pos h1]
      exact ⟨z.toNat, rfl, by omega, by omega, by rw [e]⟩
    · right
      rw [if_neg h1, if_neg h1]
      exact ⟨z.toNat, x, rfl, by omega, by omega, by omega, by rw [e]⟩

set_option maxHeartbeats 4000000 in
set_option maxRecDepth 100000 in
theorem rdouble_any (l : List UInt8) (q : Nat) (a : Option Addr) (n c : Nat) (ps : List Lx.Part) (t : List UInt8) (w : World)
    (hP : PartsR w (.slice a n c) ps) (hd : l.drop (q + 1) = t) (hq : q < l.length) (hl : l.length ≤ 2048) (hs : Sm ps q) :
    Calls Tryd.prog 49 #[.string (Lx.strB l), .int .i64 ((q : Int) + 1), .slice a n c] w (DoubPost w (.slice a n c) (Lx.quotP q (t.length + 1) t (q + 1) ps)) := by
  have hlen : t.length = l.length - (q + 1) := by rw [← hd, List.length_drop]
  obtain ⟨R, hQ⟩ : ∃ R, Lx.quotP q (t.length + 1) t (q + 1) ps = R := ⟨_, rfl⟩
  have HQ0 := Lib.hid (show R = Lx.quotP q (t.length + 1) (l.drop (q + 1)) (q + 1) ps from by rw [hd]; exact hQ.symm)
  rw [hQ]
  have hsz := Lx.strB_size l
  have hblk := Row.block_lt hP
  have HI0 := Lib.hid (show DoubAt w w.heap.size l (.slice a n c) (q + 1) ps a n c (w.alloc (.cells #[.slice none 0 0, .int .i64 0, .int .i64 0] 100)) from
    { res := obj_alloc_new w _, parts := hP.kept0 ((Chg.refl [] w).alloc _), out := fun h => by have := hblk _ h; omega, new := Nat.le_refl _, chg := (Chg.refl _ w).alloc _, row := fun k hk => .inl hk, sm := hs.mono (by omega), le := by omega })
  have HL := Lib.hid hl
  have HQL := Lib.hid (show l.length < q + 1 + (t.length + 1) from by omega)
  have q0 : (0 : Int) ≤ (q : Int) := by omega
  have q1 : (q : Int) ≤ 2048 := by omega
  have HQ := Lib.hid hq
  clear hP hd hl hs hQ hblk hlen hq
  go_enter Tryd.func49, Tryd.ntmps49
  go_wp2_with fail
  generalize w.heap.size = rb at *
  go_loopg [1, 2] (t.length + 1) (fun g c1 c2 wr => ∃ (p : Nat) (ps' : List Lx.Part) (a' : Option Addr) (n' c' : Nat), l.length < p + g ∧ c1 = .int .i64 p ∧ c2 = .slice a' n' c' ∧ DoubAt w rb l (.slice a n c) p ps' a' n' c' wr ∧ Hid (R = Lx.quotP q g (l.drop p) p ps'))
  case atStart => exact ⟨q + 1, ps, a, n, c, HQL.out, rfl, rfl, HI0.out, HQ0⟩
  case round =>
    obtain ⟨p, qs, a1, n1, c1, hg, rfl, rfl, hI, hr⟩ := hrel
    clear HI0 HQ0
    have hle := hI.le
    have HI := Lib.hid hI
    have x0 := cell_of_obj hI.res (j := 0) rfl
    have x1 := cell_of_obj hI.res (j := 1) rfl
    have x2 := cell_of_obj hI.res (j := 2) rfl
    have f0 := free_of_obj hI.res 0
    have f1 := free_of_obj hI.res 1
    have f2 := free_of_obj hI.res 2
    clear hI
    have hL := HL.out
    have p0 : (0 : Int) ≤ (p : Int) := by omega
    have p1 : (p : Int) ≤ 2048 := by omega
    clear hL
    by_cases hp : p < l.length
    · have hpd : decide (p < l.length) = true := decide_eq_true hp
      have hpd2 : decide (l.length ≤ p) = false := decide_eq_false (by omega)
      cases gk with
      | zero => omega
      | succ g =>
        obtain ⟨b, t2, hbt⟩ : ∃ b t2, l.drop p = b :: t2 := ⟨_, _, drop_at l p hp⟩
        obtain ⟨x, hbx⟩ : ∃ x, b.toNat = x := ⟨_, rfl⟩
        have hx : ∀ h, ((Lx.strB l)[p]'h).toNat = x := fun h => by
          rw [Lx.strB_get]
          have := drop_at l p hp
          rw [hbt] at this
          exact (congrArg UInt8.toNat (List.cons.inj this).1.symm).trans hbx
        have p2 : (p : Int) < (l.length : Int) := by omega
        have hb8 : ∀ y : UInt8, b = y ↔ x = y.toNat := fun y => ⟨fun e => by rw [← hbx, e], fun e => UInt8.toNat_inj.1 (hbx.trans e)⟩
        have hll : l.length = p + (t2.length + 1) := by
          have := congrArg List.length hbt
          rw [List.length_drop, List.length_cons] at this
          omega
        have hdt : l.drop (p + 1) = t2 := by rw [← List.drop_drop, hbt]; rfl
        rw [hbt] at hr
        have HBT := Lib.hid hbt
        have HB8 := Lib.hid hb8
        have HG := Lib.hid hg
        have HLL := Lib.hid hll
        have HDT := Lib.hid hdt
        clear hbt hb8 hbx hg hll hdt
        by_cases h34 : x = 34
        · subst h34
          have hb := Lib.hid (show R = .ok (qs, p + 1) from by rw [hr.out, quotP_cons, if_pos ((HB8.out 34).2 rfl)])
          clear hr
          go_wp2
          refine bodyPost_ret (v := .agg #[.slice a1 n1 c1, .int .i64 ((p : Int) + 1), .int .i64 0]) (by simp [results, Tryd.results49, go_sem, HI.out.res.r0, HI.out.res.r1, HI.out.res.r2]) rfl ?_
          rw [hb.out]
          exact HI.out.done _ _ _ (p + 1)
        · have e34 : ((x : Int) == 34) = false := by rw [beq_eq_false_iff_ne]; omega
          have n34 : ((x : Int) != 34) = true := by rw [bne_iff_ne]; omega
          by_cases h36 : x = 36
          · subst h36
            have hvb := Lib.hid (show R = (match Lx.varP qs 3 t2 with | none => .bad p | some (l', n) => Lx.quotP q g ((b :: t2).drop n) (p + n) l') from by
              rw [hr.out, quotP_cons, if_neg (fun e => h34 ((HB8.out 34).1 e)), if_pos ((HB8.out 36).2 rfl)]
              rfl)
            have HLL2 := HLL.out
            have HL2 := HL.out
            have HDO := Lib.hid (rdollar_any l p b t2 wr HBT.out (by omega))
            clear hr h34
            rcases doll_cases qs 3 t2 p with ⟨h1, h2⟩ | ⟨m, h1, hm1, hm2, h2⟩ | ⟨m, y, h1, hm1, hm2, hm3, h2⟩
            · rw [h1] at hvb
              have hb := Lib.hid (show R = .bad p from hvb.out)
              have H2 := Lib.hid h2
              clear hvb h1 h2 HLL2 HL2
              go_wp2_with fail
              refine HDO.out.mono ?_
              rw [H2.out]
              rintro e w5 ⟨rfl, rfl⟩
              go_wp2
              refine bodyPost_ret (v := .agg #[.slice none 0 0, .int .i64 (p : Int), .int .i64 10]) (by simp [results, Tryd.results49, go_sem, HI.out.res.r0, HI.out.res.r1, HI.out.res.r2]) rfl ?_
              rw [hb.out]
              exact HI.out.bad _ _ _ p
            · rw [h1] at hvb
              have hb := Lib.hid (show R = Lx.quotP q g (l.drop (p + m)) (p + m) (Lx.addP qs 1 [36]) from by
                rw [← List.drop_drop, HBT.out]; exact hvb.out)
              have H2 := Lib.hid h2
              have HLE := Lib.hid (show qs.length ≤ 1000000 from by have := HI.out.sm.len; omega)
              have HTE := Lib.hid (show ∀ y ∈ qs, y.text.length + ([36] : List UInt8).length ≤ 1000000 from fun y hy => by have := HI.out.sm.txt y hy; simp; omega)
              have HSQ := Lib.hid (show Sm (Lx.addP qs 1 [36]) (p + m) from HI.out.sm.add 1 [36] (M := m) (by simpa using hm1) hm1)
              have HM := Lib.hid (show p + m ≤ l.length ∧ 1 ≤ m from by omega)
              clear hvb h1 h2 HLL2 HL2 hm1 hm2
              go_wp2_with fail
              refine HDO.out.mono ?_
              rw [H2.out]
              rintro e w5 ⟨rfl, rfl⟩
              go_wp2_with fail
              refine (radd_any a1 n1 c1 qs 1 [36] _ HI.out.parts HLE.out HTE.out).mono ?_
              rintro e w6 ⟨a6, n6, c6, rfl, P6, C6, B6⟩
              have HI6 := Lib.hid (HI.out.added P6 C6 B6 (p + m) HSQ.out HM.out.1)
              clear P6 C6 B6
              go_wp2
              go_roundg g
              case measure => omega
              case rel => exact ⟨p + m, _, a6, n6, c6, by have := HG.out; have := HM.out; omega, by go_num, rfl, HI6.out, hb⟩
            · rw [h1] at hvb
              have hb := Lib.hid (show R = Lx.quotP q g (l.drop (p + m)) (p + m) (Lx.addP qs 3 y) from by
                rw [← List.drop_drop, HBT.out]; exact hvb.out)
              have H2 := Lib.hid h2
              have HLE := Lib.hid (show qs.length ≤ 1000000 from by have := HI.out.sm.len; omega)
              have HTE := Lib.hid (show ∀ z ∈ qs, z.text.length + y.length ≤ 1000000 from fun z hz => by have := HI.out.sm.txt z hz; omega)
              have HSQ := Lib.hid (show Sm (Lx.addP qs 3 y) (p + m) from HI.out.sm.add 3 y (M := m) (by omega) hm1)
              have HM := Lib.hid (show p + m ≤ l.length ∧ 1 ≤ m from by omega)
              clear hvb h1 h2 HLL2 HL2 hm1 hm2 hm3
              go_wp2_with fail
              refine HDO.out.mono ?_
              rw [H2.out]
              rintro e w5 ⟨rfl, rfl⟩
              go_wp2_with fail
              refine (radd_any a1 n1 c1 qs 3 y _ HI.out.parts HLE.out HTE.out).mono ?_
              rintro e w6 ⟨a6, n6, c6, rfl, P6, C6, B6⟩
              have HI6 := Lib.hid (HI.out.added P6 C6 B6 (p + m) HSQ.out HM.out.1)
              clear P6 C6 B6
              go_wp2
              go_roundg g
              case measure => omega
              case rel => exact ⟨p + m, _, a6, n6, c6, by have := HG.out; have := HM.out; omega, by go_num, rfl, HI6.out, hb⟩
          · have e36 : ((x : Int) == 36) = false := by rw [beq_eq_false_iff_ne]; omega
            have b1 : (0 : Int) ≤ (p : Int) + 1 := by omega
            have b2 : (p : Int) + 1 ≤ (l.length : Int) := by omega
            have b3 : (p : Int) ≤ (p : Int) + 1 := by omega
            have hex := Lib.hid (show (Lx.strB l).extract p (p + 1) = Lx.strB [b] from by
              rw [Lx.strB_extract, show p + 1 - p = 1 from by omega, HBT.out]; rfl)
            have HLE := Lib.hid (show qs.length ≤ 1000000 from by have := HI.out.sm.len; omega)
            have HTE := Lib.hid (show ∀ (d : UInt8), ∀ y ∈ qs, y.text.length + ([d] : List UInt8).length ≤ 1000000 from fun d y hy => by have := HI.out.sm.txt y hy; simp; omega)
            have HSQ := Lib.hid (show ∀ (d : UInt8) (j : Nat), 1 ≤ j → Sm (Lx.addP qs 1 [d]) (p + j) from fun d j hj => HI.out.sm.add 1 [d] (M := j) (by simpa using hj) hj)
            have hn34 := Lib.hid (show ¬ b = 34 from fun e => h34 ((HB8.out 34).1 e))
            have hn36 := Lib.hid (show ¬ b = 36 from fun e => h36 ((HB8.out 36).1 e))
            clear h34 h36
            by_cases h92 : x = 92
            · by_cases hp2 : p + 1 < l.length
              · obtain ⟨d, t3, htd⟩ : ∃ d t3, t2 = d :: t3 := by
                  have := HLL.out
                  cases t2 with
                  | nil => simp at this; omega
                  | cons d t3 => exact ⟨d, t3, rfl⟩
                obtain ⟨y, hdy⟩ : ∃ y, d.toNat = y := ⟨_, rfl⟩
                have hy : ∀ h, ((Lx.strB l)[p + 1]'h).toNat = y := fun h => by
                  have h5 := drop_at l (p + 1) hp2
                  rw [HDT.out, htd] at h5
                  rw [Lx.strB_get, ← hdy, (List.cons.inj h5).1]
                have d8 : ∀ z : UInt8, d = z ↔ y = z.toNat := fun z => ⟨fun e => by rw [← hdy, e], fun e => UInt8.toNat_inj.1 (hdy.trans e)⟩
                have hpd3 : decide (p + 1 < l.length) = true := decide_eq_true hp2
                have hpd4 : decide ((p : Int) + 1 < (l.length : Int)) = true := decide_eq_true (by omega)
                have b4 : (p : Int) + 1 < (l.length : Int) := by omega
                have b5 : (p : Int) + 2 ≤ (l.length : Int) := by omega
                have b6 : (p : Int) + 1 ≤ (p : Int) + 2 := by omega
                have b7 : (0 : Int) ≤ (p : Int) + 2 := by omega
                have e92 : ((x : Int) == 92) = true := by rw [beq_iff_eq]; omega
                have hes : Lx.escB t2 = (y == 34 || y == 92 || y == 36) := by
                  rw [htd]
                  show ((d == 34 || d == 92) || d == 36) = _
                  congr 1
                  · congr 1
                    · rw [Bool.eq_iff_iff, beq_iff_eq, beq_iff_eq]; exact d8 34
                    · rw [Bool.eq_iff_iff, beq_iff_eq, beq_iff_eq]; exact d8 92
                  · rw [Bool.eq_iff_iff, beq_iff_eq, beq_iff_eq]; exact d8 36
                have HT2 := Lib.hid htd
                have HES := Lib.hid hes
                have H92 := Lib.hid ((HB8.out 92).2 h92)
                clear hes d8 hdy htd h92
                by_cases hesc : y = 34 ∨ y = 92 ∨ y = 36
                · have hb := Lib.hid (show R = Lx.quotP q g (l.drop (p + 2)) (p + 2) (Lx.addP qs 1 [d]) from by
                    rw [hr.out, quotP_cons, if_neg hn34.out, if_neg hn36.out, if_pos ⟨H92.out, by
                      rw [HES.out]
                      rcases hesc with h | h | h <;> simp [h]⟩, show p + 2 = (p + 1) + 1 from rfl, ← List.drop_drop, HDT.out, HT2.out]
                    rfl)
                  have hex3 := Lib.hid (show (Lx.strB l).extract (p + 1) (p + 2) = Lx.strB [d] from by
                    rw [Lx.strB_extract, show p + 2 - (p + 1) = 1 from by omega, HDT.out, HT2.out]; rfl)
                  clear hr
                  rcases hesc with h | h | h
                  · have d1 : ((y : Int) == 34) = true := by rw [beq_iff_eq]; omega
                    clear h hp2
                    have hx5 := hex3.out
                    go_wp2_with fail
                    refine (radd_any a1 n1 c1 qs 1 [d] _ HI.out.parts HLE.out (HTE.out d)).mono ?_
                    rintro e w6 ⟨a6, n6, c6, rfl, P6, C6, B6⟩
                    have HI6 := Lib.hid (HI.out.added P6 C6 B6 (p + 2) (HSQ.out d 2 (by omega)) (by omega))
                    clear P6 C6 B6
                    go_wp2
                    go_roundg g
                    case measure => omega
                    case rel => exact ⟨p + 2, _, a6, n6, c6, by have := HG.out; omega, by go_num, rfl, HI6.out, hb⟩
                  · have d1 : ((y : Int) == 34) = false := by rw [beq_eq_false_iff_ne]; omega
                    have d2 : ((y : Int) == 92) = true := by rw [beq_iff_eq]; omega
                    clear h hp2
                    have hx5 := hex3.out
                    go_wp2_with fail
                    refine (radd_any a1 n1 c1 qs 1 [d] _ HI.out.parts HLE.out (HTE.out d)).mono ?_
                    rintro e w6 ⟨a6, n6, c6, rfl, P6, C6, B6⟩
                    have HI6 := Lib.hid (HI.out.added P6 C6 B6 (p + 2) (HSQ.out d 2 (by omega)) (by omega))
                    clear P6 C6 B6
                    go_wp2
                    go_roundg g
                    case measure => omega
                    case rel => exact ⟨p + 2, _, a6, n6, c6, by have := HG.out; omega, by go_num, rfl, HI6.out, hb⟩
                  · have d1 : ((y : Int) == 34) = false := by rw [beq_eq_false_iff_ne]; omega
                    have d2 : ((y : Int) == 92) = false := by rw [beq_eq_false_iff_ne]; omega
                    have d3 : ((y : Int) == 36) = true := by rw [beq_iff_eq]; omega
                    clear h hp2
                    have hx5 := hex3.out
                    go_wp2_with fail
                    refine (radd_any a1 n1 c1 qs 1 [d] _ HI.out.parts HLE.out (HTE.out d)).mono ?_
                    rintro e w6 ⟨a6, n6, c6, rfl, P6, C6, B6⟩
                    have HI6 := Lib.hid (HI.out.added P6 C6 B6 (p + 2) (HSQ.out d 2 (by omega)) (by omega))
                    clear P6 C6 B6
                    go_wp2
                    go_roundg g
                    case measure => omega
                    case rel => exact ⟨p + 2, _, a6, n6, c6, by have := HG.out; omega, by go_num, rfl, HI6.out, hb⟩
                · have hb := Lib.hid (show R = Lx.quotP q g (l.drop (p + 1)) (p + 1) (Lx.addP qs 1 [b]) from by
                    rw [hr.out, quotP_cons, if_neg hn34.out, if_neg hn36.out, if_neg (by
                      rintro ⟨_, h⟩
                      rw [HES.out] at h
                      simp at h
                      omega), HDT.out])
                  have d1 : ((y : Int) == 34) = false := by rw [beq_eq_false_iff_ne]; omega
                  have d2 : ((y : Int) == 92) = false := by rw [beq_eq_false_iff_ne]; omega
                  have d3 : ((y : Int) == 36) = false := by rw [beq_eq_false_iff_ne]; omega
                  clear hr hesc
                  have hx5 := hex.out
                  go_wp2_with fail
                  refine (radd_any a1 n1 c1 qs 1 [b] _ HI.out.parts HLE.out (HTE.out b)).mono ?_
                  rintro e w6 ⟨a6, n6, c6, rfl, P6, C6, B6⟩
                  have HI6 := Lib.hid (HI.out.added P6 C6 B6 (p + 1) (HSQ.out b 1 (by omega)) (by omega))
                  clear P6 C6 B6
                  go_wp2
                  go_roundg g
                  case measure => omega
                  case rel => exact ⟨p + 1, _, a6, n6, c6, by have := HG.out; omega, by go_num, rfl, HI6.out, hb⟩
              · have hpd3 : decide (p + 1 < l.length) = false := decide_eq_false hp2
                have hpd4 : decide ((p : Int) + 1 < (l.length : Int)) = false := decide_eq_false (by omega)
                have e92 : ((x : Int) == 92) = true := by rw [beq_iff_eq]; omega
                have ht2 : t2 = [] := List.eq_nil_of_length_eq_zero (by have := HLL.out; omega)
                have hb := Lib.hid (show R = Lx.quotP q g (l.drop (p + 1)) (p + 1) (Lx.addP qs 1 [b]) from by
                  rw [hr.out, quotP_cons, if_neg hn34.out, if_neg hn36.out, if_neg (by
                    rintro ⟨_, h⟩
                    rw [ht2] at h
                    cases h), HDT.out])
                clear hr ht2 h92 hp2
                have hx5 := hex.out
                go_wp2_with fail
                refine (radd_any a1 n1 c1 qs 1 [b] _ HI.out.parts HLE.out (HTE.out b)).mono ?_
                rintro e w6 ⟨a6, n6, c6, rfl, P6, C6, B6⟩
                have HI6 := Lib.hid (HI.out.added P6 C6 B6 (p + 1) (HSQ.out b 1 (by omega)) (by omega))
                clear P6 C6 B6
                go_wp2
                go_roundg g
                case measure => omega
                case rel => exact ⟨p + 1, _, a6, n6, c6, by have := HG.out; omega, by go_num, rfl, HI6.out, hb⟩
            · have e92 : ((x : Int) == 92) = false := by rw [beq_eq_false_iff_ne]; omega
              have hb := Lib.hid (show R = Lx.quotP q g (l.drop (p + 1)) (p + 1) (Lx.addP qs 1 [b]) from by
                rw [hr.out, quotP_cons, if_neg hn34.out, if_neg hn36.out, if_neg (fun e => h92 ((HB8.out 92).1 e.1)), HDT.out])
              clear hr h92
              have hx5 := hex.out
              go_wp2_with fail
              refine (radd_any a1 n1 c1 qs 1 [b] _ HI.out.parts HLE.out (HTE.out b)).mono ?_
              rintro e w6 ⟨a6, n6, c6, rfl, P6, C6, B6⟩
              have HI6 := Lib.hid (HI.out.added P6 C6 B6 (p + 1) (HSQ.out b 1 (by omega)) (by omega))
              clear P6 C6 B6
              go_wp2
              go_roundg g
              case measure => omega
              case rel => exact ⟨p + 1, _, a6, n6, c6, by have := HG.out; omega, by go_num, rfl, HI6.out, hb⟩
    · have hpd : decide (p < l.length) = false := decide_eq_false hp
      have hpd2 : decide (l.length ≤ p) = true := decide_eq_true (by omega)
      have hb := Lib.hid (show R = .bad q from by
        rw [hr.out, List.drop_of_length_le (by omega)]
        cases gk <;> rfl)
      clear hr hg
      go_wp2
      refine bodyPost_ret (v := .agg #[.slice none 0 0, .int .i64 (q : Int), .int .i64 10]) (by simp [results, Tryd.results49, go_sem, HI.out.res.r0, HI.out.res.r1, HI.out.res.r2]) rfl ?_
      rw [hb.out]
      exact HI.out.bad _ _ _ q

end Go.Proofs.YtfgbbmnmblchiaaDoor
