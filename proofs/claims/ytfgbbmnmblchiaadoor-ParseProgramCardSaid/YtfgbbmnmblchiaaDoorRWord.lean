/-
  The document's word: walked.
-/
import Derived.Test.YtfgbbmnmblchiaaDoorRDouble
namespace Go.Proofs.YtfgbbmnmblchiaaDoor
open Go.RowKit
set_option linter.unusedVariables false

theorem idx_stop : ∀ (t : List UInt8) (k : Nat), (∀ j, j < k → t.getD j 0 ≠ 39) → k ≤ t.length → (k = t.length → Lx.idx 39 t = none) ∧ (k < t.length → t.getD k 0 = 39 → Lx.idx 39 t = some k)
  | [], k, _, hk => ⟨fun _ => rfl, fun h => by simp at h⟩
  | c :: t, 0, _, _ => ⟨fun h => by simp at h, fun _ h => by
      have : c = 39 := h
      subst this
      simp [Lx.idx, List.findIdx?_cons]⟩
  | c :: t, k + 1, ha, hk => by
    have h0 : c ≠ 39 := ha 0 (by omega)
    obtain ⟨i1, i2⟩ := idx_stop t k (fun j hj => ha (j + 1) (by omega)) (by simpa using hk)
    have e : Lx.idx 39 (c :: t) = (Lx.idx 39 t).map (· + 1) := by
      unfold Lx.idx
      rw [List.findIdx?_cons, if_neg (by simpa using h0)]
    rw [e]
    refine ⟨fun h => ?_, fun h1 h2 => ?_⟩
    · rw [i1 (by simpa using h)]; rfl
    · rw [i2 (by simpa using h1) h2]; rfl

theorem doub_bad {w W : World} {rb : Nat} {v : Value} (hc : Chg (rowBlock v) w W) (hn : w.heap.size ≤ rb) (x y z : Value) (i : Nat) (o : Obj) :
    DoubPost w v (.bad i) (.returned (.agg #[.slice none 0 0, .int .i64 i, .int .i64 10])) ((((W.setCell ⟨rb, 0, none⟩ x).setCell ⟨rb, 1, none⟩ y).setCell ⟨rb, 2, none⟩ z).alloc o) := by
  have h3 : Chg [rb] W (((W.setCell ⟨rb, 0, none⟩ x).setCell ⟨rb, 1, none⟩ y).setCell ⟨rb, 2, none⟩ z) := (((Chg.refl [rb] W).setCell _ _ (.inl (by simp))).setCell _ _ (.inl (by simp))).setCell _ _ (.inl (by simp))
  exact ⟨rfl, (hc.trans h3 (fun k hk => by simp at hk; subst hk; exact .inr hn)).alloc _⟩

set_option maxHeartbeats 8000000 in
set_option maxRecDepth 100000 in
theorem rword_any (l : List UInt8) (q : Nat) (w : World) (hq : q ≤ l.length) (hl : l.length ≤ 2048) :
    Calls Tryd.prog 33 #[.string (Lx.strB l), .int .i64 q] w (DoubPost w (.slice none 0 0) (Lx.wordP (l.length + 1) (l.drop q) q [])) := by
  obtain ⟨R, hQ⟩ : ∃ R, Lx.wordP (l.length + 1) (l.drop q) q [] = R := ⟨_, rfl⟩
  have HQ0 := Lib.hid hQ.symm
  rw [hQ]
  have hsz := Lx.strB_size l
  have HI0 := Lib.hid (show DoubAt w w.heap.size l (.slice none 0 0) q [] none 0 0 (w.alloc (.cells #[.slice none 0 0, .int .i64 0, .int .i64 0] 100)) from
    { res := obj_alloc_new w _, parts := PartsR.nil _ _, out := by simp [rowBlock], new := Nat.le_refl _, chg := (Chg.refl _ w).alloc _, row := by simp [rowBlock], sm := Sm.nil _, le := hq })
  have HL := Lib.hid hl
  have q0 : (0 : Int) ≤ (q : Int) := by omega
  have q1 : (q : Int) ≤ 2048 := by omega
  clear hl hQ hq
  go_enter Tryd.func33, Tryd.ntmps33
  go_wp2_with fail
  generalize w.heap.size = rb at *
  go_loopg [1, 5] (l.length + 1) (fun g c1 c5 wr => ∃ (p : Nat) (ps' : List Lx.Part) (a' : Option Addr) (n' c' : Nat), l.length < p + g ∧ c1 = .int .i64 p ∧ c5 = .slice a' n' c' ∧ DoubAt w rb l (.slice none 0 0) p ps' a' n' c' wr ∧ Hid (R = Lx.wordP g (l.drop p) p ps'))
  case atStart => exact ⟨q, [], none, 0, 0, by omega, rfl, rfl, HI0.out, HQ0⟩
  case round =>
    obtain ⟨p, qs, a1, n1, c1, hg, rfl, rfl, hI, hr⟩ := hrel
    clear HI0 HQ0
    have hle := hI.le
    have HI := Lib.hid hI
    have x0 := cell_of_obj hI.res (j := 0) rfl
    have x1 := cell_of_obj hI.res (j := 1) rfl
    have x2 := cell_of_obj hI.res (j := 2) rfl
    have f0 := free_of_obj hI.res 0
    have f1 := free_of_obj hI.res 1
    have f2 := free_of_obj hI.res 2
    clear hI
    have hL := HL.out
    have p0 : (0 : Int) ≤ (p : Int) := by omega
    have p1 : (p : Int) ≤ 2048 := by omega
    clear hL
    by_cases hp : p < l.length
    · have hpd : decide (p < l.length) = true := decide_eq_true hp
      cases gk with
      | zero => omega
      | succ g =>
        obtain ⟨b, t2, hbt⟩ : ∃ b t2, l.drop p = b :: t2 := ⟨_, _, drop_at l p hp⟩
        obtain ⟨x, hbx⟩ : ∃ x, b.toNat = x := ⟨_, rfl⟩
        have hx : ∀ h, ((Lx.strB l)[p]'h).toNat = x := fun h => by
          rw [Lx.strB_get]
          have := drop_at l p hp
          rw [hbt] at this
          exact (congrArg UInt8.toNat (List.cons.inj this).1.symm).trans hbx
        have p2 : (p : Int) < (l.length : Int) := by omega
        have hb8 : ∀ y : UInt8, b = y ↔ x = y.toNat := fun y => ⟨fun e => by rw [← hbx, e], fun e => UInt8.toNat_inj.1 (hbx.trans e)⟩
        have hll : l.length = p + (t2.length + 1) := by
          have := congrArg List.length hbt
          rw [List.length_drop, List.length_cons] at this
          omega
        have hdt : l.drop (p + 1) = t2 := by rw [← List.drop_drop, hbt]; rfl
        have hen := rends_any b x hbx wr
        rw [hbt] at hr
        have HBT := Lib.hid hbt
        have HB8 := Lib.hid hb8
        have HG := Lib.hid hg
        have HLL := Lib.hid hll
        have HDT := Lib.hid hdt
        clear hbt hb8 hbx hg hll hdt
        obtain ⟨eb, heb⟩ : ∃ eb, Lx.endB b = eb := ⟨_, rfl⟩
        rw [heb] at hen
        have HEN := Lib.hid hen
        have HEB := Lib.hid heb
        clear hen heb
        cases eb with
        | true =>
          have hb := Lib.hid (show R = .ok (qs, p) from by rw [hr.out, wordP_cons, if_pos HEB.out])
          clear hr
          go_wp2_with fail
          refine HEN.out.mono ?_
          rintro e w' ⟨rfl, rfl⟩
          go_wp2
          refine bodyPost_ret (v := .agg #[.slice a1 n1 c1, .int .i64 (p : Int), .int .i64 0]) (by simp [results, Tryd.results33, go_sem, HI.out.res.r0, HI.out.res.r1, HI.out.res.r2]) rfl ?_
          rw [hb.out]
          exact HI.out.done _ _ _ p
        | false =>
          have hbe : ¬ Lx.endB b = true := by rw [HEB.out]; simp
          have hr2 := hr.out
          rw [wordP_cons, if_neg hbe] at hr2
          have HR2 := Lib.hid hr2
          clear hr hr2 hbe
          have b1 : (0 : Int) ≤ (p : Int) + 1 := by omega
          have b2 : (p : Int) + 1 ≤ (l.length : Int) := by omega
          have b3 : (p : Int) ≤ (p : Int) + 1 := by omega
          have HLE := Lib.hid (show qs.length ≤ 1000000 from by have := HI.out.sm.len; omega)
          have HTE := Lib.hid (show ∀ (d : List UInt8), d.length ≤ 2048 → ∀ y ∈ qs, y.text.length + d.length ≤ 1000000 from fun d hd y hy => by have := HI.out.sm.txt y hy; omega)
          have HSQ := Lib.hid (show ∀ (k : Int) (d : List UInt8) (j : Nat), d.length ≤ j → 1 ≤ j → Sm (Lx.addP qs k d) (p + j) from fun k d j hd hj => HI.out.sm.add k d (M := j) hd hj)
          by_cases h39 : x = 39
          · have hr3 := HR2.out
            rw [if_pos ((HB8.out 39).2 h39)] at hr3
            subst h39
            have HR3 := Lib.hid hr3
            clear HR2 hr3
            have l1 : (l.length : Int) ≤ 2048 := by have := HL.out; omega
            go_wp2_with fail
            refine HEN.out.mono ?_
            rintro e w' ⟨rfl, rfl⟩
            go_wp2_with fail
            go_loopg [6] (l.length + 1) (fun g6 c6 wx => ∃ k : Nat, l.length < k + g6 ∧ p + 1 ≤ k ∧ k ≤ l.length ∧ c6 = .int .i64 k ∧ wx = wr ∧ Hid (∀ j, j < k - (p + 1) → t2.getD j 0 ≠ 39))
            case atStart => exact ⟨p + 1, by omega, by omega, by omega, by go_num, rfl, Lib.hid (fun j hj => by omega)⟩
            case round =>
              obtain ⟨k, hg6, hpk, hkl, rfl, rfl, ha⟩ := hrel
              have k0 : (0 : Int) ≤ (k : Int) := by omega
              have k1 : (k : Int) ≤ 2048 := by have := HL.out; omega
              by_cases hlt : k < l.length
              · have hkd : decide (k < l.length) = true := decide_eq_true hlt
                have hkd2 : decide (l.length ≤ k) = false := decide_eq_false (by omega)
                have k2 : (k : Int) < (l.length : Int) := by omega
                obtain ⟨y, hy0⟩ : ∃ y, (l.getD k 0).toNat = y := ⟨_, rfl⟩
                have hy : ∀ h, ((Lx.strB l)[k]'h).toNat = y := fun h => by rw [Lx.strB_get]; exact hy0
                have hty : t2.getD (k - (p + 1)) 0 = l.getD k 0 := by rw [← HDT.out, getD_drop', show p + 1 + (k - (p + 1)) = k from by omega]
                by_cases h39 : y = 39
                · have e1 : ((y : Int) != 39) = false := by rw [bne_eq_false_iff_eq]; omega
                  have e2 : ((y : Int) == 39) = true := by rw [beq_iff_eq]; omega
                  have hid := (idx_stop t2 (k - (p + 1)) ha.out (by have := HLL.out; omega)).2 (by have := HLL.out; omega) (by rw [hty]; exact UInt8.toNat_inj.1 (by rw [hy0, h39]; rfl))
                  have hr4 := HR3.out
                  rw [hid] at hr4
                  have hb := Lib.hid (show R = Lx.wordP g (l.drop (k + 1)) (k + 1) (Lx.addP qs 1 (t2.take (k - (p + 1)))) from by
                    refine hr4.trans ?_
                    show Lx.wordP g (t2.drop (k - (p + 1) + 1)) (p + (k - (p + 1)) + 2) _ = _
                    rw [show p + (k - (p + 1)) + 2 = k + 1 from by omega, ← HDT.out, List.drop_drop, show p + 1 + (k - (p + 1) + 1) = k + 1 from by omega])
                  have hx5 := Lib.hid (show (Lx.strB l).extract (p + 1) k = Lx.strB (t2.take (k - (p + 1))) from by rw [Lx.strB_extract, HDT.out])
                  have k3 : (p : Int) + 1 ≤ (k : Int) := by omega
                  have k4 : (k : Int) ≤ (l.length : Int) := by omega
                  have HK := Lib.hid (show p + 1 ≤ k ∧ k < l.length from by omega)
                  clear hid hr4 HR3 hty hy0 h39 ha hg6 hpk hkl
                  have xx5 := hx5.out
                  go_wp2_with fail
                  refine (radd_any a1 n1 c1 qs 1 (t2.take (k - (p + 1))) _ HI.out.parts HLE.out (HTE.out (t2.take (k - (p + 1))) (by rw [List.length_take]; omega))).mono ?_
                  rintro e w6 ⟨a6, n6, c6, rfl, P6, C6, B6⟩
                  have HI6 := Lib.hid (HI.out.added P6 C6 B6 (k + 1) (by have := HK.out; rw [show k + 1 = p + (k + 1 - p) from by omega]; exact HSQ.out 1 (t2.take (k - (p + 1))) (k + 1 - p) (by rw [List.length_take]; omega) (by omega)) (by have := HK.out; omega))
                  clear P6 C6 B6
                  go_wp2
                  go_roundg g
                  case measure => omega
                  case rel => exact ⟨k + 1, _, a6, n6, c6, by have := HG.out; have := HK.out; omega, by go_num, rfl, HI6.out, hb⟩
                · have e1 : ((y : Int) != 39) = true := by rw [bne_iff_ne]; omega
                  have e2 : ((y : Int) == 39) = false := by rw [beq_eq_false_iff_ne]; omega
                  have HA2 := Lib.hid (show ∀ j, j < k + 1 - (p + 1) → t2.getD j 0 ≠ 39 from fun j hj => by
                    by_cases hjk : j = k - (p + 1)
                    · subst hjk
                      rw [hty]
                      rintro h
                      rw [h] at hy0
                      exact h39 hy0.symm
                    · exact ha.out j (by omega))
                  have HG6 := Lib.hid hg6
                  clear hty hy0 h39 ha hg6
                  cases gk with
                  | zero => have := HG6.out; omega
                  | succ g6 =>
                    go_wp2
                    go_roundg g6
                    case measure => omega
                    case rel => exact ⟨k + 1, by have := HG6.out; omega, by omega, by omega, by go_num, rfl, HA2⟩
              · obtain rfl : k = l.length := by omega
                have hkd : decide (l.length < l.length) = false := decide_eq_false (by omega)
                have hkd2 : decide (l.length ≤ l.length) = true := decide_eq_true (by omega)
                have hid := (idx_stop t2 (l.length - (p + 1)) ha.out (by have := HLL.out; omega)).1 (by have := HLL.out; omega)
                have hr4 := HR3.out
                rw [hid] at hr4
                have hb := Lib.hid (show R = .bad p from hr4)
                clear hid hr4 HR3 ha hg6
                go_wp2
                refine bodyPost_ret (v := .agg #[.slice none 0 0, .int .i64 (p : Int), .int .i64 10]) (by simp [results, Tryd.results33, go_sem, HI.out.res.r0, HI.out.res.r1, HI.out.res.r2]) rfl ?_
                rw [hb.out]
                exact HI.out.bad _ _ _ p
          · have e39 : ((x : Int) == 39) = false := by rw [beq_eq_false_iff_ne]; omega
            have N39 := Lib.hid (show ¬ b = 39 from fun e => h39 ((HB8.out 39).1 e))
            clear h39
            by_cases h34 : x = 34
            · have hr3 := HR2.out
              rw [if_neg N39.out, if_pos ((HB8.out 34).2 h34)] at hr3
              subst h34
              have HDB := Lib.hid (rdouble_any l p a1 n1 c1 qs t2 wr HI.out.parts HDT.out hp HL.out HI.out.sm)
              obtain ⟨V, hV⟩ : ∃ V, Lx.quotP p (t2.length + 1) t2 (p + 1) qs = V := ⟨_, rfl⟩
              rw [hV] at hr3 HDB
              have HV := Lib.hid hV
              clear HR2 hV
              cases V with
              | bad i =>
                have hb := Lib.hid (show R = .bad i from hr3)
                clear hr3
                go_wp2_with fail
                refine HEN.out.mono ?_
                rintro e w' ⟨rfl, rfl⟩
                go_wp2_with fail
                refine HDB.out.mono ?_
                rintro e w5 ⟨rfl, hc5⟩
                have hres := hc5.obj HI.out.res HI.out.out
                have HRS := Lib.hid (show ResAt w5 rb from hres)
                have HC5 := Lib.hid (HI.out.chg.trans hc5 (fun k hk => HI.out.row k hk))
                have y0 := fun (o : Obj) => cell_of_obj (obj_alloc_old hres o) (j := 0) rfl
                have g0 := fun (o : Obj) => free_of_obj (obj_alloc_old hres o) 0
                have y1 := fun (x : Value) (o : Obj) => cell_of_obj (obj_alloc_old (obj_setCell hres 0 x) o) (j := 1) rfl
                have g1 := fun (x : Value) (o : Obj) => free_of_obj (obj_alloc_old (obj_setCell hres 0 x) o) 1
                have y2 := fun (x y : Value) (o : Obj) => cell_of_obj (obj_alloc_old (obj_setCell (obj_setCell hres 0 x) 1 y) o) (j := 2) rfl
                have g2 := fun (x y : Value) (o : Obj) => free_of_obj (obj_alloc_old (obj_setCell (obj_setCell hres 0 x) 1 y) o) 2
                have R0 := Lib.hid (fun (x y z : Value) (o : Obj) => cell_of_obj (obj_alloc_old (obj_setCell (obj_setCell (obj_setCell hres 0 x) 1 y) 2 z) o) (j := 0) (v := x) rfl)
                have R1 := Lib.hid (fun (x y z : Value) (o : Obj) => cell_of_obj (obj_alloc_old (obj_setCell (obj_setCell (obj_setCell hres 0 x) 1 y) 2 z) o) (j := 1) (v := y) rfl)
                have R2 := Lib.hid (fun (x y z : Value) (o : Obj) => cell_of_obj (obj_alloc_old (obj_setCell (obj_setCell (obj_setCell hres 0 x) 1 y) 2 z) o) (j := 2) (v := z) rfl)
                have hlt : rb < w5.heap.size := lt_of_obj hres
                have hneq : ¬ w5.heap.size = rb := by omega
                have HNW := Lib.hid HI.out.new
                clear hc5 hres x0 x1 x2 f0 f1 f2
                go_wp2_with fail
                refine bodyPost_ret (v := .agg #[.slice none 0 0, .int .i64 (i : Int), .int .i64 10]) (by simp [results, Tryd.results33, go_sem, R0.out, R1.out, R2.out]) rfl ?_
                rw [hb.out]
                exact doub_bad HC5.out HNW.out _ _ _ i _
              | ok pr =>
                obtain ⟨ps5, p5⟩ := pr
                have hqo := quotP_ok p _ _ _ _ _ _ (HI.out.sm.mono (by omega)) HV.out
                have HQO := Lib.hid hqo
                have hb := Lib.hid (show R = Lx.wordP g (l.drop p5) p5 ps5 from by
                  refine hr3.trans ?_
                  show Lx.wordP g ((b :: t2).drop (p5 - p)) p5 ps5 = _
                  rw [← HBT.out, List.drop_drop, show p + (p5 - p) = p5 from by omega])
                clear hr3 hqo
                go_wp2_with fail
                refine HEN.out.mono ?_
                rintro e w' ⟨rfl, rfl⟩
                go_wp2_with fail
                refine HDB.out.mono ?_
                rintro e w5 ⟨a5, n5, c5, rfl, hp5, hc5, hb5⟩
                have HI5 := Lib.hid (HI.out.added hp5 hc5 hb5 p5 HQO.out.2.2 (by have := HQO.out; have := HLL.out; omega))
                clear hp5 hc5 hb5 x0 x1 x2 f0 f1 f2
                go_wp2
                go_roundg g
                case measure => omega
                case rel => exact ⟨p5, _, a5, n5, c5, by have := HG.out; have := HQO.out; omega, rfl, rfl, HI5.out.kept0 ((Chg.refl [] _).alloc _), hb⟩
            · have e34 : ((x : Int) == 34) = false := by rw [beq_eq_false_iff_ne]; omega
              have N34 := Lib.hid (show ¬ b = 34 from fun e => h34 ((HB8.out 34).1 e))
              clear h34
              by_cases h92 : x = 92
              · have hr3 := HR2.out
                rw [if_neg N39.out, if_neg N34.out, if_neg (fun e => by have : x = 36 := (HB8.out 36).1 e; omega), if_pos ((HB8.out 92).2 h92)] at hr3
                subst h92
                have HR3 := Lib.hid hr3
                clear HR2 hr3
                by_cases hp2 : p + 1 < l.length
                · have hne : t2 ≠ [] := by intro e; have := HLL.out; rw [e] at this; simp at this; omega
                  have HSI := Lib.hid (rsize_any l (p + 1) hp2 (by have := HL.out; omega) wr)
                  rw [HDT.out] at HSI
                  have hwp := Lx.wid_pos t2 hne
                  have hwl := Lx.wid_le t2 hne
                  obtain ⟨d, t3, htd⟩ : ∃ d t3, t2 = d :: t3 := by
                    cases t2 with
                    | nil => exact absurd rfl hne
                    | cons d t3 => exact ⟨d, t3, rfl⟩
                  obtain ⟨y, hdy⟩ : ∃ y, d.toNat = y := ⟨_, rfl⟩
                  have hy : ∀ h, ((Lx.strB l)[p + 1]'h).toNat = y := fun h => by
                    have h5 := drop_at l (p + 1) hp2
                    rw [HDT.out, htd] at h5
                    rw [Lx.strB_get, ← hdy, (List.cons.inj h5).1]
                  have hh : t2.head? = some 10 ↔ y = 10 := by
                    rw [htd, List.head?_cons]
                    constructor
                    · intro e
                      rw [← hdy, Option.some.inj e]; rfl
                    · intro e
                      have : d = 10 := UInt8.toNat_inj.1 (hdy.trans e)
                      rw [this]
                  obtain ⟨m, hm⟩ : ∃ m, Lx.wid t2 = m := ⟨_, rfl⟩
                  have hr4 := HR3.out
                  rw [if_neg hne, hm] at hr4
                  rw [hm] at HSI hwp hwl
                  have HB := Lib.hid (show R = Lx.wordP g (l.drop (p + 1 + m)) (p + 1 + m) (if t2.head? = some 10 then qs else Lx.addP qs 1 (t2.take m)) from by
                    rw [hr4, ← List.drop_drop, HDT.out])
                  have HH := Lib.hid hh
                  have hll := HLL.out
                  have m0 : (0 : Int) ≤ (m : Int) := by omega
                  have m1 : (m : Int) ≤ 2048 := by have := HL.out; omega
                  have m3 : (p : Int) + 1 + (m : Int) ≤ (l.length : Int) := by omega
                  have m4 : (p : Int) + 1 ≤ (p : Int) + 1 + (m : Int) := by omega
                  have m5 : (0 : Int) ≤ (p : Int) + 1 + (m : Int) := by omega
                  have HML := Lib.hid (show p + 1 + m ≤ l.length from by omega)
                  have hpd5 : decide (l.length ≤ p + 1) = false := decide_eq_false (by omega)
                  have hpd6 : decide ((l.length : Int) ≤ (p : Int) + 1) = false := decide_eq_false (by omega)
                  have b4 : (p : Int) + 1 < (l.length : Int) := by omega
                  clear hr4 hh hm hdy htd hne hwp hwl hll HR3
                  by_cases h10 : y = 10
                  · have hb := Lib.hid (show R = Lx.wordP g (l.drop (p + 1 + m)) (p + 1 + m) qs from by rw [HB.out, if_pos (HH.out.2 h10)])
                    subst h10
                    clear HB HH
                    go_wp2_with fail
                    refine HEN.out.mono ?_
                    rintro e w' ⟨rfl, rfl⟩
                    go_wp2_with fail
                    refine HSI.out.mono ?_
                    rintro e w5 ⟨rfl, hc5⟩
                    have HI5 := Lib.hid ((HI.out.kept0 hc5).moved (p + 1 + m) (by omega) HML.out)
                    clear hc5
                    go_wp2
                    go_roundg g
                    case measure => omega
                    case rel => exact ⟨p + 1 + m, _, a1, n1, c1, by have := HG.out; omega, by go_num, rfl, HI5.out, hb⟩
                  · have hb := Lib.hid (show R = Lx.wordP g (l.drop (p + 1 + m)) (p + 1 + m) (Lx.addP qs 1 (t2.take m)) from by rw [HB.out, if_neg (fun e => h10 (HH.out.1 e))])
                    have hyn : ((y : Int) != 10) = true := by rw [bne_iff_ne]; omega
                    clear HB HH h10
                    have hx5 := Lib.hid (show (Lx.strB l).extract (p + 1) (p + 1 + m) = Lx.strB (t2.take m) from by rw [Lx.strB_extract, show p + 1 + m - (p + 1) = m from by omega, HDT.out])
                    have hx6 := Lib.hid (show (Lx.strB l).extract (p + 1) ((p : Int) + 1 + (m : Int)).toNat = Lx.strB (t2.take m) from by rw [show ((p : Int) + 1 + (m : Int)).toNat = p + 1 + m from by omega]; exact hx5.out)
                    go_wp2_with fail
                    refine HEN.out.mono ?_
                    rintro e w' ⟨rfl, rfl⟩
                    go_wp2_with fail
                    refine HSI.out.mono ?_
                    rintro e w5 ⟨rfl, hc5⟩
                    have HI5 := Lib.hid (HI.out.kept0 hc5)
                    clear hc5
                    have xx5 := hx5.out
                    have xx6 := hx6.out
                    go_wp2_with fail
                    refine (radd_any a1 n1 c1 qs 1 (t2.take m) _ HI5.out.parts HLE.out (HTE.out (t2.take m) (by rw [List.length_take]; omega))).mono ?_
                    rintro e w6 ⟨a6, n6, c6, rfl, P6, C6, B6⟩
                    have HI6 := Lib.hid (HI5.out.added P6 C6 B6 (p + 1 + m) (by rw [show p + 1 + m = p + (1 + m) from by omega]; exact HSQ.out 1 (t2.take m) (1 + m) (by rw [List.length_take]; omega) (by omega)) HML.out)
                    clear P6 C6 B6
                    go_wp2
                    go_roundg g
                    case measure => omega
                    case rel => exact ⟨p + 1 + m, _, a6, n6, c6, by have := HG.out; omega, by go_num, rfl, HI6.out, hb⟩
                · have ht : t2 = [] := List.eq_nil_of_length_eq_zero (by have := HLL.out; omega)
                  have hb := Lib.hid (show R = .bad p from by rw [HR3.out, if_pos ht])
                  have hpd5 : decide (l.length ≤ p + 1) = true := decide_eq_true (by omega)
                  have hpd6 : decide ((l.length : Int) ≤ (p : Int) + 1) = true := decide_eq_true (by omega)
                  clear ht HR3 hp2
                  go_wp2_with fail
                  refine HEN.out.mono ?_
                  rintro e w' ⟨rfl, rfl⟩
                  go_wp2
                  refine bodyPost_ret (v := .agg #[.slice none 0 0, .int .i64 (p : Int), .int .i64 10]) (by simp [results, Tryd.results33, go_sem, HI.out.res.r0, HI.out.res.r1, HI.out.res.r2]) rfl ?_
                  rw [hb.out]
                  exact HI.out.bad _ _ _ p
              · have e92 : ((x : Int) == 92) = false := by rw [beq_eq_false_iff_ne]; omega
                have N92 := Lib.hid (show ¬ b = 92 from fun e => h92 ((HB8.out 92).1 e))
                clear h92
                by_cases h36 : x = 36
                · subst h36
                  have HLL2 := HLL.out
                  have HL2 := HL.out
                  have HDO := Lib.hid (rdollar_any l p b t2 wr HBT.out (by omega))
                  have hr3 := HR2.out
                  rw [if_neg N39.out, if_neg N34.out, if_pos ((HB8.out 36).2 rfl)] at hr3
                  clear HR2
                  rcases doll_cases qs 2 t2 p with ⟨h1, h2⟩ | ⟨m, h1, hm1, hm2, h2⟩ | ⟨m, y, h1, hm1, hm2, hm3, h2⟩
                  · rw [h1] at hr3
                    have hb := Lib.hid (show R = .bad p from hr3)
                    have H2 := Lib.hid h2
                    clear h1 h2 HLL2 HL2 hr3
                    go_wp2_with fail
                    refine HEN.out.mono ?_
                    rintro e w' ⟨rfl, rfl⟩
                    go_wp2_with fail
                    refine HDO.out.mono ?_
                    rw [H2.out]
                    rintro e w5 ⟨rfl, rfl⟩
                    go_wp2
                    refine bodyPost_ret (v := .agg #[.slice none 0 0, .int .i64 (p : Int), .int .i64 10]) (by simp [results, Tryd.results33, go_sem, HI.out.res.r0, HI.out.res.r1, HI.out.res.r2]) rfl ?_
                    rw [hb.out]
                    exact HI.out.bad _ _ _ p
                  · rw [h1] at hr3
                    have hb := Lib.hid (show R = Lx.wordP g (l.drop (p + m)) (p + m) (Lx.addP qs 1 [36]) from by
                      rw [← List.drop_drop, HBT.out]; exact hr3)
                    have H2 := Lib.hid h2
                    have HM := Lib.hid (show p + m ≤ l.length ∧ 1 ≤ m from by omega)
                    clear h1 h2 HLL2 HL2 hm1 hm2 hr3
                    go_wp2_with fail
                    refine HEN.out.mono ?_
                    rintro e w' ⟨rfl, rfl⟩
                    go_wp2_with fail
                    refine HDO.out.mono ?_
                    rw [H2.out]
                    rintro e w5 ⟨rfl, rfl⟩
                    go_wp2_with fail
                    refine (radd_any a1 n1 c1 qs 1 [36] _ HI.out.parts HLE.out (HTE.out [36] (by simp))).mono ?_
                    rintro e w6 ⟨a6, n6, c6, rfl, P6, C6, B6⟩
                    have HI6 := Lib.hid (HI.out.added P6 C6 B6 (p + m) (HSQ.out 1 [36] m (by have := HM.out; simp; omega) HM.out.2) HM.out.1)
                    clear P6 C6 B6
                    go_wp2
                    go_roundg g
                    case measure => omega
                    case rel => exact ⟨p + m, _, a6, n6, c6, by have := HG.out; have := HM.out; omega, by go_num, rfl, HI6.out, hb⟩
                  · rw [h1] at hr3
                    have hb := Lib.hid (show R = Lx.wordP g (l.drop (p + m)) (p + m) (Lx.addP qs 2 y) from by
                      rw [← List.drop_drop, HBT.out]; exact hr3)
                    have H2 := Lib.hid h2
                    have HM := Lib.hid (show p + m ≤ l.length ∧ 1 ≤ m ∧ y.length + 1 ≤ m ∧ m ≤ 2048 from by omega)
                    clear h1 h2 HLL2 HL2 hm1 hm2 hm3 hr3
                    go_wp2_with fail
                    refine HEN.out.mono ?_
                    rintro e w' ⟨rfl, rfl⟩
                    go_wp2_with fail
                    refine HDO.out.mono ?_
                    rw [H2.out]
                    rintro e w5 ⟨rfl, rfl⟩
                    go_wp2_with fail
                    refine (radd_any a1 n1 c1 qs 2 y _ HI.out.parts HLE.out (HTE.out y (by have := HM.out; omega))).mono ?_
                    rintro e w6 ⟨a6, n6, c6, rfl, P6, C6, B6⟩
                    have HI6 := Lib.hid (HI.out.added P6 C6 B6 (p + m) (HSQ.out 2 y m (by have := HM.out; omega) HM.out.2.1) HM.out.1)
                    clear P6 C6 B6
                    go_wp2
                    go_roundg g
                    case measure => omega
                    case rel => exact ⟨p + m, _, a6, n6, c6, by have := HG.out; have := HM.out; omega, by go_num, rfl, HI6.out, hb⟩
                · have e36 : ((x : Int) == 36) = false := by rw [beq_eq_false_iff_ne]; omega
                  have hb := Lib.hid (show R = Lx.wordP g (l.drop (p + 1)) (p + 1) (Lx.addP qs 1 [b]) from by
                    rw [HR2.out, if_neg N39.out, if_neg N34.out, if_neg (fun e => h36 ((HB8.out 36).1 e)), if_neg N92.out, HDT.out])
                  have hex := Lib.hid (show (Lx.strB l).extract p (p + 1) = Lx.strB [b] from by
                    rw [Lx.strB_extract, show p + 1 - p = 1 from by omega, HBT.out]; rfl)
                  clear h36 HR2
                  have hx5 := hex.out
                  go_wp2_with fail
                  refine HEN.out.mono ?_
                  rintro e w' ⟨rfl, rfl⟩
                  go_wp2_with fail
                  refine (radd_any a1 n1 c1 qs 1 [b] _ HI.out.parts HLE.out (HTE.out [b] (by simp))).mono ?_
                  rintro e w6 ⟨a6, n6, c6, rfl, P6, C6, B6⟩
                  have HI6 := Lib.hid (HI.out.added P6 C6 B6 (p + 1) (HSQ.out 1 [b] 1 (by simp) (by omega)) (by omega))
                  clear P6 C6 B6
                  go_wp2
                  go_roundg g
                  case measure => omega
                  case rel => exact ⟨p + 1, _, a6, n6, c6, by have := HG.out; omega, by go_num, rfl, HI6.out, hb⟩
    · have hpd : decide (p < l.length) = false := decide_eq_false hp
      have hb := Lib.hid (show R = .ok (qs, p) from by rw [hr.out, List.drop_of_length_le (by omega), wordP_nil])
      clear hr hg
      go_wp2
      refine bodyPost_ret (v := .agg #[.slice a1 n1 c1, .int .i64 (p : Int), .int .i64 0]) (by simp [results, Tryd.results33, go_sem, HI.out.res.r0, HI.out.res.r1, HI.out.res.r2]) rfl ?_
      rw [hb.out]
      exact HI.out.done _ _ _ p

end Go.Proofs.YtfgbbmnmblchiaaDoor
