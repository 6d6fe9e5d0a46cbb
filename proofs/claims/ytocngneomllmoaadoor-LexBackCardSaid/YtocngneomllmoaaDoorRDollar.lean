/-
  The document's dollar: walked.
-/
import Derived.Test.YtocngneomllmoaaDoorRWrong
namespace Go.Proofs.YtocngneomllmoaaDoor
open Go.RowKit
set_option linter.unusedVariables false

theorem take_takeWhile {p : UInt8 → Bool} : ∀ (t : List UInt8), (t.take (t.takeWhile p).length).takeWhile p = t.takeWhile p
  | [] => by simp
  | c :: t => by
    by_cases h : p c = true
    · simp [h, take_takeWhile t]
    · simp [h]

theorem nameR_take (t : List UInt8) : nameR (t.take (nameR t)) = nameR t := by
  unfold nameR
  by_cases h : Lx.firstB (t.getD 0 0) = true ∧ t ≠ []
  · rw [if_pos h]
    match t, h with
    | c :: t, h =>
      have hf : Lx.firstB c = true := h.1
      have hl := first_later c hf
      rw [if_pos ⟨by simpa [hl] using hf, by simp [hl]⟩, take_takeWhile]
  · rw [if_neg h, List.take_zero]
    simp

theorem isName_take (t : List UInt8) : Lx.isName (t.take (nameR t)) = decide (1 ≤ nameR t ∧ nameR t ≤ 32) := by
  have hle := nameR_le t
  unfold Lx.isName
  rw [nameLen_R, nameR_take, List.length_take, Nat.min_eq_left hle]
  by_cases h0 : 1 ≤ nameR t
  · have hne : t.take (nameR t) ≠ [] := by intro e; have := congrArg List.length e; rw [List.length_take, List.length_nil] at this; omega
    simp only [ne_eq, hne, not_false_eq_true, decide_true, Bool.true_and]
    rw [decide_eq_decide]
    omega
  · have hz : nameR t = 0 := by omega
    rw [hz, List.take_zero]
    simp

theorem nameR_later (t : List UInt8) (j : Nat) (h : j < nameR t) : Lx.laterB (t.getD j 0) = true := by
  unfold nameR at h
  split at h
  · have key : ∀ (t : List UInt8) (j : Nat), j < (t.takeWhile Lx.laterB).length → Lx.laterB (t.getD j 0) = true := by
      intro t
      induction t with
      | nil => intro j h; simp at h
      | cons c t ih =>
        intro j h
        by_cases hc : Lx.laterB c = true
        · rw [List.takeWhile_cons, if_pos hc, List.length_cons] at h
          cases j with
          | zero => exact hc
          | succ j => exact ih j (by omega)
        · rw [List.takeWhile_cons, if_neg hc] at h
          simp at h
    exact key t j h
  · omega

theorem dollarP_brace (t : List UInt8) : Lx.dollarP (123 :: t) = if 1 ≤ nameR t ∧ nameR t ≤ 32 ∧ t[nameR t]? = some 125 then (t.take (nameR t), (nameR t : Int) + 3) else ([], -1) := by
  have hn := nameLen_R t
  unfold Lx.dollarP
  rw [if_neg (by simp), if_pos (by simp), List.drop_succ_cons, List.drop_zero]
  by_cases h : 1 ≤ nameR t ∧ nameR t ≤ 32 ∧ t[nameR t]? = some 125
  · rw [if_pos h]
    have e : Lx.nameLen t = nameR t := by omega
    rw [e, if_neg (by rintro (h1 | h1); omega; exact h1 h.2.2)]
  · rw [if_neg h, if_pos]
    by_cases h0 : Lx.nameLen t = 0
    · exact .inl h0
    · right
      intro e
      by_cases h32 : nameR t ≤ 32
      · have e2 : Lx.nameLen t = nameR t := by omega
        rw [e2] at e
        exact h ⟨by omega, h32, e⟩
      · have e2 : Lx.nameLen t = 32 := by omega
        rw [e2] at e
        have := nameR_later t 32 (by omega)
        rw [List.getD_eq_getElem?_getD, e] at this
        exact absurd this (by decide)

theorem dollarP_plain (r : List UInt8) (h1 : r.head? ≠ some 63) (h2 : r.head? ≠ some 123) : Lx.dollarP r = (r.take (min 32 (nameR r)), (min 32 (nameR r) : Nat) + (1 : Int)) := by
  unfold Lx.dollarP
  rw [if_neg h1, if_neg h2, nameLen_R]

/-- what the document's dollar hands back. -/
def dollV (i : Nat) (d : List UInt8 × Int) : Value :=
  if d.2 < 0 then .tuple #[.string ⟨#[]⟩, .int .i64 0, .bool false, .bool true]
  else if d.1 = [] then .tuple #[.string ⟨#[]⟩, .int .i64 ((i : Int) + d.2), .bool false, .bool false]
  else .tuple #[.string (Lx.strB d.1), .int .i64 ((i : Int) + d.2), .bool true, .bool false]

theorem dollV_bad (i : Nat) : dollV i ([], -1) = .tuple #[.string ⟨#[]⟩, .int .i64 0, .bool false, .bool true] := rfl

theorem results_tmp4 {fn : Func} {t u v x : Tmp} (h : fn.results = #[.tmp t, .tmp u, .tmp v, .tmp x]) (tmps : Array Value) (P : Program) (w : World) :
    (results fn tmps).run P w = .ok (.tuple #[tmps.getD t undef, tmps.getD u undef, tmps.getD v undef, tmps.getD x undef]) w := by
  simp [results, h]

set_option maxHeartbeats 4000000 in
set_option maxRecDepth 10000 in
theorem rdollar_any (l : List UInt8) (i : Nat) (c : UInt8) (r : List UInt8) (w : World) (hd : l.drop i = c :: r) (hl : l.length ≤ 100000) :
    Calls Tryd.prog 38 #[.string (Lx.strB l), .int .i64 i] w fun e w' => e = .returned (dollV i (Lx.dollarP r)) ∧ w = w' := by
  have hlen : l.length = i + (r.length + 1) := by
    have := congrArg List.length hd
    rw [List.length_drop, List.length_cons] at this
    omega
  have hd1 : l.drop (i + 1) = r := by rw [← List.drop_drop, hd]; rfl
  have hsz := Lx.strB_size l
  have i0 : (0 : Int) ≤ (i : Int) := by omega
  have i1 : (i : Int) ≤ 100000 := by omega
  have l1 : (l.length : Int) ≤ 100000 := by omega
  have HN := Lib.hid (fun (j : Nat) (hj : j ≤ l.length) => nameR_any l j w (by omega) hj)
  have HD1 := Lib.hid hd1
  have HLEN := Lib.hid hlen
  clear hd hd1
  clear hlen
  rcases (show r = [] ∨ ∃ x t, r = x :: t from by cases r with
    | nil => exact .inl rfl
    | cons x t => exact .inr ⟨x, t, rfl⟩) with rfl | ⟨x, t, rfl⟩
  · have hlen := HLEN.out
    simp only [List.length_nil] at hlen
    have hb := Lib.hid (show dollV i (Lx.dollarP []) = .tuple #[.string ⟨#[]⟩, .int .i64 ((i : Int) + 1), .bool false, .bool false] from rfl)
    have hn := HN.out (i + 1) (by omega)
    rw [HD1.out, show i + 1 + nameR [] = i + 1 from rfl] at hn
    have HNN := Lib.hid hn
    have d1 : decide (i + 1 < l.length) = false := decide_eq_false (by omega)
    have d2 : decide ((i : Int) + 1 < (l.length : Int)) = false := decide_eq_false (by omega)
    clear hlen hn HN
    go_enter Tryd.func38, Tryd.ntmps38
    go_wp2_with fail
    refine HNN.out.mono ?_
    rintro e w' ⟨rfl, rfl⟩
    go_wp2_with fail
    (try simp only [Exit.inBlock, Exit.then])
    refine bodyPost_ret (results_tmp4 rfl _ _ _) rfl ?_
    rw [hb.out]
    exact ⟨rfl, rfl⟩
  · have hlen := HLEN.out
    rw [List.length_cons] at hlen
    obtain ⟨y, hxy⟩ : ∃ y, x.toNat = y := ⟨_, rfl⟩
    have hy : ∀ h, ((Lx.strB l)[i + 1]'h).toNat = y := fun h => by
      have h5 := drop_at l (i + 1) (by omega)
      rw [HD1.out] at h5
      rw [Lx.strB_get, ← (List.cons.inj h5).1, hxy]
    have hd2 : l.drop (i + 2) = t := by rw [show i + 2 = (i + 1) + 1 from rfl, ← List.drop_drop, HD1.out]; rfl
    have d1 : decide (i + 1 < l.length) = true := decide_eq_true (by omega)
    have d2 : decide ((i : Int) + 1 < (l.length : Int)) = true := decide_eq_true (by omega)
    have b1 : (0 : Int) ≤ (i : Int) + 1 := by omega
    have b2 : (i : Int) + 1 < (l.length : Int) := by omega
    have hx8 : ∀ z : UInt8, x = z ↔ y = z.toNat := fun z => ⟨fun e => by rw [← hxy, e], fun e => UInt8.toNat_inj.1 (hxy.trans e)⟩
    have HX8 := Lib.hid hx8
    have HD2 := Lib.hid hd2
    clear hlen hxy hx8 hd2
    by_cases h63 : y = 63
    · have hb := Lib.hid (show dollV i (Lx.dollarP (x :: t)) = .tuple #[.string ⟨#[63]⟩, .int .i64 ((i : Int) + 2), .bool true, .bool false] from by
        rw [(HX8.out 63).2 h63]; rfl)
      have e63 : ((y : Int) == 63) = true := by rw [beq_iff_eq]; omega
      clear h63 HN
      go_enter Tryd.func38, Tryd.ntmps38
      go_wp2_with fail
      (try simp only [Exit.inBlock, Exit.then])
      refine bodyPost_ret (results_tmp4 rfl _ _ _) rfl ?_
      rw [hb.out]
      exact ⟨rfl, rfl⟩
    · have e63 : ((y : Int) == 63) = false := by rw [beq_eq_false_iff_ne]; omega
      by_cases h123 : y = 123
      · have e123 : ((y : Int) == 123) = true := by rw [beq_iff_eq]; omega
        have hn := HN.out (i + 2) (by have := HLEN.out; rw [List.length_cons] at this; omega)
        rw [HD2.out] at hn
        obtain ⟨m, hm⟩ : ∃ m, nameR t = m := ⟨_, rfl⟩
        have hml := nameR_le t
        have hbr := dollarP_brace t
        have hin := isName_take t
        rw [hm] at hn hml hbr hin
        have HM := Lib.hid hm
        have HBR := Lib.hid hbr
        have hxx := (HX8.out 123).2 h123
        have ec : ((i + 2 + m : Nat) : Int) = (i : Int) + 2 + (m : Int) := by omega
        rw [ec] at hn
        have HNN := Lib.hid hn
        have m0 : (0 : Int) ≤ (m : Int) := by omega
        have m1 : (m : Int) ≤ 100000 := by have := HLEN.out; rw [List.length_cons] at this; omega
        have hlt : l.length = i + 2 + t.length := by have := HLEN.out; rw [List.length_cons] at this; omega
        have HLT := Lib.hid hlt
        clear hn hbr h63 HN ec hm
        by_cases hk : t.length ≤ m
        · have hb := Lib.hid (show dollV i (Lx.dollarP (x :: t)) = .tuple #[.string ⟨#[]⟩, .int .i64 0, .bool false, .bool true] from by
            rw [hxx, HBR.out, if_neg]
            · rfl
            · rintro ⟨_, _, h3⟩
              rw [List.getElem?_eq_none hk] at h3
              cases h3)
          have dk : decide ((l.length : Int) ≤ (i : Int) + 2 + (m : Int)) = true := decide_eq_true (by omega)
          clear hin h123 hxx hlt hk
          go_enter Tryd.func38, Tryd.ntmps38
          go_wp2_with fail
          refine HNN.out.mono ?_
          rintro e w' ⟨rfl, rfl⟩
          go_wp2_with fail
          (try simp only [Exit.inBlock, Exit.then])
          refine bodyPost_ret (results_tmp4 rfl _ _ _) rfl ?_
          rw [hb.out]
          exact ⟨rfl, rfl⟩
        · have dk : decide ((l.length : Int) ≤ (i : Int) + 2 + (m : Int)) = false := decide_eq_false (by omega)
          have b3 : (i : Int) + 2 + (m : Int) < (l.length : Int) := by omega
          have b4 : (0 : Int) ≤ (i : Int) + 2 + (m : Int) := by omega
          obtain ⟨z, hz⟩ : ∃ z, l.getD (i + 2 + m) 0 = z := ⟨_, rfl⟩
          obtain ⟨v, hv⟩ : ∃ v, z.toNat = v := ⟨_, rfl⟩
          have hzv : ∀ h, ((Lx.strB l)[i + 2 + m]'h).toNat = v := fun h => by rw [Lx.strB_get, hz, hv]
          have hzv2 : ∀ h, ((Lx.strB l)[((i : Int) + 2 + (m : Int)).toNat]'h).toNat = v := fun h => by
            have e : ((i : Int) + 2 + (m : Int)).toNat = i + 2 + m := by omega
            have := Lx.strB_get l ((i : Int) + 2 + (m : Int)).toNat h
            rw [this, e, hz, hv]
          have htz : t[m]? = some z := by
            have h5 : (l.drop (i + 2)).getD m 0 = z := by rw [getD_drop', hz]
            rw [HD2.out, List.getD_eq_getElem?_getD, List.getElem?_eq_getElem (by omega)] at h5
            rw [List.getElem?_eq_getElem (by omega)]
            exact congrArg some h5
          by_cases h125 : v = 125
          · have e125 : ((v : Int) != 125) = false := by rw [bne_eq_false_iff_eq]; omega
            have e125b : ((v : Int) == 125) = true := by rw [beq_iff_eq]; omega
            have hz5 : z = 125 := UInt8.toNat_inj.1 (by rw [hv, h125]; rfl)
            have hex := Lib.hid (show (Lx.strB l).extract (i + 2) (i + 2 + m) = Lx.strB (t.take m) from by
              rw [Lx.strB_extract, show i + 2 + m - (i + 2) = m from by omega, HD2.out])
            have hex2 := Lib.hid (show (Lx.strB l).extract (i + 2) ((i : Int) + 2 + (m : Int)).toNat = Lx.strB (t.take m) from by
              rw [show ((i : Int) + 2 + (m : Int)).toNat = i + 2 + m from by omega]; exact hex.out)
            have hNA := NameR_any (t.take m) w (by rw [List.length_take]; omega)
            rw [hin] at hNA
            have b5 : (0 : Int) ≤ (i : Int) + 2 := by omega
            have b6 : (i : Int) + 2 ≤ (i : Int) + 2 + (m : Int) := by omega
            have b7 : (i : Int) + 2 + (m : Int) ≤ (l.length : Int) := by omega
            by_cases hok : 1 ≤ m ∧ m ≤ 32
            · have hb := Lib.hid (show dollV i (Lx.dollarP (x :: t)) = .tuple #[.string (Lx.strB (t.take m)), .int .i64 ((i : Int) + 2 + (m : Int) + 1), .bool true, .bool false] from by
                rw [hxx, HBR.out, if_pos ⟨hok.1, hok.2, by rw [htz, hz5]⟩]
                unfold dollV
                rw [if_neg (by simp only; omega), if_neg (by intro e; have := congrArg List.length e; rw [List.length_take, List.length_nil] at this; omega)]
                have e5 : (i : Int) + ((m : Int) + 3) = (i : Int) + 2 + (m : Int) + 1 := by omega
                simp only [e5])
              rw [show decide (1 ≤ m ∧ m ≤ 32) = true from decide_eq_true hok] at hNA
              have HNA := Lib.hid hNA
              clear hin h123 hxx hlt hk hz hv htz hz5 h125 hNA hok
              have hx5 := hex.out
              have hx6 := hex2.out
              go_enter Tryd.func38, Tryd.ntmps38
              go_wp2_with fail
              refine HNN.out.mono ?_
              rintro e w' ⟨rfl, rfl⟩
              go_wp2_with fail
              refine HNA.out.mono ?_
              rintro e w' ⟨rfl, rfl⟩
              go_wp2_with fail
              (try simp only [Exit.inBlock, Exit.then])
              refine bodyPost_ret (results_tmp4 rfl _ _ _) rfl ?_
              rw [hb.out]
              first | exact ⟨rfl, rfl⟩ | (rw [← hex.out]; exact ⟨rfl, rfl⟩) | (rw [← hex2.out]; exact ⟨rfl, rfl⟩)
            · have hb := Lib.hid (show dollV i (Lx.dollarP (x :: t)) = .tuple #[.string ⟨#[]⟩, .int .i64 0, .bool false, .bool true] from by
                rw [hxx, HBR.out, if_neg (fun e => hok ⟨e.1, e.2.1⟩)]; rfl)
              rw [show decide (1 ≤ m ∧ m ≤ 32) = false from decide_eq_false hok] at hNA
              have HNA := Lib.hid hNA
              clear hin h123 hxx hlt hk hz hv htz hz5 h125 hNA hok
              have hx5 := hex.out
              have hx6 := hex2.out
              go_enter Tryd.func38, Tryd.ntmps38
              go_wp2_with fail
              refine HNN.out.mono ?_
              rintro e w' ⟨rfl, rfl⟩
              go_wp2_with fail
              refine HNA.out.mono ?_
              rintro e w' ⟨rfl, rfl⟩
              go_wp2_with fail
              (try simp only [Exit.inBlock, Exit.then])
              refine bodyPost_ret (results_tmp4 rfl _ _ _) rfl ?_
              rw [hb.out]
              exact ⟨rfl, rfl⟩
          · have e125 : ((v : Int) != 125) = true := by rw [bne_iff_ne]; omega
            have e125b : ((v : Int) == 125) = false := by rw [beq_eq_false_iff_ne]; omega
            have hb := Lib.hid (show dollV i (Lx.dollarP (x :: t)) = .tuple #[.string ⟨#[]⟩, .int .i64 0, .bool false, .bool true] from by
              rw [hxx, HBR.out, if_neg]
              · rfl
              · rintro ⟨_, _, h3⟩
                rw [htz] at h3
                have h3 := Option.some.inj h3
                rw [h3] at hv
                exact h125 hv.symm)
            clear hin h123 hxx hlt hk hz hv htz h125
            go_enter Tryd.func38, Tryd.ntmps38
            go_wp2_with fail
            refine HNN.out.mono ?_
            rintro e w' ⟨rfl, rfl⟩
            go_wp2_with fail
            (try simp only [Exit.inBlock, Exit.then])
            refine bodyPost_ret (results_tmp4 rfl _ _ _) rfl ?_
            rw [hb.out]
            exact ⟨rfl, rfl⟩
      · have e123 : ((y : Int) == 123) = false := by rw [beq_eq_false_iff_ne]; omega
        have hn := HN.out (i + 1) (by have := HLEN.out; rw [List.length_cons] at this; omega)
        rw [HD1.out] at hn
        have hpl := dollarP_plain (x :: t) (by simp only [List.head?_cons]; intro e; exact h63 ((HX8.out 63).1 (Option.some.inj e))) (by simp only [List.head?_cons]; intro e; exact h123 ((HX8.out 123).1 (Option.some.inj e)))
        obtain ⟨m, hm⟩ : ∃ m, nameR (x :: t) = m := ⟨_, rfl⟩
        have hml := nameR_le (x :: t)
        rw [hm] at hn hpl hml
        have ec : ((i + 1 + m : Nat) : Int) = (i : Int) + 1 + (m : Int) := by omega
        rw [ec] at hn
        have HNN := Lib.hid hn
        have HPL := Lib.hid hpl
        have hlt := HLEN.out
        have m0 : (0 : Int) ≤ (m : Int) := by omega
        have m1 : (m : Int) ≤ 100000 := by omega
        clear hn hpl h63 h123 HN ec hm
        obtain ⟨q, hq⟩ : ∃ q, min 32 m = q := ⟨_, rfl⟩
        rw [hq] at HPL
        have q0 : (0 : Int) ≤ (q : Int) := by omega
        have q1 : (q : Int) ≤ 32 := by omega
        have hmin : min ((i : Int) + 1 + (m : Int)) ((i : Int) + 33) = (i : Int) + 1 + (q : Int) := by omega
        have hmin2 : (if (i : Int) + 1 + (m : Int) ≤ (i : Int) + 33 then (i : Int) + 1 + (m : Int) else (i : Int) + 33) = (i : Int) + 1 + (q : Int) := by split <;> omega
        have b3 : (i : Int) + 1 + (q : Int) ≤ (l.length : Int) := by omega
        have b4 : (i : Int) + 1 ≤ (i : Int) + 1 + (q : Int) := by omega
        have b5 : (0 : Int) ≤ (i : Int) + 1 + (q : Int) := by omega
        by_cases h0 : q = 0
        · subst h0
          have hb := Lib.hid (show dollV i (Lx.dollarP (x :: t)) = .tuple #[.string ⟨#[]⟩, .int .i64 ((i : Int) + 1), .bool false, .bool false] from by
            rw [HPL.out]; rfl)
          have hmz : m = 0 := by omega
          subst hmz
          clear hq hml hlt HPL hmin hmin2
          go_enter Tryd.func38, Tryd.ntmps38
          go_wp2_with fail
          refine HNN.out.mono ?_
          rintro e w' ⟨rfl, rfl⟩
          go_wp2_with fail
          (try simp only [Exit.inBlock, Exit.then])
          refine bodyPost_ret (results_tmp4 rfl _ _ _) rfl ?_
          rw [hb.out]
          exact ⟨rfl, rfl⟩
        · have hb := Lib.hid (show dollV i (Lx.dollarP (x :: t)) = .tuple #[.string (Lx.strB ((x :: t).take q)), .int .i64 ((i : Int) + 1 + (q : Int)), .bool true, .bool false] from by
            rw [HPL.out]
            unfold dollV
            rw [if_neg (by simp only; omega), if_neg (by intro e; have := congrArg List.length e; rw [List.length_take, List.length_nil] at this; omega)]
            have e5 : (i : Int) + ((q : Int) + 1) = (i : Int) + 1 + (q : Int) := by omega
            simp only [e5])
          have hex := Lib.hid (show (Lx.strB l).extract (i + 1) (i + 1 + q) = Lx.strB ((x :: t).take q) from by
            rw [Lx.strB_extract, show i + 1 + q - (i + 1) = q from by omega, HD1.out])
          have hex2 := Lib.hid (show (Lx.strB l).extract (i + 1) ((i : Int) + 1 + (q : Int)).toNat = Lx.strB ((x :: t).take q) from by
            rw [show ((i : Int) + 1 + (q : Int)).toNat = i + 1 + q from by omega]; exact hex.out)
          have dq : decide ((i : Int) + 1 < (i : Int) + 1 + (q : Int)) = true := decide_eq_true (by omega)
          have dq0 : 0 < q := by omega
          clear hq hml hlt HPL h0
          have hx5 := hex.out
          have hx6 := hex2.out
          go_enter Tryd.func38, Tryd.ntmps38
          go_wp2_with fail
          refine HNN.out.mono ?_
          rintro e w' ⟨rfl, rfl⟩
          go_wp2_with fail
          (try simp only [Exit.inBlock, Exit.then])
          refine bodyPost_ret (results_tmp4 rfl _ _ _) rfl ?_
          rw [hb.out]
          first | exact ⟨rfl, rfl⟩ | (rw [← hex.out]; exact ⟨rfl, rfl⟩) | (rw [← hex2.out]; exact ⟨rfl, rfl⟩)

end Go.Proofs.YtocngneomllmoaaDoor
