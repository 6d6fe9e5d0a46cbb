/-
  All tokens of a text: walked.
-/
import Derived.Test.YtfgbbmnmblchiaaDoorTokP
namespace Go.Proofs.YtfgbbmnmblchiaaDoor
open Go.RowKit
set_option linter.unusedVariables false

/-- what Tokens leaves. -/
def TokensPost (w : World) (r : Int × Nat × List Lx.Tok) (e : Ending) (w' : World) : Prop :=
  ∃ a n vs, e = .returned (.tuple #[.slice a n n, .int .i64 r.2.1, .int .i64 r.1]) ∧ ToksAt w' (.slice a n n) r.2.2 vs ∧ Chg [] w w'

theorem tokens_none {w w' : World} (at_ : Nat) (e : Int) (h : Chg [] w w') : TokensPost w (e, at_, []) (.returned (.tuple #[.slice none 0 0, .int .i64 at_, .int .i64 e])) w' :=
  ⟨none, 0, [], rfl, ToksAt.nil _ _, h⟩

theorem ToksAt.clip {w : World} {a : Option Addr} {n c : Nat} {ts : List Lx.Tok} {vs : List Value} (h : ToksAt w (.slice a n c) ts vs) : ToksAt w (.slice a n n) ts vs := by
  obtain ⟨a', c', hv, hnc, _⟩ := h.row.shape
  cases hv
  exact { row := h.row.clip, len := h.len, parts := h.parts, out := fun u hu k hk hkv => h.out u hu k hk (rowBlock_clip _ _ _ _ hnc k hkv) }

theorem tokens_fin {w wr w' : World} {rb : Nat} {l : List UInt8} {p : Nat} {a : Option Addr} {n c : Nat} {ts : List Lx.Tok} {vs : List Value} (h : TokAt w rb l p (.slice a n c) ts vs wr) (hc : Chg [] wr w') :
    TokensPost w (0, 0, ts) (.returned (.tuple #[.slice a n n, .int .i64 ((0 : Nat) : Int), .int .i64 0])) w' :=
  ⟨a, n, vs, rfl, (h.toks.kept0 hc).clip, h.chg.then0 hc⟩

theorem idx_ten (l : List UInt8) (w : World) : Calls Tryd.prog 23 #[.string (Lx.strB l), .int .u8 10] w fun e w' => e = .returned (.int .i64 (placeI (Lx.idx 10 l))) ∧ w' = w := by
  refine (Tryd.strings_IndexByte (Lx.strB l) 10 w).mono fun e w' h => ⟨h.1.trans (ret_i64 ?_), h.2⟩
  rw [Lx.strB_data, ← ib_idx]
  rfl

theorem idx_note : ∀ (l : List UInt8), Lx.noteLen l = (match Lx.idx 10 l with | none => l.length | some k => k)
  | [] => rfl
  | b :: t => by
    have ih := idx_note t
    unfold Lx.noteLen Lx.idx at *
    rw [List.findIdx?_cons, List.takeWhile_cons]
    by_cases h : (b == 10) = true
    · simp [h]
    · rw [if_pos (by simp [h]), if_neg h, List.length_cons, ih]
      cases List.findIdx? (fun x => x == 10) t with
      | none => simp
      | some k => simp

theorem u8_tok {w W : World} {rb : Nat} {l : List UInt8} {p : Nat} {v : Value} {ts : List Lx.Tok} {vs : List Value} (h : Hid (U8 w)) (hI : TokAt w rb l p v ts vs W) : Hid (U8 W) :=
  u8_kept (F := []) h hI.chg (by simp) (by simp)

theorem tokens_long {l : List UInt8} (hl : 2048 < l.length) : Lx.tokens l = (2, 0, []) := by unfold Lx.tokens; rw [if_pos hl]
theorem tokens_bad {l : List UInt8} {i : Nat} (hl : ¬ 2048 < l.length) (h : Lx.badP (l.length + 1) l 0 = some i) : Lx.tokens l = (10, i, []) := by unfold Lx.tokens; rw [if_neg hl]; simp only [h]
/-- the tokens told as a result. -/
def tokRes : Lx.Res (List Lx.Tok) → Int × Nat × List Lx.Tok
  | .bad e => (10, e, [])
  | .ok ts => (0, 0, ts)
theorem tokens_good {l : List UInt8} (hl : ¬ 2048 < l.length) (h : Lx.badP (l.length + 1) l 0 = none) : Lx.tokens l = tokRes (Lx.tokP (l.length + 1) l 0 []) := by
  unfold Lx.tokens; rw [if_neg hl]; simp only [h]
  cases Lx.tokP (l.length + 1) l 0 [] <;> rfl

theorem tokP_word (f : Nat) (c : UInt8) (t : List UInt8) (p : Nat) (acc : List Lx.Tok) (h1 : ¬ (c = 32 ∨ c = 9)) (h2 : ¬ c = 35) (h3 : ¬ (c = 59 ∨ c = 10)) (h4 : Lx.signOf (c :: t) = []) (h5 : ¬ c = 38) :
    (∀ i, Lx.wordP ((c :: t).length + 1) (c :: t) p [] = .bad i → Lx.tokP (f + 1) (c :: t) p acc = .bad i) ∧
    (∀ l p', Lx.wordP ((c :: t).length + 1) (c :: t) p [] = .ok (l, p') → Lx.tokP (f + 1) (c :: t) p acc = Lx.tokP f ((c :: t).drop (p' - p)) p' (acc ++ [⟨1, (c :: t).take (p' - p), l, p⟩])) := by
  rw [tokP_cons, if_neg h1, if_neg h2, if_neg h3, if_neg (by rw [h4]; simp), if_neg h5]
  exact ⟨fun i h => by simp only [h], fun l p' h => by simp only [h]⟩

set_option maxHeartbeats 8000000 in
set_option maxRecDepth 100000 in
theorem tokens_any (l : List UInt8) (w : World) (hl9 : l.length ≤ 9223372036854775807) (hT : Hid (U8 w)) :
    Calls Tryd.prog 12 #[.string (Lx.strB l)] w (TokensPost w (Lx.tokens l)) := by
  have hsz := Lx.strB_size l
  obtain ⟨i0, hi, hz0, hz1, hz2⟩ := info_parts Tryd.infoTok
  obtain ⟨T, hTT⟩ : ∃ T, Lx.tokens l = T := ⟨_, rfl⟩
  rw [hTT]
  have HT := Lib.hid hTT
  clear hTT
  by_cases hl : 2048 < l.length
  · have HF := Lib.hid (show ∀ W, Chg [] w W → TokensPost w T (.returned (.tuple #[.slice none 0 0, .int .i64 0, .int .i64 2])) W from fun W hW => by
      rw [← HT.out, tokens_long hl]; exact tokens_none 0 2 hW)
    clear HT
    have hld : decide ((2048 : Int) < (l.length : Int)) = true := decide_eq_true (by omega)
    go_enter Tryd.func12, Tryd.ntmps12
    go_wp2_with fail
    go_ret3
    exact HF.out _ (Chg.refl _ _)
  · have hld : decide ((2048 : Int) < (l.length : Int)) = false := decide_eq_false (by omega)
    have HB := Lib.hid (bad_any l w hl9 hT)
    obtain ⟨B, hB⟩ : ∃ B, Lx.badP (l.length + 1) l 0 = B := ⟨_, rfl⟩
    have HB2 := Lib.hid hB
    have HLL0 := Lib.hid hl
    clear hB
    cases B with
    | some i =>
      have HF := Lib.hid (show ∀ W, Chg [] w W → TokensPost w T (.returned (.tuple #[.slice none 0 0, .int .i64 i, .int .i64 10])) W from fun W hW => by
        rw [← HT.out, tokens_bad HLL0.out HB2.out]; exact tokens_none i 10 hW)
      clear HT HLL0 hl
      have i0 : (0 : Int) ≤ (i : Int) := by omega
      have id0 : decide ((0 : Int) ≤ (i : Int)) = true := decide_eq_true i0
      go_enter Tryd.func12, Tryd.ntmps12
      go_wp2_with fail
      refine HB.out.mono ?_
      rw [HB2.out]
      rintro e w1 ⟨rfl, h1⟩
      have H1 := Lib.hid h1
      clear h1
      simp only [placeI]
      go_wp2_with fail
      go_ret3
      exact HF.out _ H1.out
    | none =>
      obtain ⟨R, hR⟩ : ∃ R, Lx.tokP (l.length + 1) l 0 [] = R := ⟨_, rfl⟩
      have HE2 := Lib.hid (show T = tokRes R from by rw [← HT.out, tokens_good HLL0.out HB2.out, hR])
      have HR := Lib.hid hR
      have HL := Lib.hid hl
      clear HT HLL0 hR hl
      go_enter Tryd.func12, Tryd.ntmps12
      go_wp2_with fail
      refine HB.out.mono ?_
      rw [HB2.out]
      rintro e w1 ⟨rfl, h1⟩
      have H1 := Lib.hid h1
      clear h1 HB HB2
      simp only [placeI]
      go_wp2_with fail
      have HI0 := Lib.hid (show TokAt w w1.heap.size l 0 (.slice none 0 0) [] [] (w1.alloc (.cells #[.string (Lx.strB l), .int .i64 0, .slice none 0 0] 88)) from
        { read := obj_alloc_new w1 _, toks := ToksAt.nil _ _, out := by simp [rowBlock], outs := by simp, new := H1.out.size, news := by simp [rowBlock], chg := H1.out.alloc _, few := by simp, le := by omega })
      generalize w1.heap.size = rb at *
      go_loopg [7, 8, 9, 10] (l.length + 1) (fun g c7 c8 c9 c10 wr => ∃ (p : Nat) (v : Value) (ts : List Lx.Tok) (vs : List Value), l.length < p + g ∧ TokAt w rb l p v ts vs wr ∧ Hid (R = Lx.tokP g (l.drop p) p ts))
      case atStart => exact ⟨0, _, [], [], by omega, HI0.out, Lib.hid HR.out.symm⟩
      case round =>
        obtain ⟨p, v, ts, vs, hg, hI, hr⟩ := hrel
        clear HI0 HR H1
        have hle := hI.le
        have HI := Lib.hid hI
        have x0 := hI.read.c0
        have x1 := hI.read.c1
        obtain ⟨a0, c0, rfl, hac, hcm⟩ := hI.toks.row.shape
        have x2 := hI.read.c2
        clear hI hac hcm
        have hl8 : l.length ≤ 2048 := by have := HL.out; omega
        have p0 : (0 : Int) ≤ (p : Int) := by omega
        have p1 : (p : Int) ≤ 2048 := by omega
        have p2 : (p : Int) ≤ (l.length : Int) := by omega
        have HL8 := Lib.hid hl8
        clear hl8
        by_cases hp : p < l.length
        · have hpd : decide (p < l.length) = true := decide_eq_true hp
          cases gk with
          | zero => omega
          | succ g =>
            obtain ⟨b, t2, hbt⟩ : ∃ b t2, l.drop p = b :: t2 := ⟨_, _, drop_at l p hp⟩
            have hx1 : (Lx.strB l).extract p l.length = Lx.strB (b :: t2) := by rw [← hbt, ← Lx.strB_tail, hsz]
            obtain ⟨x, hbx⟩ : ∃ x, b.toNat = x := ⟨_, rfl⟩
            have hx : ∀ h, ((Lx.strB l)[p]'h).toNat = x := fun h => by
              rw [Lx.strB_get]
              have := drop_at l p hp
              rw [hbt] at this
              exact (congrArg UInt8.toNat (List.cons.inj this).1.symm).trans hbx
            have p3 : (p : Int) < (l.length : Int) := by omega
            have hb8 : ∀ y : UInt8, b = y ↔ x = y.toNat := fun y => ⟨fun e => by rw [← hbx, e], fun e => UInt8.toNat_inj.1 (hbx.trans e)⟩
            have hsg := fun (W : World) => sign_any (Lx.strB (b :: t2)) W
            rw [Lx.strB_data] at hsg
            obtain ⟨sg, hs⟩ : ∃ sg, Lx.signOf (b :: t2) = sg := ⟨_, rfl⟩
            rw [hs] at hsg
            rw [hbt] at hr
            have HSG := Lib.hid hsg
            have HS := Lib.hid hs
            have HBT := Lib.hid hbt
            have HB8 := Lib.hid hb8
            have HG := Lib.hid hg
            have HLL := Lib.hid (show l.length = p + (t2.length + 1) from by
              have := congrArg List.length hbt
              rw [List.length_drop, List.length_cons] at this
              omega)
            have HDT := Lib.hid (show l.drop (p + 1) = t2 from by rw [← List.drop_drop, hbt]; rfl)
            clear hbt hb8 hbx hg hsg hs
            go_wp2_with fail
            refine (HSG.out _).mono ?_
            rintro e w2 ⟨rfl, h2⟩
            have HI2 := Lib.hid (HI.out.kept0 h2)
            have z0 := HI2.out.read.c0
            have z1 := HI2.out.read.c1
            have z2 := HI2.out.read.c2
            have zf := HI2.out.read.free 1
            clear h2 x0 x1 x2 HI HSG
            by_cases hA : x = 32 ∨ x = 9
            · have hb := Lib.hid (show R = Lx.tokP g (l.drop (p + 1)) (p + 1) ts from by
                rw [hr.out, tokP_cons, if_pos (hA.imp (HB8.out 32).2 (HB8.out 9).2), HDT.out])
              clear hr
              rcases hA with hA | hA
              all_goals
                subst hA
                go_wp2
                go_roundg g
                case measure => omega
                case rel => exact ⟨p + 1, _, ts, vs, by have := HG.out; omega, HI2.out.moved (p + 1) _ (by omega) (by omega) (by omega), hb⟩
            · have nA : ¬ (b = 32 ∨ b = 9) := fun e => hA (e.imp (HB8.out 32).1 (HB8.out 9).1)
              have e32 : ((x : Int) == 32) = false := by rw [beq_eq_false_iff_ne]; omega
              have e9 : ((x : Int) == 9) = false := by rw [beq_eq_false_iff_ne]; omega
              have NA := Lib.hid nA
              clear hA nA
              by_cases hB : x = 35
              · subst hB
                obtain ⟨K, hK⟩ : ∃ K, Lx.idx 10 (b :: t2) = K := ⟨_, rfl⟩
                have hnl := idx_note (b :: t2)
                have hni := idx_ten (b :: t2)
                have npos := noteLen_pos b t2 ((HB8.out 35).2 rfl)
                have nle := noteLen_le (b :: t2)
                have hb := Lib.hid (show R = Lx.tokP g (l.drop (p + Lx.noteLen (b :: t2))) (p + Lx.noteLen (b :: t2)) ts from by
                  rw [hr.out, tokP_cons, if_neg NA.out, if_pos ((HB8.out 35).2 rfl), ← List.drop_drop, HBT.out])
                obtain ⟨m, hm⟩ : ∃ m, Lx.noteLen (b :: t2) = m := ⟨_, rfl⟩
                rw [hK] at hnl hni
                rw [hm] at hb npos nle hnl
                have HNI := Lib.hid hni
                have hlb := HLL.out
                rw [List.length_cons] at nle
                have lx : (l.length : Int) ≤ 2048 := by have := HL8.out; omega
                clear hni hm hK hr
                cases K with
                | none =>
                  have hml : m = l.length - p := by
                    have : m = (b :: t2).length := hnl
                    rw [List.length_cons] at this
                    omega
                  clear hnl hlb
                  go_wp2_with fail
                  refine (HNI.out _).mono ?_
                  rintro e w3 ⟨rfl, rfl⟩
                  simp only [placeI]
                  go_wp2
                  go_roundg g
                  case measure => omega
                  case rel => exact ⟨p + m, _, ts, vs, by have := HG.out; omega, HI2.out.moved (p + m) _ (by omega) (by omega) (by omega), hb⟩
                | some k =>
                  have hml : k = m := hnl.symm
                  clear hnl
                  have k0 : (0 : Int) ≤ (k : Int) := by omega
                  have k1 : (k : Int) ≤ 2048 := by omega
                  have kd : decide ((k : Int) < 0) = false := decide_eq_false (by omega)
                  have k3 : (p : Int) + (k : Int) ≤ 2048 := by omega
                  have HML := Lib.hid hml
                  clear hlb hml
                  go_wp2_with fail
                  refine (HNI.out _).mono ?_
                  rintro e w3 ⟨rfl, rfl⟩
                  simp only [placeI]
                  go_wp2
                  go_roundg g
                  case measure => omega
                  case rel => exact ⟨p + m, _, ts, vs, by have := HG.out; omega, HI2.out.moved (p + m) _ (by have := HML.out; omega) (by omega) (by have := HLL.out; have := HML.out; omega), hb⟩
              · have e35 : ((x : Int) == 35) = false := by rw [beq_eq_false_iff_ne]; omega
                have NB := Lib.hid (show ¬ b = 35 from fun e => hB ((HB8.out 35).1 e))
                clear hB
                by_cases hC : x = 59 ∨ x = 10
                · have hb := Lib.hid (show R = Lx.tokP g (l.drop (p + 1)) (p + 1) (ts ++ [⟨3, [59], [], p⟩]) from by
                    rw [hr.out, tokP_cons, if_neg NA.out, if_neg NB.out, if_pos (hC.imp (HB8.out 59).2 (HB8.out 10).2), HDT.out])
                  have hfw := HI2.out.few
                  have tf : ts.length ≤ 2048 := by omega
                  have HRB := Lib.hid HI2.out.out
                  have za := fun (o : Obj) => ((Chg.refl [] w2).alloc o).cell z2 (by simp)
                  clear hr hfw
                  rcases hC with hC | hC
                  all_goals
                    subst hC
                    go_wp2_with fail
                    go_region_law ((refine step_append_row (by rfl) _ _ 55 (by rfl) 65 i0 _ 4 56 Tryd.underlying55 hi hz0 hz1 hz2 (by rfl) (by decide) _ ts.length (tcells ts vs) (by rfl) (HI2.out.toks.row.kept0 ((Chg.refl [] _).drew.alloc _)) _ 1 1 (tokCells 3 [59] (.slice none 0 0) p) (by rfl) (by simp [tokCells]) (srcNew _ _ _ _) (one_tok _ _ _ _ _ _) (by unfold maxLen; omega) (by omega) ?_; intro v' w5 r5 q5 g5; obtain ⟨a', cap, rfl, _⟩ := r5.shape; have y1 := ((HI2.out.read.kept0 ((Chg.refl [] _).drew.alloc _)).kept q5 HRB.out).c1; have y2 := ((HI2.out.read.kept0 ((Chg.refl [] _).drew.alloc _)).kept q5 HRB.out).c2; have yf1 := ((HI2.out.read.kept0 ((Chg.refl [] _).drew.alloc _)).kept q5 HRB.out).free 1; have yf := ((HI2.out.read.kept0 ((Chg.refl [] _).drew.alloc _)).kept q5 HRB.out).free 2; have FIN := Lib.hid (HI2.out.added ((Chg.refl [] _).drew.alloc _) q5 3 [59] r5 g5 (p + 1)); clear r5 q5 g5))
                    all_goals
                      go_wp2
                      go_roundg g
                      case measure => omega
                      case rel => exact ⟨p + 1, _, _, _, by have := HG.out; omega, FIN.out _ (by omega) (by omega) (by omega), hb⟩
                · have e59 : ((x : Int) == 59) = false := by rw [beq_eq_false_iff_ne]; omega
                  have e10 : ((x : Int) == 10) = false := by rw [beq_eq_false_iff_ne]; omega
                  have NC := Lib.hid (show ¬ (b = 59 ∨ b = 10) from fun e => hC (e.imp (HB8.out 59).1 (HB8.out 10).1))
                  clear hC
                  by_cases hD : sg = []
                  · have NE := Lib.hid hD
                    subst hD
                    by_cases hE : x = 38
                    · have HF := Lib.hid (show ∀ W, Chg [] w2 W → TokensPost w T (.returned (.tuple #[.slice none 0 0, .int .i64 p, .int .i64 10])) W from fun W hW => by
                        have e : T = (10, p, []) := by
                          rw [HE2.out, hr.out, tokP_cons, if_neg NA.out, if_neg NB.out, if_neg NC.out, HS.out, if_neg (by simp), if_pos ((HB8.out 38).2 hE)]
                          rfl
                        rw [e]
                        exact tokens_none p 10 (HI2.out.chg.then0 hW))
                      have hst := Lx.strB_toList []
                      subst hE
                      clear hr HE2
                      go_wp2_with fail
                      go_quiet (fail)
                      all_goals
                        go_wp2_with fail
                        go_ret3
                        exact HF.out _ ((Chg.refl [] _).drewN _)
                    · have e38 : ((x : Int) == 38) = false := by rw [beq_eq_false_iff_ne]; omega
                      have N38 := Lib.hid (show ¬ b = 38 from fun e => hE ((HB8.out 38).1 e))
                      clear hE
                      have hst := Lx.strB_toList []
                      have hfw := HI2.out.few
                      have hWA := word_any rb l a0 ts.length c0 (tcells ts vs) p w2 HI2.out.read HI2.out.toks.row HI2.out.out HL8.out hp (by have := HL8.out; omega) (u8_tok hT HI2.out)
                      obtain ⟨V, hV⟩ : ∃ V, Lx.wordP ((b :: t2).length + 1) (b :: t2) p [] = V := ⟨_, rfl⟩
                      have hfu := wordP_fuel (b :: t2).length (l.length + 1) ((b :: t2).length + 1) (b :: t2) p [] (Nat.le_refl _) (by rw [List.length_cons]; have := HLL.out; omega) (by omega)
                      rw [HBT.out, hfu, hV] at hWA
                      have HWA := Lib.hid hWA
                      have HTW := Lib.hid (tokP_word g b t2 p ts NA.out NB.out NC.out HS.out N38.out)
                      have HV := Lib.hid hV
                      clear hV hWA hfu hfw
                      cases V with
                      | bad i =>
                        have HF := Lib.hid (show ∀ W, Chg [rb] w2 W → TokensPost w T (.returned (.tuple #[.slice none 0 0, .int .i64 i, .int .i64 10])) W from fun W hW => by
                          have e : T = (10, i, []) := by
                            rw [HE2.out, hr.out, HTW.out.1 _ HV.out]
                            rfl
                          rw [e]
                          exact tokens_none i 10 (HI2.out.chg.trans hW (fun x hx => by simp at hx; subst hx; exact .inr HI2.out.new)))
                        have j0 : (0 : Int) ≤ (i : Int) := by omega
                        have jd0 : decide ((0 : Int) ≤ (i : Int)) = true := decide_eq_true j0
                        clear hr HE2
                        go_wp2_with fail
                        refine HWA.out.mono ?_
                        rintro e w3 ⟨rfl, h3⟩
                        have H3 := Lib.hid h3
                        clear h3
                        go_wp2_with fail
                        go_ret3
                        exact HF.out _ H3.out
                      | ok pr =>
                        obtain ⟨ps, p5⟩ := pr
                        have hgt := wordP_gt _ _ _ _ _ _ _ (sign_end b t2 HS.out N38.out NA.out NC.out) HV.out
                        have HGT := Lib.hid hgt
                        have hb2 := Lib.hid (show R = Lx.tokP g (l.drop p5) p5 (ts ++ [⟨1, (l.drop p).take (p5 - p), ps, p⟩]) from by
                          rw [hr.out, HTW.out.2 _ _ HV.out, ← HBT.out, List.drop_drop, show p + (p5 - p) = p5 from by omega])
                        clear hr hgt
                        go_wp2_with fail
                        refine HWA.out.mono ?_
                        intro e w3 h3
                        obtain ⟨rfl, v3, u3, hI3⟩ := HI2.out.word h3 HGT.out
                        have HI3 := Lib.hid hI3
                        clear h3 hI3
                        go_wp2
                        go_roundg g
                        case measure => omega
                        case rel => exact ⟨p5, v3, _, _, by have := HG.out; have := HGT.out; omega, HI3.out, hb2⟩
                  · have hb := Lib.hid (show R = Lx.tokP g (l.drop (p + sg.length)) (p + sg.length) (ts ++ [⟨2, sg, [], p⟩]) from by
                      rw [hr.out, tokP_cons, if_neg NA.out, if_neg NB.out, if_neg NC.out, HS.out, if_pos hD, ← List.drop_drop, HBT.out])
                    have hfw := HI2.out.few
                    have tf : ts.length ≤ 2048 := by omega
                    have HRB := Lib.hid HI2.out.out
                    have za := fun (o : Obj) => ((Chg.refl [] w2).alloc o).cell z2 (by simp)
                    have hsl := signOf_len (b :: t2)
                    rw [HS.out, List.length_cons] at hsl
                    have hsp : 0 < sg.length := List.length_pos_iff.2 hD
                    have lx : (l.length : Int) ≤ 2048 := by have := HL8.out; omega
                    have hlb := HLL.out
                    have k1 : (sg.length : Int) ≤ 2048 := by omega
                    have hzs := Lx.strB_size sg
                    have hst := Lx.strB_toList sg
                    have hse : sg.isEmpty = false := by cases sg with
                      | nil => exact absurd rfl hD
                      | cons _ _ => rfl
                    have HSL := Lib.hid hsl
                    have HSP := Lib.hid hsp
                    clear hr hfw hsl hsp hD hlb
                    go_wp2_with fail
                    go_region_law ((refine step_append_row (by rfl) _ _ 55 (by rfl) 65 i0 _ 4 56 Tryd.underlying55 hi hz0 hz1 hz2 (by rfl) (by decide) _ ts.length (tcells ts vs) (by rfl) (HI2.out.toks.row.kept0 ((Chg.refl [] _).drew.alloc _)) _ 1 1 (tokCells 2 sg (.slice none 0 0) p) (by rfl) (by simp [tokCells]) (srcNew _ _ _ _) (one_tok _ _ _ _ _ _) (by unfold maxLen; omega) (by omega) ?_; intro v' w5 r5 q5 g5; obtain ⟨a', cap, rfl, _⟩ := r5.shape; have y1 := ((HI2.out.read.kept0 ((Chg.refl [] _).drew.alloc _)).kept q5 HRB.out).c1; have y2 := ((HI2.out.read.kept0 ((Chg.refl [] _).drew.alloc _)).kept q5 HRB.out).c2; have yf1 := ((HI2.out.read.kept0 ((Chg.refl [] _).drew.alloc _)).kept q5 HRB.out).free 1; have yf := ((HI2.out.read.kept0 ((Chg.refl [] _).drew.alloc _)).kept q5 HRB.out).free 2; have FIN := Lib.hid (HI2.out.added ((Chg.refl [] _).drew.alloc _) q5 2 sg r5 g5 (p + sg.length)); clear r5 q5 g5))
                    all_goals
                      go_wp2
                      go_roundg g
                      case measure => omega
                      case rel => exact ⟨p + sg.length, _, _, _, by have := HG.out; have := HSP.out; omega, FIN.out _ (by omega) (by have := HSP.out; omega) (by have := HSL.out; have := HLL.out; omega), hb⟩
        · have hpd : decide (p < l.length) = false := decide_eq_false (by omega)
          have HF := Lib.hid (show ∀ W, Chg [] wr W → TokensPost w T (.returned (.tuple #[.slice a0 ts.length ts.length, .int .i64 0, .int .i64 0])) W from fun W hW => by
            have e : T = (0, 0, ts) := by
              rw [HE2.out, hr.out, List.drop_of_length_le (by omega), tokP_nil]
              rfl
            rw [e]
            exact tokens_fin HI.out hW)
          have hac := HI.out.toks.row.shape
          have HCL := Lib.hid (show ∀ W, Calls Tryd.prog 25 #[.slice a0 ts.length c0] W fun e w' => e = .returned (.slice a0 ts.length ts.length) ∧ w' = W from fun W => by
            obtain ⟨a', c', hv, h1, h2⟩ := hac
            cases hv
            exact clip_toks _ _ _ h1 h2 W)
          clear hr HE2 hac
          go_wp2_with fail
          refine (HCL.out _).mono ?_
          rintro e w2 ⟨rfl, rfl⟩
          go_wp2_with fail
          go_ret3
          exact HF.out _ (Chg.refl _ _)

end Go.Proofs.YtfgbbmnmblchiaaDoor
