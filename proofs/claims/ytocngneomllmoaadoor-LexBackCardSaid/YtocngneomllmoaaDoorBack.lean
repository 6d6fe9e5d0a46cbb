/-
  LexBack.
-/
import Derived.Test.YtocngneomllmoaaDoorBackT
namespace Go.Proofs.YtocngneomllmoaaDoor
open Go.RowKit
set_option linter.unusedVariables false

theorem textOf_snoc (ts : List Lx.Tok) (k : Nat) (t : Lx.Tok) (h : ts[k]? = some t) : textOf (ts.take (k + 1)) = textOf (ts.take k) ++ t.text ++ [32] := by
  obtain ⟨hl, he⟩ := List.getElem?_eq_some_iff.1 h
  rw [List.take_succ_eq_append_getElem hl, he]
  simp [textOf]

theorem textOf_bound : ∀ (ts : List Lx.Tok) (B : Nat), (∀ t ∈ ts, t.text.length ≤ B) → (textOf ts).length ≤ ts.length * (B + 1)
  | [], _, _ => by simp [textOf]
  | t :: ts, B, h => by
    have h1 := textOf_bound ts B (fun x hx => h x (by simp [hx]))
    have h2 := h t (by simp)
    rw [textOf_cons, List.length_append, List.length_cons, List.length_cons, Nat.succ_mul]
    omega

theorem back_text (ts : List Lx.Tok) (k : Nat) (t : Lx.Tok) (h : ts[k]? = some t) (x y : ByteArray) (hx : x = Lx.strB t.text) (hy : y = ⟨#[32]⟩) : Value.string (Lx.strB (textOf (ts.take k)) ++ x ++ y) = Value.string (Lx.strB (textOf (ts.take (k + 1)))) := by
  subst hx hy
  rw [textOf_snoc ts k t h, show (⟨#[32]⟩ : ByteArray) = Lx.strB [32] from rfl, Lx.strB_append, Lx.strB_append]

set_option maxHeartbeats 8000000 in
set_option maxRecDepth 10000 in
theorem lexBack_any (l : List UInt8) (w : World) (hl : l.length ≤ 9223372036854775807) (hT : Hid (U8 w)) :
    Calls Tryd.prog 7 #[.string (Lx.strB l)] w fun e w' => e = .returned (.bool true) ∧ Chg [] w w' := by
  obtain ⟨⟨E0, A0, ts⟩, hTT⟩ : ∃ T, Lx.tokens l = T := ⟨_, rfl⟩
  have HPL := Lib.hid (tokens_parts hTT)
  have h1 := tokens_any l w hl hT
  rw [hTT] at h1
  have H1 := Lib.hid h1
  have hsz := Lx.strB_size l
  have hbk := back_tokens l E0 A0 ts hTT
  clear h1 hTT hl
  rcases hbk with ⟨hE, rfl⟩ | ⟨rfl, hl8, hts, hst, hbt⟩
  · have hE2 : (E0 != 0) = true := by rw [bne_iff_ne]; exact hE
    have hE3 : (E0 == 0) = false := by rw [beq_eq_false_iff_ne]; exact hE
    clear hE
    go_enter Tryd.func7, Tryd.ntmps7
    go_wp2_with fail
    refine H1.out.mono ?_
    rintro e w1 ⟨a, n, vs, rfl, hA, hC⟩
    obtain rfl : n = 0 := by
      obtain ⟨a', c', hv, _⟩ := hA.row.shape
      cases hv; rfl
    have HC := Lib.hid hC
    clear hA hC H1
    go_wp2_with fail
    refine (awake_any _ (U8.chg hT HC.out)).mono ?_
    rintro e w5 ⟨rfl, h5⟩
    have H5 := Lib.hid (HC.out.then0 h5)
    clear h5
    go_wp2
    go_ret
    exact ⟨rfl, H5.out⟩
  · have HBT := Lib.hid hbt
    have HST := Lib.hid hst
    have HL8 := Lib.hid hl8
    have HB := Lib.hid (show ∀ k, (textOf (ts.take k)).length ≤ 5000000 from fun k => by
      have := textOf_bound (ts.take k) 2049 (fun t ht => by have := (hst t (List.mem_of_mem_take ht)).1; omega)
      have h2 : (ts.take k).length ≤ 2048 := by rw [List.length_take]; omega
      have := Nat.mul_le_mul_right 2050 h2
      omega)
    have l8 : (l.length : Int) ≤ 2048 := by omega
    clear hbt hst hl8
    go_enter Tryd.func7, Tryd.ntmps7
    go_wp2_with fail
    refine H1.out.mono ?_
    rintro e w1 ⟨a, n, vs, rfl, hA, hC⟩
    obtain ⟨_, _, hv1, _, _⟩ := hA.row.shape
    obtain rfl : n = ts.length := by cases hv1; rfl
    have HA := Lib.hid hA
    have HC := Lib.hid hC
    clear hA hC H1 hv1
    go_wp2_with fail
    go_loopg [6, 7] (ts.length + 1) (fun g c6 c7 wr => ∃ k : Nat, ts.length < k + g ∧ k ≤ ts.length ∧ c7 = .int .i64 k ∧ c6 = .string (Lx.strB (textOf (ts.take k))) ∧ Chg [] w1 wr)
    case atStart => exact ⟨0, by omega, by omega, rfl, rfl, Chg.refl _ _⟩
    case round =>
      obtain ⟨k, hg, hk, rfl, rfl, hch⟩ := hrel
      have HCH := Lib.hid hch
      clear hch
      have k0 : (0 : Int) ≤ (k : Int) := by omega
      by_cases hlt : k < ts.length
      · cases gk with
        | zero => omega
        | succ g =>
          have hd : decide (k < ts.length) = true := decide_eq_true hlt
          have k1 : (k : Int) < (ts.length : Int) := by omega
          have k2 : 0 < ts.length := by omega
          obtain ⟨t, ht⟩ : ∃ t, ts[k]? = some t := ⟨_, List.getElem?_eq_getElem hlt⟩
          obtain ⟨g1, a3, n3, rfl, x0, x1, x2, x3, hP⟩ := (HA.out.kept0 HCH.out).cell4 k t ht
          obtain ⟨hs0, hs⟩ := HST.out t (List.mem_of_getElem? ht)
          have HT := Lib.hid ht
          have HG := Lib.hid hg
          have hbk := HB.out k
          have htz := Lx.strB_size t.text
          have hsz2 := Lx.strB_size (textOf (ts.take k))
          have o1 := eq_false (show ¬ 9223372036854775807 < (textOf (ts.take k)).length + t.text.length from by omega)
          have o2 := eq_false (show ¬ 9223372036854775807 < (textOf (ts.take k)).length + t.text.length + 1 from by omega)
          clear ht hP hg hbk
          by_cases hk3 : t.kind = 3
          · have e3 : (t.kind != 3) = false := by rw [bne_eq_false_iff_eq]; exact hk3
            have e4 : (t.kind == 3) = true := by rw [beq_iff_eq]; exact hk3
            clear hs hs0 hk3
            go_wp2_with fail
            go_quiet (fail)
            all_goals
              have HCN := Lib.hid (HCH.out.drewN nq)
              have y1 := ((Chg.refl [] wr).drewN nq).cell x1 (by simp)
              generalize wr.drewN nq = w3 at *
              go_wp2
              go_roundg g
              case measure => omega
              case rel => exact ⟨k + 1, by have := HG.out; omega, by omega, by go_num, back_text ts k t HT.out _ _ rfl rfl, HCN.out⟩
          · have e3 : (t.kind != 3) = true := by rw [bne_iff_ne]; exact hk3
            have e4 : (t.kind == 3) = false := by rw [beq_eq_false_iff_ne]; exact hk3
            obtain ⟨_, s2, s3⟩ := hs.resolve_left hk3
            rw [Nat.sub_zero] at s2 s3
            have q0 : (0 : Int) ≤ (t.pos : Int) := by omega
            have q1 : (t.pos : Int) ≤ (t.pos : Int) + (t.text.length : Int) := by omega
            have q2 : (t.pos : Int) + (t.text.length : Int) ≤ (l.length : Int) := by omega
            have q3 : (0 : Int) ≤ (t.pos : Int) + (t.text.length : Int) := by omega
            have hw := Lib.hid (show IntKind.i64.wrap ((t.pos : Int) + (t.text.length : Int)) = (t.pos : Int) + (t.text.length : Int) from by rw [IntKind.wrap_i64]; have := HL8.out; omega)
            have hx5 := Lib.hid (show (Lx.strB l).extract t.pos (t.pos + t.text.length) = Lx.strB t.text from by rw [Lx.strB_extract, show t.pos + t.text.length - t.pos = t.text.length from by omega, s3])
            have hx6 := Lib.hid (show (Lx.strB l).extract t.pos ((t.pos : Int) + (t.text.length : Int)).toNat = Lx.strB t.text from by rw [show ((t.pos : Int) + (t.text.length : Int)).toNat = t.pos + t.text.length from by omega]; exact hx5.out)
            clear hs hs0 hk3 s2 s3
            have hw' := hw.out
            have xx5 := hx5.out
            have xx6 := hx6.out
            go_wp2_with fail
            go_quiet (fail)
            all_goals
              clear hw' xx5 xx6
              have HCN := Lib.hid (HCH.out.drewN nq)
              have y1 := ((Chg.refl [] wr).drewN nq).cell x1 (by simp)
              generalize wr.drewN nq = w3 at *
              go_wp2
              go_roundg g
              case measure => omega
              case rel => exact ⟨k + 1, by have := HG.out; omega, by omega, by go_num, back_text ts k t HT.out _ _ rfl rfl, HCN.out⟩
      · obtain rfl : k = ts.length := by omega
        have hd : decide (ts.length < ts.length) = false := decide_eq_false (by omega)
        rw [List.take_length]
        have hsz2 := Lx.strB_size (textOf ts)
        clear hg
        by_cases hbig : 2048 < (textOf ts).length
        · have hbd : decide ((2048 : Int) < ((textOf ts).length : Int)) = true := decide_eq_true (by omega)
          clear hbig
          go_wp2_with fail
          refine (awake_any _ (U8.chg hT (HC.out.then0 HCH.out))).mono ?_
          rintro e w5 ⟨rfl, h5⟩
          have H5 := Lib.hid ((HC.out.then0 HCH.out).then0 h5)
          clear h5
          go_wp2
          go_ret
          exact ⟨rfl, H5.out⟩
        · have hbd : decide ((2048 : Int) < ((textOf ts).length : Int)) = false := decide_eq_false (by omega)
          have h2 := tokens_any (textOf ts) wr (by omega) (U8.chg hT (HC.out.then0 HCH.out))
          rw [HBT.out (by omega)] at h2
          have H2 := Lib.hid h2
          clear h2 hbig
          go_wp2_with fail
          refine H2.out.mono ?_
          rintro e w2 ⟨a2, n2, vs2, rfl, hA2, hC2⟩
          obtain ⟨_, _, hv2, _, _⟩ := hA2.row.shape
          obtain rfl : n2 = (relist 0 ts).length := by cases hv2; rfl
          have hrl := relist_len 0 ts
          have HA2 := Lib.hid hA2
          have HA1 := Lib.hid ((HA.out.kept0 HCH.out).kept0 hC2)
          have HC2 := Lib.hid ((HC.out.then0 HCH.out).then0 hC2)
          clear hA2 hC2 H2 hv2 HCH HC
          simp only [hrl]
          rw [hrl] at HA2
          clear hrl
          go_wp2_with fail
          go_loopg [11] (ts.length + 1) (fun g c11 wr => ∃ k : Nat, ts.length < k + g ∧ k ≤ ts.length ∧ c11 = .int .i64 k ∧ Chg [] w2 wr)
          case atStart => exact ⟨0, by omega, by omega, rfl, Chg.refl _ _⟩
          case round =>
            obtain ⟨k, hg, hk, rfl, hch⟩ := hrel
            have HCH := Lib.hid hch
            clear hch
            have k0 : (0 : Int) ≤ (k : Int) := by omega
            by_cases hlt : k < ts.length
            · cases gk with
              | zero => omega
              | succ g =>
                have hd : decide (k < ts.length) = true := decide_eq_true hlt
                have k1 : (k : Int) < (ts.length : Int) := by omega
                have k2 : 0 < ts.length := by omega
                obtain ⟨t, ht⟩ : ∃ t, ts[k]? = some t := ⟨_, List.getElem?_eq_getElem hlt⟩
                obtain ⟨p2, ht2⟩ := relist_get 0 ts k t ht
                obtain ⟨g1, a3, n3, rfl, x0, x1, x2, x3, hP⟩ := (HA1.out.kept0 HCH.out).cell4 k t ht
                obtain ⟨g2, a4, n4, rfl, y0, y1, y2, y3, hQ⟩ := (HA2.out.kept0 HCH.out).cell4 k _ ht2
                have HP := Lib.hid hP
                have HQ := Lib.hid hQ
                have HPL2 := Lib.hid (HPL.out t (List.mem_of_getElem? ht))
                have HG := Lib.hid hg
                clear hP hQ ht ht2 hg
                go_wp2_with fail
                go_region_held3 (fun w' => w'.cell? ⟨g1, k * 4, none⟩ = some (.int .i64 t.kind) ∧ w'.cell? ⟨g1, k * 4 + 1, none⟩ = some (.string (Lx.strB t.text)) ∧ w'.cell? ⟨g1, k * 4 + 2, none⟩ = some (.slice a3 n3 n3) ∧ w'.cell? ⟨g2, k * 4, none⟩ = some (.int .i64 t.kind) ∧ w'.cell? ⟨g2, k * 4 + 1, none⟩ = some (.string (Lx.strB t.text)) ∧ w'.cell? ⟨g2, k * 4 + 2, none⟩ = some (.slice a4 n4 n4))
                  (first | exact ⟨x0, x1, x2, y0, y1, y2⟩ | exact S4.out | exact S3.out | exact S1.out | exact S2.out)
                  (first
                    | (go_at_call 13; (with_reducible refine (parts_any a4 n4 n4 t.parts _ (HQ.out.kept0 HCL.out) (by have := HPL2.out; omega)).mono ?_); rintro e w5 ⟨a7, n7, c7, rfl, P5, C5⟩; have HC5 := Lib.hid (HCL.out.then0 C5); have HK7 := Lib.hid P5; have HK6 := Lib.hid (HPL6.out.kept0 C5); have S3 := Lib.hid (show _ ∧ _ ∧ _ ∧ _ ∧ _ ∧ _ from ⟨HC5.out.cell x0 (by simp), HC5.out.cell x1 (by simp), HC5.out.cell x2 (by simp), HC5.out.cell y0 (by simp), HC5.out.cell y1 (by simp), HC5.out.cell y2 (by simp)⟩); clear P5 C5)
                    | (go_at_call 13; (with_reducible refine (parts_any a3 n3 n3 t.parts _ (HP.out.kept0 HCM.out) (by have := HPL2.out; omega)).mono ?_); rintro e w5 ⟨a6, n6, c6, rfl, P5, C5⟩; have HC5 := Lib.hid (HCM.out.then0 C5); have HK6 := Lib.hid P5; have HK7 := Lib.hid (HPM7.out.kept0 C5); have S3 := Lib.hid (show _ ∧ _ ∧ _ ∧ _ ∧ _ ∧ _ from ⟨HC5.out.cell x0 (by simp), HC5.out.cell x1 (by simp), HC5.out.cell x2 (by simp), HC5.out.cell y0 (by simp), HC5.out.cell y1 (by simp), HC5.out.cell y2 (by simp)⟩); clear P5 C5)
                    | (go_at_call 13; (with_reducible refine (parts_any a4 n4 n4 t.parts _ (HQ.out.kept0 (Chg.refl [] _).drew) (by have := HPL2.out; omega)).mono ?_); rintro e w4 ⟨a7, n7, c7, rfl, P5, C5⟩; have HCM := Lib.hid C5.drew0; have HPM7 := Lib.hid P5; have S1 := Lib.hid (show _ ∧ _ ∧ _ ∧ _ ∧ _ ∧ _ from ⟨HCM.out.cell x0 (by simp), HCM.out.cell x1 (by simp), HCM.out.cell x2 (by simp), HCM.out.cell y0 (by simp), HCM.out.cell y1 (by simp), HCM.out.cell y2 (by simp)⟩); clear P5 C5)
                    | (go_at_call 13; (with_reducible refine (parts_any a3 n3 n3 t.parts _ (HP.out.kept0 (Chg.refl [] _).drew) (by have := HPL2.out; omega)).mono ?_); rintro e w4 ⟨a6, n6, c6, rfl, P5, C5⟩; have HCL := Lib.hid C5.drew0; have HPL6 := Lib.hid P5; have S2 := Lib.hid (show _ ∧ _ ∧ _ ∧ _ ∧ _ ∧ _ from ⟨HCL.out.cell x0 (by simp), HCL.out.cell x1 (by simp), HCL.out.cell x2 (by simp), HCL.out.cell y0 (by simp), HCL.out.cell y1 (by simp), HCL.out.cell y2 (by simp)⟩); clear P5 C5)
                    | (go_at_call 12; refine (same_any a7 a6 n7 c7 n6 c6 t.parts _ HK7.out HK6.out (by have := HPL2.out; omega)).mono ?_; rintro e w6 ⟨rfl, C6⟩; have HC6 := Lib.hid (HC5.out.then0 C6); have S4 := Lib.hid (show _ ∧ _ ∧ _ ∧ _ ∧ _ ∧ _ from ⟨HC6.out.cell x0 (by simp), HC6.out.cell x1 (by simp), HC6.out.cell x2 (by simp), HC6.out.cell y0 (by simp), HC6.out.cell y1 (by simp), HC6.out.cell y2 (by simp)⟩); clear C6))
                all_goals
                  go_wp2
                  go_roundg g
                  case measure => omega
                  case rel => exact ⟨k + 1, by have := HG.out; omega, by omega, by go_num, HCH.out.then0 HC6.out⟩
            · obtain rfl : k = ts.length := by omega
              have hd : decide (ts.length < ts.length) = false := decide_eq_false (by omega)
              clear hg
              go_wp2_with fail
              refine (awake_any _ (U8.chg hT (HC2.out.then0 HCH.out))).mono ?_
              rintro e w5 ⟨rfl, h5⟩
              have H5 := Lib.hid ((HC2.out.then0 HCH.out).then0 h5)
              clear h5
              go_wp2
              go_ret
              exact ⟨rfl, H5.out⟩

end Go.Proofs.YtocngneomllmoaaDoor
