/-
  PipeOrder, walked: the law's own loop.
-/
import Derived.Test.YtihkanbkcnonoaaOrder
import Derived.Laws.Bits128
import Derived.Deep.DeepCutAuto
import Derived.Deep.LoopGhost
import Derived.Deep.RegionHeld3
namespace Go.Proofs.Ytihkanbkcnonoaa
open Go.RowKit Go.Maps
set_option linter.unusedVariables false

theorem Pieces.kept0 {w w' : World} {a : Option Addr} {n cp : Nat} {ps : List (List UInt8)} (h : Pieces w a n cp ps) (hc : Chg [] w w') : Pieces w' a n cp ps :=
  ⟨h.len, h.cap, fun k hk => by
    obtain ⟨b, off, ak, ck, h1, h2, h3, h4, h5⟩ := h.at_ k hk
    exact ⟨b, off, ak, ck, h1, hc.cell h2 (by simp), h3, h4, h5.kept0 hc⟩⟩

theorem Same.drew0 {X : List Nat} {w w' : World} (h : Same X w.drew w') : Same X w w' := ⟨h.size, h.block⟩

theorem Row.facts {w : World} {E : TypeId} {size : Nat} {a : Option Addr} {n m c : Nat} {xs : List Value} (h : Row w E size (.slice a m c) n xs) : m = n ∧ n ≤ c ∧ c ≤ maxLen := by
  obtain ⟨a', c', h1, h2, h3⟩ := h.shape
  cases h1
  exact ⟨rfl, h2, h3⟩

theorem conv_row {w : World} {a : Option Addr} {n c : Nat} {bs : List UInt8} (h : SrcAt w a (bs.map byteV)) (hn : bs.length = n) : (convert 31 9 (.slice a n c)).run Try.prog w = .ok (.string ⟨bs.toArray⟩) w := by
  subst hn
  exact run_conv_string w _ _ _ Try.underlying31 Try.underlying5 Try.underlying9 a c bs h

/-- what a write by the pipe's own label answers. -/
theorem w_cases (b d : List UInt8) (hb : b.length ≤ 256) :
    ∃ r1 r2 : Int, ∃ b' : List UInt8, Pi.write (one L4 b 1 1) L4 1 d = ((r1, r2), one L4 b' 1 1) ∧
      ((r1 = 0 ∧ r2 = 63 ∧ b' = b ∧ b.length = 256) ∨ ∃ m : Nat, r1 = m ∧ r2 = 0 ∧ b' = b ++ d.take m ∧ m ≤ d.length ∧ b.length + m ≤ 256 ∧ (m = 0 → d.length = 0)) := by
  by_cases h : 0 < d.length ∧ min d.length (256 - b.length) = 0
  · exact ⟨0, 63, b, w_full L4 rfl b d h.1 (by omega), .inl ⟨rfl, rfl, rfl, by omega⟩⟩
  · exact ⟨_, _, _, w_ok L4 rfl b d _ rfl h, .inr ⟨_, rfl, rfl, rfl, by omega, by omega, by omega⟩⟩

/-- and a read. -/
theorem r_cases (b : List UInt8) (q : Nat) :
    ∃ r : Int, ∃ out b' : List UInt8, Pi.read (one L4 b 1 1) L4 1 q = ((out, r), one L4 b' 1 1) ∧ b = out ++ b' ∧ ((r = 63 ∧ out = [] ∧ b = []) ∨ r = 0) := by
  by_cases h : b = [] ∧ 0 < q
  · obtain ⟨rfl, hq⟩ := h
    exact ⟨63, [], [], r_none L4 rfl q hq, rfl, .inl ⟨rfl, rfl, rfl⟩⟩
  · exact ⟨0, _, _, r_ok L4 rfl b q h, (List.take_append_drop _ _).symm, .inr rfl⟩

theorem lab4_new (w : World) (E E2 : TypeId) (f g : Nat × Nat) : Lab4 ((w.alloc (.cells #[.int .i64 4] E f)).alloc (.cells #[.slice (some ⟨w.heap.size, 0, none⟩) 1 1, .slice none 0 0] E2 g)) (w.heap.size + 1) w.heap.size := by
  have h1 : (w.alloc (.cells #[.int .i64 4] E f)).heap.size = w.heap.size + 1 := by simp
  have o1 := obj_alloc_old (obj_alloc_new w (.cells #[.int .i64 4] E f)) (.cells #[.slice (some ⟨w.heap.size, 0, none⟩) 1 1, .slice none 0 0] E2 g)
  have o2 := obj_alloc_new (w.alloc (.cells #[.int .i64 4] E f)) (.cells #[.slice (some ⟨w.heap.size, 0, none⟩) 1 1, .slice none 0 0] E2 g)
  rw [h1] at o2
  exact ⟨cell_of_obj o2 rfl, cell_of_obj o2 rfl, cell_of_obj o1 rfl⟩

set_option maxHeartbeats 4000000 in
set_option maxRecDepth 100000 in
theorem order_any (a : Option Addr) (len cap : Nat) (ps : List (List UInt8)) (ar : Option Addr) (lr cr : Nat) (zs : List Int) (w : World) (h : Pieces w a len cap ps) (hz : Nums w ar lr cr zs) :
    Calls Try.prog 4 #[.slice a len cap, .slice ar lr cr] w fun e w' => e = .returned (.bool true) ∧ Chg [] w w' := by
  have hcm : len ≤ 9223372036854775807 := by have h1 := h.cap; unfold maxLen at h1; omega
  have hcz : lr ≤ 9223372036854775807 := by have h1 := hz.2.1; have h2 := hz.2.2.1; unfold maxLen at h2; omega
  obtain ⟨i0, hi, hz0, hz1, hz2⟩ := info_parts Try.infoByte
  have HN := Lib.hid h
  have HZ := Lib.hid hz
  clear h hz
  go_enter Try.func4, Try.ntmps4
  go_wp2_with fail
  refine (new_at w).mono ?_
  rintro e w1 ⟨t, rfl, h1⟩
  have H1 := Lib.hid h1
  clear h1
  go_wp2_with fail
  have hL := lab4_new w1 3 26 (0, 0) (0, 0)
  have hA : At w ((w1.alloc (.cells #[.int .i64 4] 3)).alloc (.cells #[.slice (some ⟨w1.heap.size, 0, none⟩) 1 1, .slice none 0 0] 26)) t Pi.new [w1.heap.size + 1, w1.heap.size] := by
    have := (H1.out.fresh (.cells #[.int .i64 4] 3)).fresh (.cells #[.slice (some ⟨w1.heap.size, 0, none⟩) 1 1, .slice none 0 0] 26)
    simpa using this
  have hs1 := H1.out.chg.size
  refine (make_at hA (new_ok 9) (by omega) _ 1 1 none 0 0 L4 hL.lab (r1 := 1) (r2 := 0) (s' := one L4 [] 1 1) rfl).mono ?_
  rintro e w2 ⟨rfl, h2, s2⟩
  have hL2 := hL.same s2 (by simp) (by simp)
  have hB : Hid (w1.heap.size + 1 ≠ w1.heap.size ∧ w.heap.size ≤ w1.heap.size + 1 ∧ w.heap.size ≤ w1.heap.size) := Lib.hid ⟨by omega, by omega, hs1⟩
  generalize w1.heap.size + 1 = B at *
  generalize w1.heap.size = C at *
  have H2 := Lib.hid h2
  have HL := Lib.hid hL2
  clear h2 H1 s2 hL hL2 hA hs1
  go_wp2_with fail
  go_loopg [9, 10, 11] 30 (fun g vi vo c wr => ∃ k : Nat, ∃ I O b : List UInt8, k ≤ len ∧ k ≤ 30 ∧ g = 30 - k ∧ c = .int .i64 k ∧ I.length ≤ 256 * k ∧ Turn w wr t B C vi vo I O b)
  case atStart =>
    refine ⟨0, [], [], [], Nat.zero_le _, Nat.zero_le _, rfl, rfl, Nat.le_refl _, ⟨rfl, by simp, Row.nil _ _ _ _, Row.nil _ _ _ _, by simpa [rowBlock] using H2.out, HL.out, ?_, ?_⟩⟩
    · simp [rowBlock]; exact hB.out.1
    · simp [rowBlock]; exact ⟨hB.out.2.1, hB.out.2.2⟩
  case round =>
    obtain ⟨k, I, O, b, hk, hk30, hg, rfl, hI, ht⟩ := hrel
    clear H2 HL
    have hcat := congrArg List.length ht.cat
    rw [List.length_append] at hcat
    have hb0 := ht.room
    obtain ⟨ai, li, ci, rfl, hli⟩ := ht.r1.shape3
    obtain ⟨ao, lo, co, rfl, hlo⟩ := ht.r2.shape3
    have HT := Lib.hid ht
    have hmi : li ≤ 256 * k := by rw [hli.out]; exact hI
    have hml : li ≤ lo + b.length := by rw [hli.out, hlo.out]; omega
    have hml2 : lo + b.length ≤ li := by rw [hli.out, hlo.out]; omega
    clear ht hcat hI
    by_cases hlt : k < len ∧ k < 30
    · obtain ⟨hlt, hlt30⟩ := hlt
      obtain ⟨ab, off, ak, ck, rfl, kp0, hp1, hp2, hp3⟩ := HN.out.at_ k hlt
      have KP0 := Lib.hid kp0
      have kp := HT.out.at_.chg.cell kp0 (by simp)
      have HP := Lib.hid (hp3.kept0 HT.out.at_.chg)
      have HP0 := Lib.hid hp3
      clear kp0 hp3
      generalize hd : ps.getD k [] = d at *
      obtain ⟨r1, r2, b', hw, hcases⟩ := w_cases b d hb0
      generalize hnd : d.length = nd at *
      have HC := Lib.hid hcases
      have HK : Hid (b'.length ≤ 256) := Lib.hid (by
        rcases hcases with ⟨_, _, rfl, _⟩ | ⟨m, _, _, rfl, h1, h2, h3⟩
        · exact hb0
        · simp; omega)
      have HCK : Hid (ck ≤ maxLen) := Lib.hid hp2
      have hp2 : ck ≤ 9223372036854775807 := by unfold maxLen at hp2; omega
      have k0 := HT.out.lab.c0
      have k1 := HT.out.lab.c1
      clear hcases hd
      go_wp2_with fail
      go_region_held3 (fun w' => w'.cell? ⟨B, 0, none⟩ = some (.slice (some ⟨C, 0, none⟩) 1 1) ∧ w'.cell? ⟨B, 1, none⟩ = some (.slice none 0 0) ∧ w'.cell? ⟨ab, off + k, none⟩ = some (.slice ak nd ck))
        (first | exact ⟨k0, k1, kp⟩ | exact ⟨l0, l1, lp⟩)
        ((go_at_call 10; refine (write_at (N := 9) HT.out.at_.drew (one_ok rfl hb0 (by simp) (by simp) (by omega)) _ 1 1 none 0 0 L4 1 wf1 (HT.out.lab.lab.kept0 (Chg.refl [] wr).drew) ak nd ck d HP.out hnd hp1 HCK.out hw).mono ?_; rintro e w3 ⟨rfl, h3, s3⟩; have l0 := s3.cell k0 (by simp); have l1 := s3.cell k1 (by simp); have lp := h3.chg.cell KP0.out (by simp)))
      have T3 := Lib.hid (HT.out.call h3 s3.drew0)
      have HP3 := Lib.hid (HP0.out.kept0 h3.chg)
      have H3 := Lib.hid h3
      clear s3 h3 k0 k1 kp HP
      go_upto_if 51 with fail
      go_cut [9] (fun v9 wc => ∃ I' : List UInt8, I'.length ≤ 256 * (k + 1) ∧ Turn w wc t B C v9 (.slice ao lo co) I' O b')
      case first =>
        rcases HC.out with ⟨rfl, rfl, rfl, hb256⟩ | ⟨m, rfl, rfl, rfl, hm1, hm2, hm3⟩
        · have hdiff : ((li : Int) - (lo : Int)) = 256 := by omega
          go_wp2_with fail
          go_meet
          case rel => exact ⟨I, by rw [← hli.out]; omega, HT.out.cat, HK.out, T3.out.1, T3.out.2.1, H3.out, T3.out.2.2, HT.out.apart, HT.out.new⟩
        · have HM3 := Lib.hid hm3
          clear hm3
          have hlen : (d.take m).length = m := by simp; omega
          have HLEN := Lib.hid hlen
          clear hlen
          by_cases hm0 : m = 0
          · subst hm0
            have hnd0 : nd = 0 := HM3.out rfl
            go_wp2_with (at_builtin; refine wpList_append_row _ rfl _ _ 31 rfl 5 i0 (.int .u8 0) 1 1 Try.underlying31 hi hz0 hz1 hz2 rfl (by decide) _ _ _ rfl T3.out.1 ak 0 ck ((d.take 0).map byteV) rfl (by simp) (by rw [List.map_take]; exact HP3.out.take _) (bytes_one _ _) (by have := hli.out; unfold maxLen; omega) (by have := hli.out; omega) ?_)
            intro v' w4 q1 q2 q3
            go_wp2_with fail
            go_meet
            case rel => exact ⟨I ++ d.take 0, by simp; rw [← hli.out]; omega, turn_in H3.out T3.out.2.1 T3.out.2.2 HT.out.apart HT.out.new (by rw [HLEN.out]; first | (rw [List.map_take]; exact q1) | simpa using q1) q2 q3 HT.out.cat rfl HK.out⟩
          · have hmb : ((m : Int) == 0) = false := by simp; omega
            go_wp2_with (at_builtin; refine wpList_append_row _ rfl _ _ 31 rfl 5 i0 (.int .u8 0) 1 1 Try.underlying31 hi hz0 hz1 hz2 rfl (by decide) _ _ _ rfl T3.out.1 ak m ck ((d.take m).map byteV) rfl (by simp; omega) (by rw [List.map_take]; exact HP3.out.take _) (bytes_one _ _) (by have := hli.out; unfold maxLen; omega) (by have := hli.out; omega) ?_)
            intro v' w4 q1 q2 q3
            go_wp2_with fail
            go_meet
            case rel => exact ⟨I ++ d.take m, by simp; rw [← hli.out]; omega, turn_in H3.out T3.out.2.1 T3.out.2.2 HT.out.apart HT.out.new (by rw [HLEN.out]; first | (rw [List.map_take]; exact q1) | simpa using q1) q2 q3 HT.out.cat rfl HK.out⟩
      case rest =>
        obtain ⟨I2, hI2, ht⟩ := hcut
        clear hmi hml hml2 hb0 hw HC HK HP3 H3 T3 HP0 HT hnd HCK l0 l1 lp hp1 hp2 KP0 hli hlo
        have hcat := congrArg List.length ht.cat
        rw [List.length_append] at hcat
        obtain ⟨ai, li, ci, rfl, hli⟩ := ht.r1.shape3
        obtain ⟨hlo, hf1, hf2⟩ := ht.r2.facts
        obtain ⟨hf0, hf3, hf4⟩ := ht.r1.facts
        have hmi : li ≤ 256 * (k + 1) := by rw [hli.out]; exact hI2
        have HT := Lib.hid ht
        have HHL := Lib.hid hlo
        have HF := Lib.hid (And.intro hf3 hf4)
        have k0 := HT.out.lab.c0
        have k1 := HT.out.lab.c1
        have HBR := Lib.hid ht.room
        have HCA := Lib.hid hcat
        have HI2 := Lib.hid hI2
        clear ht hcat hlo hf0 hf1 hf2 hf3 hf4 hI2
        go_upto_if 106 with fail
        go_cut [10, 14, 15] (fun v10 v14 v15 wd => ∃ O2 b2 : List UInt8, Turn w wd t B C (.slice ai li ci) v10 I2 O2 b2)
        case first =>
          by_cases hr : k < lr
          · obtain ⟨br, or_, z, rfl, kz0⟩ : ∃ b off z, ar = some ⟨b, off, none⟩ ∧ w.cell? ⟨b, off + k, none⟩ = some (.int .i64 z) := by
              rcases HZ.out.cases with ⟨_, h0⟩ | ⟨b, off, rfl, h1, _, _, h2⟩
              · omega
              · exact ⟨b, off, _, rfl, h2 k hr⟩
            have kz := HT.out.at_.chg.cell kz0 (by simp)
            have KZ0 := Lib.hid kz0
            clear kz0
            obtain ⟨q, hq, hq2⟩ : ∃ q : Nat, z % 128 = (q : Int) ∧ q ≤ 127 := ⟨(z % 128).toNat, by omega, by omega⟩
            have hbit : bits BinOp.and IntKind.i64 z 127 = (q : Int) := by rw [i64_and127, hq]
            clear hq
            obtain ⟨g1, out, b2, hrd, hbo, hg1⟩ := r_cases b' q
            have HBO := Lib.hid hbo
            have HG := Lib.hid hg1
            have HM := Lib.hid (rfl : out.length = out.length)
            clear hbo hg1
            go_wp2_with fail
            go_region_held3 (fun w' => w'.cell? ⟨B, 0, none⟩ = some (.slice (some ⟨C, 0, none⟩) 1 1) ∧ w'.cell? ⟨B, 1, none⟩ = some (.slice none 0 0) ∧ w'.cell? ⟨br, or_ + k, none⟩ = some (.int .i64 z))
              (first | exact ⟨k0, k1, kz⟩ | exact ⟨l0, l1, lz⟩)
              ((go_at_call 11; refine (read_at (N := 9) HT.out.at_.drew (one_ok rfl HBR.out (by simp) (by simp) (by omega)) _ 1 1 none 0 0 L4 1 wf1 (HT.out.lab.lab.kept0 (Chg.refl [] wc).drew) q (by simp [Lit.wf, IntKind.min, IntKind.max, IntKind.signed, IntKind.bits]; omega) out.length rfl hrd).mono ?_; rintro e w5 ⟨ax, cx, rfl, rx, h5, s5⟩; have l0 := s5.cell k0 (by simp); have l1 := s5.cell k1 (by simp); have lz := h5.chg.cell KZ0.out (by simp)))
            have h5' := h5.sub (Y := B :: C :: (rowBlock (.slice ai li ci) ++ rowBlock (.slice ao lo co))) (fun k hk => List.mem_append_right _ hk)
            have T5 := Lib.hid (HT.out.call h5' s5.drew0)
            have H5 := Lib.hid h5'
            have RX := Lib.hid rx.src
            have HB2 : Hid (b2.length ≤ 256) := Lib.hid (by have h1 := HBR.out; have h2 := congrArg List.length HBO.out; rw [List.length_append] at h2; omega)
            clear h5 h5' s5 rx k0 k1 kz
            rcases HG.out with ⟨rfl, rfl, rfl⟩ | rfl
            · have hll : lo = li := by have h1 := HHL.out; have h2 := hli.out; have h3 := HCA.out; simp at h3; omega
              subst hll
              go_wp2_with fail
              go_meet
              case rel => exact ⟨O, b2, ⟨by have := HBO.out; rw [List.nil_append] at this; rw [← this]; exact HT.out.cat, HB2.out, T5.out.1, T5.out.2.1, H5.out, T5.out.2.2, HT.out.apart, HT.out.new⟩⟩
            · go_wp2_with (at_builtin; refine wpList_append_row _ rfl _ _ 31 rfl 5 i0 (.int .u8 0) 1 1 Try.underlying31 hi hz0 hz1 hz2 rfl (by decide) _ _ _ rfl T5.out.2.1 ax _ cx (out.map byteV) rfl (by simp) RX.out (by have := bytes_one out out.length; rwa [List.take_length] at this) (by have h1 := HCA.out; have h2 := congrArg List.length HBO.out; rw [List.length_append] at h2; have := HI2.out; unfold maxLen; omega) (by have h1 := HCA.out; have h2 := congrArg List.length HBO.out; rw [List.length_append] at h2; have := HI2.out; omega) ?_)
              intro v' w6 q1 q2 q3
              go_wp2_with fail
              go_meet
              case rel => exact ⟨O ++ out, b2, turn_out H5.out T5.out.1 T5.out.2.2 HT.out.apart HT.out.new q1 q2 q3 (by rw [← HBO.out]; exact HT.out.cat) HB2.out⟩
          · go_wp2_with fail
            go_meet
            case rel => exact ⟨O, b', HT.out⟩
        case rest =>
          obtain ⟨O2, b2, ht⟩ := hcut
          clear HT k0 k1 HHL HCA HBR
          have hcat := ht.cat
          obtain ⟨ao, lo, co, rfl, hlo⟩ := ht.r2.shape3
          obtain ⟨f1, f2, f3⟩ := ht.r1.facts
          have hle : lo ≤ li := by rw [hlo.out, f1, hcat, List.length_append]; omega
          have hle2 : li ≤ ci := by omega
          have hle3 : ci ≤ 9223372036854775807 := by unfold maxLen at f3; omega
          have e1 : (convert 31 9 (.slice ao lo co)).run Try.prog wc.drew = .ok (.string ⟨O2.toArray⟩) wc.drew := conv_row ht.r2.drew.src hlo.out.symm
          have e2 : (convert 31 9 (.slice ai lo ci)).run Try.prog wc.drew = .ok (.string ⟨O2.toArray⟩) wc.drew := conv_row (by
            have := ht.r1.drew.src.take O2.length
            rw [← List.map_take, hcat, List.take_left] at this
            exact this) hlo.out.symm
          have HT := Lib.hid ht
          clear ht hcat f1 f2 f3
          go_wp2_with fail
          go_region
          all_goals
            go_wp2_with fail
            go_roundg (30 - (k + 1))
            case measure => omega
            case rel => exact ⟨k + 1, I2, O2, b2, by omega, by omega, rfl, by go_num, HI2.out, HT.out.drew⟩
    · have hz : len ≤ k ∨ (k < len ∧ 30 ≤ k) := by omega
      have HC := Lib.hid HT.out.at_.chg
      clear hlt HT hml hml2 hmi hb0
      rcases hz with hz | ⟨hz, hz2⟩
      all_goals
        go_wp2_with fail
        refine (awake_any wr).mono ?_
        rintro e w5 ⟨rfl, h5⟩
        have H5 := Lib.hid (HC.out.then0 h5)
        clear h5
        go_wp2
        go_ret
        exact ⟨rfl, H5.out⟩

end Go.Proofs.Ytihkanbkcnonoaa
