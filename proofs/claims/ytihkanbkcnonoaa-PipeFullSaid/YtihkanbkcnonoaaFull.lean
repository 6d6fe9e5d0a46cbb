/-
  PipeFull and pipeEnds, walked.
-/
import Derived.Test.YtihkanbkcnonoaaOne
import Derived.Deep.RegionHeld3
namespace Go.Proofs.Ytihkanbkcnonoaa
open Go.RowKit Go.Maps
set_option linter.unusedVariables false

def zeroArr (n : Nat) : Array Value := madeCells (Value.int .u8 0).cells (n * 1)

theorem srcXY (w : World) (E : TypeId) (f : Nat × Nat) : SrcAt (w.alloc (.cells #[.int .u8 120, .int .u8 121] E f)) (some ⟨w.heap.size, 0, none⟩) (([120, 121] : List UInt8).map byteV) := srcNew w #[.int .u8 120, .int .u8 121] E f

theorem zeroArr_list (n : Nat) : (zeroArr n).toList = (zeros n).map byteV := by
  have hz : ∀ k : Nat, (Value.int .u8 0).cells[k % (Value.int .u8 0).cells.size]! = Value.int .u8 0 := by
    intro k
    have : (Value.int .u8 0).cells.size = 1 := rfl
    rw [this, Nat.mod_one]
    rfl
  unfold zeroArr zeros madeCells
  simp only [hz, Nat.mul_one]
  rw [Array.toList_map, Array.toList_range, List.map_replicate, List.map_const', List.length_range]
  rfl

theorem src_zeros (w : World) (n : Nat) (E : TypeId) (f : Nat × Nat) : SrcAt (w.alloc (.cells (zeroArr n) E f)) (some ⟨w.heap.size, 0, none⟩) ((zeros n).map byteV) := by
  rw [← zeroArr_list]
  exact srcNew w (zeroArr n) E f

theorem make_zeros (n : Nat) (hn : n ≤ 512) (w : World) : (Instr.makeSlice 31 (.int .i64 (n : Int)) (.int .i64 (n : Int))).run Try.prog w = .ok (.slice (some ⟨w.heap.size, 0, none⟩) n n) (w.alloc (.cells (zeroArr n) 5)) := by
  obtain ⟨i0, hi, hz0, hz1, hz2⟩ := info_parts Try.infoByte
  rw [run_make w 31 5 i0 (.int .u8 0) Try.underlying31 hi hz0 .i64 .i64 (n : Int) (n : Int) (by omega) (by omega) (by rw [hz2]; omega) (by omega), hz1, Int.toNat_natCast]
  rfl


set_option maxHeartbeats 2000000 in
theorem srcX (w : World) (E : TypeId) (f : Nat × Nat) : SrcAt (w.alloc (.cells #[.int .u8 120] E f)) (some ⟨w.heap.size, 0, none⟩) (([120] : List UInt8).map byteV) := srcNew w #[.int .u8 120] E f
theorem srcXYZ (w : World) (E : TypeId) (f : Nat × Nat) : SrcAt (w.alloc (.cells #[.int .u8 120, .int .u8 121, .int .u8 122] E f)) (some ⟨w.heap.size, 0, none⟩) (([120, 121, 122] : List UInt8).map byteV) := srcNew w #[.int .u8 120, .int .u8 121, .int .u8 122] E f

/-- the label with no tag that is secret, and one that vouches: in a new block. -/
theorem lab3 (w : World) (E : TypeId) (f : Nat × Nat) : LabAt (w.alloc (.cells #[.int .i64 3] E f)) none 0 0 (some ⟨w.heap.size, 0, none⟩) 1 1 ⟨[], [3]⟩ :=
  ⟨⟨rfl, Nat.le_refl _, Nat.zero_le _, by simp [SrcAt]⟩, ⟨rfl, Nat.le_refl _, by decide, srcNew w #[.int .i64 3] E f⟩⟩

theorem srcX2 (w : World) (o : Obj) (E : TypeId) (f : Nat × Nat) : SrcAt ((w.alloc o).alloc (.cells #[.int .u8 120] E f)) (some ⟨w.heap.size + 1, 0, none⟩) (([120] : List UInt8).map byteV) := by
  have := srcX (w.alloc o) E f
  simpa using this
theorem srcXYZ2 (w : World) (o : Obj) (E : TypeId) (f : Nat × Nat) : SrcAt ((w.alloc o).alloc (.cells #[.int .u8 120, .int .u8 121, .int .u8 122] E f)) (some ⟨w.heap.size + 1, 0, none⟩) (([120, 121, 122] : List UInt8).map byteV) := by
  have := srcXYZ (w.alloc o) E f
  simpa using this

theorem conv1 (w : World) (o : Obj) (C : Array Value) (n c : Nat) : (convert 31 31 (.slice (some ⟨w.heap.size + 1, 0, none⟩) n c)).run Try.prog ((w.alloc o).alloc (.cells C 5)) = .ok (.slice (some ⟨w.heap.size + 1, 0, none⟩) n c) ((w.alloc o).alloc (.cells C 5 (C.size, C.size + 1))) := by
  have h := Lib.run_convert_bytes_const (P := Try.prog) (w.alloc o) 31 5 C n c Try.underlying31 Try.underlying5
  rw [show (w.alloc o).heap.size = w.heap.size + 1 from by simp] at h
  exact h

theorem ends_any (t : Nat) (w0 w : World) (X : List Nat) (h : At w0 w t (one L0 [] 0 1) X) :
    Calls Try.prog 13 #[.pointer (some ⟨t, 0, none⟩), .agg #[.slice none 0 0, .slice none 0 0], .int .i64 1] w fun e w' => e = .returned (.bool true) ∧ Chg [] w0 w' := by
  have kc := fun (w : World) (o : Obj) (C : Array Value) (n c : Nat) => conv1 w o C n c
  have H := Lib.hid h
  clear h
  go_enter Try.func13, Try.ntmps13
  go_wp2_with fail
  refine (write_at (N := 9) ((H.out.alloc _).alloc _) (one_ok rfl (by simp) (by simp) (by simp) (by omega)) none 0 0 none 0 0 L0 1 wf1 (lab0 _) _ _ _ [120] (srcX2 _ _ _ _) rfl (Nat.le_refl _) (by decide) (r1 := 0) (r2 := 75) (s' := one L0 [] 0 1) rfl).mono ?_
  rintro e w3 ⟨rfl, h3, s3⟩
  have H3 := Lib.hid h3
  clear h3 s3 H
  go_wp2_with fail
  refine (write_at (N := 9) ((H3.out.alloc _).alloc _) (one_ok rfl (by simp) (by simp) (by simp) (by omega)) none 0 0 _ 1 1 ⟨[], [3]⟩ 1 wf1 ((lab3 _ _ _).alloc _) _ _ _ [120, 121, 122] (srcXYZ2 _ _ _ _) rfl (Nat.le_refl _) (by decide) (r1 := 3) (r2 := 0) (s' := one L0 [] 0 1) rfl).mono ?_
  rintro e w4 ⟨rfl, h4, s4⟩
  have H4 := Lib.hid h4.chg
  clear h4 s4 H3
  go_wp2
  go_ret
  exact ⟨rfl, H4.out⟩

set_option maxHeartbeats 4000000 in
set_option maxRecDepth 100000 in
theorem full_any (a : Option Addr) (len cap : Nat) (zs : List Int) (w : World) (h : Nums w a len cap zs) :
    Calls Try.prog 3 #[.slice a len cap] w fun e w' => e = .returned (.bool true) ∧ Chg [] w w' := by
  have kc := fun (w : World) (C : Array Value) (n c : Nat) => Lib.run_convert_bytes_const (P := Try.prog) w 31 5 C n c Try.underlying31 Try.underlying5
  have hlen := h.1
  have hcm : len ≤ 9223372036854775807 := by have h1 := h.2.1; have h2 := h.2.2.1; unfold maxLen at h2; omega
  go_enter Try.func3, Try.ntmps3
  go_wp2_with fail
  refine (new_at w).mono ?_
  rintro e w1 ⟨t, rfl, h1⟩
  have H1 := Lib.hid h1
  clear h1
  go_wp2_with fail
  refine (make_at (H1.out.fresh _) (new_ok 9) (by omega) none 0 0 none 0 0 L0 (lab0 _) (r1 := 1) (r2 := 0) (s' := one L0 [] 1 1) rfl).mono ?_
  rintro e w2 ⟨rfl, h2, s2⟩
  have o1 := obj_alloc_new w1 (.cells #[.slice none 0 0, .slice none 0 0] 26)
  have c0 := Lib.hid (s2.cell (cell_of_obj o1 (j := 0) rfl) (by simp))
  have c1 := Lib.hid (s2.cell (cell_of_obj o1 (j := 1) rfl) (by simp))
  have H2 := Lib.hid h2
  clear h2 H1 s2 o1
  go_wp2_with fail
  go_loopw [7] (fun c wr => ∃ k : Nat, k ≤ len ∧ k ≤ 20 ∧ c = .int .i64 k ∧ At w wr t (one L0 [] 1 1) [w1.heap.size] ∧ wr.cell? ⟨w1.heap.size, 0, none⟩ = some (.slice none 0 0) ∧ wr.cell? ⟨w1.heap.size, 1, none⟩ = some (.slice none 0 0))
    (fun c _ => 20 - (intOf c).toNat)
  case atStart => exact ⟨0, Nat.zero_le _, Nat.zero_le _, rfl, H2.out, c0.out, c1.out⟩
  case round =>
    obtain ⟨k, hk, hk20, rfl, hat, k0, k1⟩ := hrel
    have HA := Lib.hid hat
    have hn := Lib.hid (h.kept0 hat.chg)
    clear hat c0 c1 H2
    by_cases hlt : k < len ∧ k < 20
    · obtain ⟨hlt, hlt20⟩ := hlt
      obtain ⟨b, off, z, rfl, hcell⟩ : ∃ b off z, a = some ⟨b, off, none⟩ ∧ wr.cell? ⟨b, off + k, none⟩ = some (.int .i64 z) := by
        rcases hn.out.cases with ⟨_, h0⟩ | ⟨b, off, rfl, h1, _, _, h2⟩
        · omega
        · exact ⟨b, off, _, rfl, h2 k hlt⟩
      clear h
      obtain ⟨q, hq, hq2⟩ : ∃ q : Nat, z % 512 = (q : Int) ∧ q ≤ 511 := ⟨(z % 512).toNat, by omega, by omega⟩
      have hbit : bits BinOp.and IntKind.i64 z 511 = (q : Int) := by rw [i64_and511, hq]
      clear hq
      have hmk := fun w => make_zeros (q + 1) (by omega) w
      have ec : ((q + 1 : Nat) : Int) = (q : Int) + 1 := by omega
      simp only [ec] at hmk
      clear ec
      rcases (show q ≤ 253 ∨ q = 254 ∨ q = 255 ∨ 256 ≤ q from by omega) with g | rfl | rfl | g
      · go_wp2_with fail
        go_region_held3 (fun w' => w'.cell? ⟨w1.heap.size, 0, none⟩ = some (.slice none 0 0) ∧ w'.cell? ⟨w1.heap.size, 1, none⟩ = some (.slice none 0 0))
          (first | exact ⟨k0, k1⟩ | exact ⟨((Chg.refl [] wr).alloc _).cell k0 (by simp), ((Chg.refl [] wr).alloc _).cell k1 (by simp)⟩ | exact ⟨l0, l1⟩)
          ((go_at_call 10; refine (write_at (N := 9) (HA.out.drew.alloc _) (one_ok rfl (by simp) (by simp) (by simp) (by omega)) none 0 0 none 0 0 L0 1 wf1 (lab0 _) _ _ _ (zeros (q + 1)) (src_zeros _ _ _ _) (by simp [zeros]) (by omega) (by unfold maxLen; omega) (r1 := ((q : Int) + 1)) (r2 := 0) (s' := one L0 (zeros (q + 1)) 1 1) (w_zeros _ (q + 1) _ (by omega) (by omega) (by omega))).mono ?_; rintro e w3 ⟨rfl, h3, s3⟩; have l0 := s3.cell (((Chg.refl [] wr).alloc _).cell k0 (by simp)) (by simp); have l1 := s3.cell (((Chg.refl [] wr).alloc _).cell k1 (by simp)) (by simp)))
        have H3 := Lib.hid h3
        clear h3 s3 HA k0 k1 hmk
        go_wp2_with fail
        refine (write_at (N := 9) (H3.out.alloc _) (one_ok rfl (by simp [zeros]; try omega) (by simp) (by simp) (by omega)) none 0 0 none 0 0 L0 1 wf1 (lab0 _) _ _ _ [120, 121] (srcXY _ _ _) rfl (Nat.le_refl _) (by decide) (r1 := 2) (r2 := 0) (s' := one L0 (zeros (q + 1) ++ [120, 121]) 1 1) (w_xy (q + 1) 2 _ (by omega) (by omega) (by omega) (by omega))).mono ?_
        rintro e w4 ⟨rfl, h4, s4⟩
        have H4 := Lib.hid h4
        have k0 := s4.cell (((Chg.refl [] w3).alloc _).cell l0 (by simp)) (by simp)
        have k1 := s4.cell (((Chg.refl [] w3).alloc _).cell l1 (by simp)) (by simp)
        clear h4 s4 H3 l0 l1
        go_wp2_with fail
        refine (read_at (N := 9) H4.out (one_ok rfl (by simp [zeros]; try omega) (by simp) (by simp) (by omega)) none 0 0 none 0 0 L0 1 wf1 (lab0 _) 1000 (by decide) (out := zeros (q + 1) ++ [120, 121]) (r := 0) (s' := one L0 [] 1 1) (q + 3) (by simp [zeros]) (r_all _ (by intro e; have := congrArg List.length e; simp [zeros] at this) (by simp [zeros]; try omega))).mono ?_
        rintro e w5 ⟨a5, c5, rfl, r5, h5, s5⟩
        have H5 := Lib.hid (h5.sub (Y := [w1.heap.size]) (by intro k hk; simp at hk; subst hk; simp))
        have l0 := s5.cell k0 (by simp)
        have l1 := s5.cell k1 (by simp)
        clear h5 s5 H4 k0 k1 r5
        go_wp2_with fail
        refine (read_at (N := 9) H5.out (one_ok rfl (by simp) (by simp) (by simp) (by omega)) none 0 0 none 0 0 L0 1 wf1 (lab0 _) 1 (by decide) (out := []) (r := 63) (s' := one L0 [] 1 1) 0 rfl rfl).mono ?_
        rintro e w6 ⟨a6, c6, rfl, r6, h6, s6⟩
        have H6 := Lib.hid (h6.sub (Y := [w1.heap.size]) (by intro k hk; simp at hk; subst hk; simp))
        have k0 := s6.cell l0 (by simp)
        have k1 := s6.cell l1 (by simp)
        clear h6 s6 H5 l0 l1 r6
        go_wp2_with fail
        refine (read_at (N := 9) H6.out (one_ok rfl (by simp) (by simp) (by simp) (by omega)) none 0 0 none 0 0 L0 1 wf1 (lab0 _) 0 (by decide) (out := []) (r := 0) (s' := one L0 [] 1 1) 0 rfl rfl).mono ?_
        rintro e w7 ⟨a7, c7, rfl, r7, h7, s7⟩
        have H7 := Lib.hid (h7.sub (Y := [w1.heap.size]) (by intro k hk; simp at hk; subst hk; simp))
        have l0 := s7.cell k0 (by simp)
        have l1 := s7.cell k1 (by simp)
        clear h7 s7 H6 k0 k1 r7
        go_wp2
        go_roundw
        case rel => exact ⟨k + 1, by omega, by omega, by go_num, H7.out, l0, l1⟩
        case measure => simp [intOf]; omega
      · clear hmk
        have hmk : ∀ w : World, (Instr.makeSlice 31 (.int .i64 255) (.int .i64 255)).run Try.prog w = .ok (.slice (some ⟨w.heap.size, 0, none⟩) 255 255) (w.alloc (.cells (zeroArr 255) 5)) := fun w => make_zeros 255 (by omega) w
        go_wp2_with fail
        go_region_held3 (fun w' => w'.cell? ⟨w1.heap.size, 0, none⟩ = some (.slice none 0 0) ∧ w'.cell? ⟨w1.heap.size, 1, none⟩ = some (.slice none 0 0))
          (first | exact ⟨k0, k1⟩ | exact ⟨((Chg.refl [] wr).alloc _).cell k0 (by simp), ((Chg.refl [] wr).alloc _).cell k1 (by simp)⟩ | exact ⟨l0, l1⟩)
          ((go_at_call 10; refine (write_at (N := 9) (HA.out.drew.alloc _) (one_ok rfl (by simp) (by simp) (by simp) (by omega)) none 0 0 none 0 0 L0 1 wf1 (lab0 _) _ _ _ (zeros 255) (src_zeros _ _ _ _) (by simp [zeros]) (by omega) (by unfold maxLen; omega) (r1 := 255) (r2 := 0) (s' := one L0 (zeros 255) 1 1) (w_zeros _ 255 _ (by omega) (by omega) (by omega))).mono ?_; rintro e w3 ⟨rfl, h3, s3⟩; have l0 := s3.cell (((Chg.refl [] wr).alloc _).cell k0 (by simp)) (by simp); have l1 := s3.cell (((Chg.refl [] wr).alloc _).cell k1 (by simp)) (by simp)))
        have H3 := Lib.hid h3
        clear h3 s3 HA k0 k1 hmk
        go_wp2_with fail
        refine (write_at (N := 9) (H3.out.alloc _) (one_ok rfl (by simp [zeros]; try omega) (by simp) (by simp) (by omega)) none 0 0 none 0 0 L0 1 wf1 (lab0 _) _ _ _ [120, 121] (srcXY _ _ _) rfl (Nat.le_refl _) (by decide) (r1 := 1) (r2 := 0) (s' := one L0 (zeros 255 ++ [120]) 1 1) (w_xy 255 1 _ (by omega) (by omega) (by omega) (by omega))).mono ?_
        rintro e w4 ⟨rfl, h4, s4⟩
        have H4 := Lib.hid h4
        have k0 := s4.cell (((Chg.refl [] w3).alloc _).cell l0 (by simp)) (by simp)
        have k1 := s4.cell (((Chg.refl [] w3).alloc _).cell l1 (by simp)) (by simp)
        clear h4 s4 H3 l0 l1
        go_wp2_with fail
        refine (read_at (N := 9) H4.out (one_ok rfl (by simp [zeros]; try omega) (by simp) (by simp) (by omega)) none 0 0 none 0 0 L0 1 wf1 (lab0 _) 1000 (by decide) (out := zeros 255 ++ [120]) (r := 0) (s' := one L0 [] 1 1) (256) (by simp [zeros]) (r_all _ (by intro e; have := congrArg List.length e; simp [zeros] at this) (by simp [zeros]; try omega))).mono ?_
        rintro e w5 ⟨a5, c5, rfl, r5, h5, s5⟩
        have H5 := Lib.hid (h5.sub (Y := [w1.heap.size]) (by intro k hk; simp at hk; subst hk; simp))
        have l0 := s5.cell k0 (by simp)
        have l1 := s5.cell k1 (by simp)
        clear h5 s5 H4 k0 k1 r5
        go_wp2_with fail
        refine (read_at (N := 9) H5.out (one_ok rfl (by simp) (by simp) (by simp) (by omega)) none 0 0 none 0 0 L0 1 wf1 (lab0 _) 1 (by decide) (out := []) (r := 63) (s' := one L0 [] 1 1) 0 rfl rfl).mono ?_
        rintro e w6 ⟨a6, c6, rfl, r6, h6, s6⟩
        have H6 := Lib.hid (h6.sub (Y := [w1.heap.size]) (by intro k hk; simp at hk; subst hk; simp))
        have k0 := s6.cell l0 (by simp)
        have k1 := s6.cell l1 (by simp)
        clear h6 s6 H5 l0 l1 r6
        go_wp2_with fail
        refine (read_at (N := 9) H6.out (one_ok rfl (by simp) (by simp) (by simp) (by omega)) none 0 0 none 0 0 L0 1 wf1 (lab0 _) 0 (by decide) (out := []) (r := 0) (s' := one L0 [] 1 1) 0 rfl rfl).mono ?_
        rintro e w7 ⟨a7, c7, rfl, r7, h7, s7⟩
        have H7 := Lib.hid (h7.sub (Y := [w1.heap.size]) (by intro k hk; simp at hk; subst hk; simp))
        have l0 := s7.cell k0 (by simp)
        have l1 := s7.cell k1 (by simp)
        clear h7 s7 H6 k0 k1 r7
        go_wp2
        go_roundw
        case rel => exact ⟨k + 1, by omega, by omega, by go_num, H7.out, l0, l1⟩
        case measure => simp [intOf]; omega
      · clear hmk
        have hmk : ∀ w : World, (Instr.makeSlice 31 (.int .i64 256) (.int .i64 256)).run Try.prog w = .ok (.slice (some ⟨w.heap.size, 0, none⟩) 256 256) (w.alloc (.cells (zeroArr 256) 5)) := fun w => make_zeros 256 (by omega) w
        go_wp2_with fail
        go_region_held3 (fun w' => w'.cell? ⟨w1.heap.size, 0, none⟩ = some (.slice none 0 0) ∧ w'.cell? ⟨w1.heap.size, 1, none⟩ = some (.slice none 0 0))
          (first | exact ⟨k0, k1⟩ | exact ⟨((Chg.refl [] wr).alloc _).cell k0 (by simp), ((Chg.refl [] wr).alloc _).cell k1 (by simp)⟩ | exact ⟨l0, l1⟩)
          ((go_at_call 10; refine (write_at (N := 9) (HA.out.drew.alloc _) (one_ok rfl (by simp) (by simp) (by simp) (by omega)) none 0 0 none 0 0 L0 1 wf1 (lab0 _) _ _ _ (zeros 256) (src_zeros _ _ _ _) (by simp [zeros]) (by omega) (by unfold maxLen; omega) (r1 := 256) (r2 := 0) (s' := one L0 (zeros 256) 1 1) (w_zeros _ 256 _ (by omega) (by omega) (by omega))).mono ?_; rintro e w3 ⟨rfl, h3, s3⟩; have l0 := s3.cell (((Chg.refl [] wr).alloc _).cell k0 (by simp)) (by simp); have l1 := s3.cell (((Chg.refl [] wr).alloc _).cell k1 (by simp)) (by simp)))
        have H3 := Lib.hid h3
        clear h3 s3 HA k0 k1 hmk
        go_wp2_with fail
        refine (write_at (N := 9) (H3.out.alloc _) (one_ok rfl (by simp [zeros]; try omega) (by simp) (by simp) (by omega)) none 0 0 none 0 0 L0 1 wf1 (lab0 _) _ _ _ [120, 121] (srcXY _ _ _) rfl (Nat.le_refl _) (by decide) (r1 := 0) (r2 := 63) (s' := one L0 (zeros 256) 1 1) w_xy0).mono ?_
        rintro e w4 ⟨rfl, h4, s4⟩
        have H4 := Lib.hid h4
        have k0 := s4.cell (((Chg.refl [] w3).alloc _).cell l0 (by simp)) (by simp)
        have k1 := s4.cell (((Chg.refl [] w3).alloc _).cell l1 (by simp)) (by simp)
        clear h4 s4 H3 l0 l1
        go_wp2_with fail
        refine (read_at (N := 9) H4.out (one_ok rfl (by simp [zeros]; try omega) (by simp) (by simp) (by omega)) none 0 0 none 0 0 L0 1 wf1 (lab0 _) 1000 (by decide) (out := zeros 256) (r := 0) (s' := one L0 [] 1 1) (256) (by simp [zeros]) (r_all _ (by intro e; have := congrArg List.length e; simp [zeros] at this) (by simp [zeros]; try omega))).mono ?_
        rintro e w5 ⟨a5, c5, rfl, r5, h5, s5⟩
        have H5 := Lib.hid (h5.sub (Y := [w1.heap.size]) (by intro k hk; simp at hk; subst hk; simp))
        have l0 := s5.cell k0 (by simp)
        have l1 := s5.cell k1 (by simp)
        clear h5 s5 H4 k0 k1 r5
        go_wp2_with fail
        refine (read_at (N := 9) H5.out (one_ok rfl (by simp) (by simp) (by simp) (by omega)) none 0 0 none 0 0 L0 1 wf1 (lab0 _) 1 (by decide) (out := []) (r := 63) (s' := one L0 [] 1 1) 0 rfl rfl).mono ?_
        rintro e w6 ⟨a6, c6, rfl, r6, h6, s6⟩
        have H6 := Lib.hid (h6.sub (Y := [w1.heap.size]) (by intro k hk; simp at hk; subst hk; simp))
        have k0 := s6.cell l0 (by simp)
        have k1 := s6.cell l1 (by simp)
        clear h6 s6 H5 l0 l1 r6
        go_wp2_with fail
        refine (read_at (N := 9) H6.out (one_ok rfl (by simp) (by simp) (by simp) (by omega)) none 0 0 none 0 0 L0 1 wf1 (lab0 _) 0 (by decide) (out := []) (r := 0) (s' := one L0 [] 1 1) 0 rfl rfl).mono ?_
        rintro e w7 ⟨a7, c7, rfl, r7, h7, s7⟩
        have H7 := Lib.hid (h7.sub (Y := [w1.heap.size]) (by intro k hk; simp at hk; subst hk; simp))
        have l0 := s7.cell k0 (by simp)
        have l1 := s7.cell k1 (by simp)
        clear h7 s7 H6 k0 k1 r7
        go_wp2
        go_roundw
        case rel => exact ⟨k + 1, by omega, by omega, by go_num, H7.out, l0, l1⟩
        case measure => simp [intOf]; omega
      · go_wp2_with fail
        go_region_held3 (fun w' => w'.cell? ⟨w1.heap.size, 0, none⟩ = some (.slice none 0 0) ∧ w'.cell? ⟨w1.heap.size, 1, none⟩ = some (.slice none 0 0))
          (first | exact ⟨k0, k1⟩ | exact ⟨((Chg.refl [] wr).alloc _).cell k0 (by simp), ((Chg.refl [] wr).alloc _).cell k1 (by simp)⟩ | exact ⟨l0, l1⟩)
          ((go_at_call 10; refine (write_at (N := 9) (HA.out.drew.alloc _) (one_ok rfl (by simp) (by simp) (by simp) (by omega)) none 0 0 none 0 0 L0 1 wf1 (lab0 _) _ _ _ (zeros (q + 1)) (src_zeros _ _ _ _) (by simp [zeros]) (by omega) (by unfold maxLen; omega) (r1 := 256) (r2 := 0) (s' := one L0 (zeros 256) 1 1) (w_zeros _ 256 _ (by omega) (by omega) (by omega))).mono ?_; rintro e w3 ⟨rfl, h3, s3⟩; have l0 := s3.cell (((Chg.refl [] wr).alloc _).cell k0 (by simp)) (by simp); have l1 := s3.cell (((Chg.refl [] wr).alloc _).cell k1 (by simp)) (by simp)))
        have H3 := Lib.hid h3
        clear h3 s3 HA k0 k1 hmk
        go_wp2_with fail
        refine (write_at (N := 9) (H3.out.alloc _) (one_ok rfl (by simp [zeros]; try omega) (by simp) (by simp) (by omega)) none 0 0 none 0 0 L0 1 wf1 (lab0 _) _ _ _ [120, 121] (srcXY _ _ _) rfl (Nat.le_refl _) (by decide) (r1 := 0) (r2 := 63) (s' := one L0 (zeros 256) 1 1) w_xy0).mono ?_
        rintro e w4 ⟨rfl, h4, s4⟩
        have H4 := Lib.hid h4
        have k0 := s4.cell (((Chg.refl [] w3).alloc _).cell l0 (by simp)) (by simp)
        have k1 := s4.cell (((Chg.refl [] w3).alloc _).cell l1 (by simp)) (by simp)
        clear h4 s4 H3 l0 l1
        go_wp2_with fail
        refine (read_at (N := 9) H4.out (one_ok rfl (by simp [zeros]; try omega) (by simp) (by simp) (by omega)) none 0 0 none 0 0 L0 1 wf1 (lab0 _) 1000 (by decide) (out := zeros 256) (r := 0) (s' := one L0 [] 1 1) (256) (by simp [zeros]) (r_all _ (by intro e; have := congrArg List.length e; simp [zeros] at this) (by simp [zeros]; try omega))).mono ?_
        rintro e w5 ⟨a5, c5, rfl, r5, h5, s5⟩
        have H5 := Lib.hid (h5.sub (Y := [w1.heap.size]) (by intro k hk; simp at hk; subst hk; simp))
        have l0 := s5.cell k0 (by simp)
        have l1 := s5.cell k1 (by simp)
        clear h5 s5 H4 k0 k1 r5
        go_wp2_with fail
        refine (read_at (N := 9) H5.out (one_ok rfl (by simp) (by simp) (by simp) (by omega)) none 0 0 none 0 0 L0 1 wf1 (lab0 _) 1 (by decide) (out := []) (r := 63) (s' := one L0 [] 1 1) 0 rfl rfl).mono ?_
        rintro e w6 ⟨a6, c6, rfl, r6, h6, s6⟩
        have H6 := Lib.hid (h6.sub (Y := [w1.heap.size]) (by intro k hk; simp at hk; subst hk; simp))
        have k0 := s6.cell l0 (by simp)
        have k1 := s6.cell l1 (by simp)
        clear h6 s6 H5 l0 l1 r6
        go_wp2_with fail
        refine (read_at (N := 9) H6.out (one_ok rfl (by simp) (by simp) (by simp) (by omega)) none 0 0 none 0 0 L0 1 wf1 (lab0 _) 0 (by decide) (out := []) (r := 0) (s' := one L0 [] 1 1) 0 rfl rfl).mono ?_
        rintro e w7 ⟨a7, c7, rfl, r7, h7, s7⟩
        have H7 := Lib.hid (h7.sub (Y := [w1.heap.size]) (by intro k hk; simp at hk; subst hk; simp))
        have l0 := s7.cell k0 (by simp)
        have l1 := s7.cell k1 (by simp)
        clear h7 s7 H6 k0 k1 r7
        go_wp2
        go_roundw
        case rel => exact ⟨k + 1, by omega, by omega, by go_num, H7.out, l0, l1⟩
        case measure => simp [intOf]; omega
    · have hcase : len ≤ k ∨ (k < len ∧ 20 ≤ k) := by omega
      have HZ := Lib.hid hcase
      clear hlt h hcase
      rcases HZ.out with g | ⟨g, g2⟩
      all_goals
        go_wp2_with fail
        refine (drop_at (N := 9) HA.out (one_ok rfl (by simp) (by simp) (by simp) (by omega)) (by omega) 1 wf1 false (r := 0) (s' := one L0 [] 0 1) rfl).mono ?_
        rintro e w3 ⟨rfl, h3, s3⟩
        have H3 := Lib.hid h3
        have l0 := s3.cell k0 (by simp)
        have l1 := s3.cell k1 (by simp)
        clear h3 s3 k0 k1 HA
        go_wp2_with fail
        refine (ends_any t w w3 [w1.heap.size] H3.out).mono ?_
        rintro e w4 ⟨rfl, h4⟩
        have H4 := Lib.hid h4
        clear h4 H3 l0 l1
        go_wp2_with fail
        refine (awake_any w4).mono ?_
        rintro e w5 ⟨rfl, h5⟩
        have H5 := Lib.hid (H4.out.then0 h5)
        clear h5 H4
        go_wp2
        go_ret
        exact ⟨rfl, H5.out⟩

end Go.Proofs.Ytihkanbkcnonoaa
