/-
  PipePlays, walked.
-/
import Derived.Test.YtihkanbkcnonoaaDuo
import Derived.Test.YtihkanbkcnonoaaOrder2
import Derived.Test.YtihkanbkcnonoaaAwake
import Derived.Deep.DeepCutAuto
import Derived.Deep.CutBlock
import Derived.Deep.LoopGhost
import Derived.Deep.RegionHeld3
namespace Go.Proofs.Ytihkanbkcnonoaa
open Go.RowKit Go.Maps
set_option linter.unusedVariables false

theorem bytesV_one (bs : List UInt8) : ∀ u ∈ bs.map byteV, u.oneCell' = true := by
  intro u hu
  obtain ⟨x, _, rfl⟩ := List.mem_map.1 hu
  rfl

set_option maxHeartbeats 20000000 in
set_option maxRecDepth 100000 in
theorem plays_any (w : World) (a : Option Addr) (len cap : Nat) (ops : List OpV) (h : OpsAt w a len cap ops) (hreach : ∀ (i : Nat) (o : OpV), ops[i]? = some o → o.dc ≤ 140737488351232) :
    Calls Try.prog 6 #[.slice a len cap] w fun e w' => e = .returned (.bool true) ∧ Chg [] w w' := by
  have hcm : len ≤ 9223372036854775807 := by have h1 := h.cap; unfold maxLen at h1; omega
  have HN := Lib.hid h
  have HRE := Lib.hid hreach
  clear h hreach
  obtain ⟨i0, hi, hz0, hz1, hz2⟩ := info_parts Try.infoByte
  go_enter Try.func6, Try.ntmps6
  go_wp2_with fail
  refine (new_any w).mono ?_
  rintro e w1 ⟨t, ot, rfl, h1, c1, n1⟩
  have H1 := Lib.hid h1
  have C1 := Lib.hid c1
  have N1 := Lib.hid n1
  clear h1 c1 n1
  go_wp2_with fail
  refine (awake_any _).mono ?_
  rintro e w2 ⟨rfl, c2⟩
  have HD := Lib.hid (duo_new w w1 w2 t ot H1.out C1.out N1.out c2)
  clear H1 C1 N1 c2
  generalize w1.heap.size = rb at *
  obtain ⟨N, hN⟩ : ∃ N, min len 60 = N := ⟨_, rfl⟩
  go_wp2_with fail
  go_loopg [5] N (fun g v5 wr => ∃ (i : Nat) (s : Pi.Tb), i + g = N ∧ v5 = .int .i64 i ∧ Ok i s ∧ Duo w wr t s rb s [])
  case atStart => exact ⟨0, Pi.new, by omega, rfl, new_ok 0, HD.out⟩
  case round =>
    obtain ⟨i, s, hiN, rfl, hok, hdu⟩ := hrel
    clear HD
    have HOK := Lib.hid hok
    have HDU := Lib.hid hdu
    clear hok hdu
    cases gk with
    | zero =>
      have hend : len ≤ i ∨ (i < len ∧ 60 ≤ i) := by omega
      rcases hend with hz | ⟨hz, hz2⟩
      all_goals
        go_wp2
        go_ret
        exact ⟨rfl, HDU.out.chg⟩
    | succ g =>
      have hi1 : (i : Int) < (len : Int) := by omega
      have hi2 : (i : Int) < 60 := by omega
      have hi0 : (0 : Int) ≤ (i : Int) := by omega
      obtain ⟨o, ho⟩ : ∃ o, ops[i]? = some o := ⟨_, List.getElem?_eq_getElem (show i < ops.length by have := HN.out.ln; omega)⟩
      obtain ⟨ba, off, rfl, hat⟩ := HN.out.at_ i o ho
      obtain ⟨K, I, M, v, a1, n1, d1, a2, n2, d2, da, dl, dc, ol, bs⟩ := o
      have HAT := Lib.hid hat
      have q0 := HDU.out.chg.cell hat.c0 (by simp)
      have q1 := HDU.out.chg.cell hat.c1 (by simp)
      have q2 := HDU.out.chg.cell hat.c2 (by simp)
      have q3 := HDU.out.chg.cell hat.c3 (by simp)
      have q4 := HDU.out.chg.cell hat.c4 (by simp)
      have q5 := HDU.out.chg.cell hat.c5 (by simp)
      have q6 := HDU.out.chg.cell hat.c6 (by simp)
      simp only at q0 q1 q2 q3 q4 q5 q6
      have hwi := HAT.out.wid
      have hwn := HAT.out.wn
      simp only at hwi hwn
      have hdr := HRE.out i _ ho
      simp only at hdr
      clear hat ho
      go_upto_block 2 with fail
      have HBW := Lib.hid (HDU.out.fresh (.cells #[.int .i64 K, .int .i64 I, .int .i64 M, .bool v, .slice a1 n1 d1, .slice a2 n2 d2, .slice da dl dc] 48))
      have OB := Lib.hid (heap_alloc_new wr (.cells #[.int .i64 K, .int .i64 I, .int .i64 M, .bool v, .slice a1 n1 d1, .slice a2 n2 d2, .slice da dl dc] 48))
      clear q0 q1 q2 q3 q4 q5 q6
      go_cut [7] (fun v7 wc => v7 = .bool true ∧ ∃ s' : Pi.Tb, Ok (i + 1) s' ∧ Duo w wc t s' rb s' [])
      case first =>
        generalize hwo : wr.alloc (.cells #[.int .i64 K, .int .i64 I, .int .i64 M, .bool v, .slice a1 n1 d1, .slice a2 n2 d2, .slice da dl dc] 48) = wo at *
        clear hwo HDU
        generalize wr.heap.size = ob at *
        have hdn := HAT.out.dn
        have hdc := HAT.out.dcap
        simp only at hdn hdc
        by_cases z0 : K = 0
        · subst z0
          have p4 := cell_of_obj OB.out (j := 4) rfl
          have p5 := cell_of_obj OB.out (j := 5) rfl
          obtain ⟨x, y, s', hmk⟩ : ∃ x y s', Pi.make s ol = ((x, y), s') := ⟨_, _, _, rfl⟩
          have HMK := Lib.hid hmk
          have HOK' := Lib.hid (show Ok (i + 1) s' from by have := HOK.out.make ol; rw [hmk] at this; exact this)
          clear hmk
          go_wp2_with fail
          refine (make_duo HBW.out HOK.out (by omega) a1 n1 d1 a2 n2 d2 ol HAT.out.l HMK.out).mono ?_
          rintro e w7 ⟨rfl, h7, s7⟩
          have H7 := Lib.hid h7
          have p4' := s7.cell p4 (by simp)
          have p5' := s7.cell p5 (by simp)
          clear h7 s7 p4 p5
          go_wp2_with fail
          refine (rmake_duo H7.out HOK.out (by omega) a1 n1 d1 a2 n2 d2 ol HAT.out.l HMK.out).mono ?_
          rintro e w8 ⟨rfl, h8, s8⟩
          have H8 := Lib.hid (h8.sub (Y := []) (by simp))
          clear h8 s8 p4' p5'
          go_wp2
          go_meet
          case rel => exact ⟨rfl, s', HOK'.out, H8.out⟩
        · have y0 : (K == 0) = false := by simpa using z0
          clear z0
          by_cases z1 : K = 1
          · subst z1
            have p1 := cell_of_obj OB.out (j := 1) rfl
            have p3 := cell_of_obj OB.out (j := 3) rfl
            obtain ⟨x, s', hmk⟩ : ∃ x s', Pi.hold s I v = (x, s') := ⟨_, _, rfl⟩
            have HMK := Lib.hid hmk
            have HOK' := Lib.hid (show Ok (i + 1) s' from by have := HOK.out.hold I v; rw [hmk] at this; exact this)
            clear hmk
            go_wp2_with fail
            go_region_held3 (fun w' => w'.cell? ⟨ob, 1, none⟩ = some (.int .i64 I) ∧ w'.cell? ⟨ob, 3, none⟩ = some (.bool v)) (first | exact ⟨p1, p3⟩ | exact ⟨x1, x3⟩ | exact ⟨u1, u3⟩)
              ((first
                | (go_at_call 15; refine (hold_duo HBW.out.drew HOK.out (by omega) I hwi v HMK.out).mono ?_; rintro e w7 ⟨rfl, h7, s7⟩; have u1 := s7.cell p1 (by simp); have u3 := s7.cell p3 (by simp); have H7 := Lib.hid h7)
                | (go_at_call 18; refine (rhold_duo H7.out HOK.out (by omega) I v HMK.out).mono ?_; rintro e w8 ⟨rfl, h8, s8⟩; have x1 := s8.cell u1 (by simp); have x3 := s8.cell u3 (by simp); have H8 := Lib.hid (h8.sub (Y := []) (by simp)))))
            all_goals
              go_wp2
              go_meet
              case rel => exact ⟨rfl, s', HOK'.out, H8.out⟩
          · have y1 : (K == 1) = false := by simpa using z1
            clear z1
            by_cases z2 : K = 2
            · subst z2
              have p1 := cell_of_obj OB.out (j := 1) rfl
              have p3 := cell_of_obj OB.out (j := 3) rfl
              obtain ⟨x, s', hmk⟩ : ∃ x s', Pi.drop s I v = (x, s') := ⟨_, _, rfl⟩
              have HMK := Lib.hid hmk
              have HOK' := Lib.hid (show Ok (i + 1) s' from by have := HOK.out.drop I v; rw [hmk] at this; exact this)
              clear hmk
              go_wp2_with fail
              go_region_held3 (fun w' => w'.cell? ⟨ob, 1, none⟩ = some (.int .i64 I) ∧ w'.cell? ⟨ob, 3, none⟩ = some (.bool v)) (first | exact ⟨p1, p3⟩ | exact ⟨x1, x3⟩ | exact ⟨u1, u3⟩)
                ((first
                  | (go_at_call 12; refine (drop_duo HBW.out.drew HOK.out (by omega) I hwi v HMK.out).mono ?_; rintro e w7 ⟨rfl, h7, s7⟩; have u1 := s7.cell p1 (by simp); have u3 := s7.cell p3 (by simp); have H7 := Lib.hid h7)
                  | (go_at_call 19; refine (rdrop_duo H7.out HOK.out (by omega) I v HMK.out).mono ?_; rintro e w8 ⟨rfl, h8, s8⟩; have x1 := s8.cell u1 (by simp); have x3 := s8.cell u3 (by simp); have H8 := Lib.hid (h8.sub (Y := []) (by simp)))))
              all_goals
                go_wp2
                go_meet
                case rel => exact ⟨rfl, s', HOK'.out, H8.out⟩
            · have y2 : (K == 2) = false := by simpa using z2
              clear z2
              by_cases z3 : K = 3
              · subst z3
                have p1 := cell_of_obj OB.out (j := 1) rfl
                have p4 := cell_of_obj OB.out (j := 4) rfl
                have p5 := cell_of_obj OB.out (j := 5) rfl
                have p6 := cell_of_obj OB.out (j := 6) rfl
                obtain ⟨x, y, s', hmk⟩ : ∃ x y s', Pi.write s ol I bs = ((x, y), s') := ⟨_, _, _, rfl⟩
                have HMK := Lib.hid hmk
                have HOK' := Lib.hid (show Ok (i + 1) s' from by have := HOK.out.write ol I bs; rw [hmk] at this; exact this)
                clear hmk
                have p6a := ((Chg.refl [] wo).alloc (.cells #[] 5)).cell p6 (by simp)
                have HSRC := Lib.hid ((HAT.out.d.kept0 HBW.out.chg).alloc (.cells #[] 5))
                go_wp2_with (at_builtin; refine wpList_append_row _ rfl _ _ 31 rfl 5 i0 (.int .u8 0) 1 1 Try.underlying31 hi hz0 hz1 hz2 rfl (by decide) _ 0 [] rfl (Row.nil _ _ _ _) da dl dc (bs.map byteV) rfl (by simpa using hdn) HSRC.out (bytesV_one _) (by unfold maxLen; omega) (by omega) ?_)
                intro v1 w6 r1 q1 g1
                have r1 : Row w6 5 1 v1 dl (bs.map byteV) := by simpa using r1
                obtain ⟨oa, oc, rfl, hoc1, hoc2⟩ := r1.shape
                have q6 : Chg [] wo w6 := ((Chg.refl [] wo).alloc _).then00 q1
                have g6 := Lib.hid (new_of (m := wo.heap.size) g1 (by simp))
                have H6 := Lib.hid (HBW.out.row q6 (rowBlock (.slice oa dl oc)) (fun k hk => ⟨g6.out k hk, r1.block_lt k hk⟩))
                have G6 := Lib.hid (fun k (hk : k ∈ rowBlock (.slice oa dl oc)) => Nat.le_trans HBW.out.chg.size (g6.out k hk))
                have R6 := Lib.hid r1
                have p1' := q6.cell p1 (by simp)
                have p4' := q6.cell p4 (by simp)
                have p5' := q6.cell p5 (by simp)
                have p6' := q6.cell p6 (by simp)
                clear r1 q1 g1 q6 g6 p1 p4 p5 p6 p6a HSRC
                go_wp2_with fail
                refine (write_duo H6.out HOK.out a1 n1 d1 a2 n2 d2 ol I hwi HAT.out.l oa dl oc bs R6.out.src hdn hoc1 hoc2 HMK.out).mono ?_
                rintro e w7 ⟨rfl, h7, s7⟩
                have H7 := Lib.hid h7
                have R7 := Lib.hid (R6.out.same s7 (fun k hk => List.mem_append.2 (.inl hk)))
                have p1 := s7.cell p1' (by simp)
                have p4 := s7.cell p4' (by simp)
                have p5 := s7.cell p5' (by simp)
                have p6 := s7.cell p6' (by simp)
                have hconv : (convert 31 9 (.slice da dl dc)).run Try.prog w7 = .ok (.string (strB bs)) w7 := conv_row (HAT.out.d.kept0 h7.chg) hdn
                clear h7 s7 p1' p4' p5' p6' R6 H6
                go_wp2_with fail
                refine (rwrite_duo H7.out HOK.out a1 n1 d1 a2 n2 d2 ol I HAT.out.l bs (by omega) HMK.out).mono ?_
                rintro e w8 ⟨rfl, h8, s8⟩
                have H8 := Lib.hid h8
                have R8 := Lib.hid (show Row w8 5 1 (.slice oa dl oc) dl ((bs.map fun x => (x.toNat : Int)).map (Value.int .u8)) from by
                  have := R7.out.same s8 (fun k hk => List.mem_append.2 (.inl hk))
                  rw [List.map_map]
                  exact this)
                clear h8 s8 p1 p4 p5 p6 hconv R7 H7
                go_wp2_with fail
                go_loopg [17] dl (fun gi c17 wv => ∃ (k : Nat) (zs : List Int), k + gi = dl ∧ c17 = .int .i64 k ∧ Hid (zs.length = dl) ∧ Row wv 5 1 (.slice oa dl oc) dl (zs.map (Value.int .u8)) ∧ Duo w wv t s' rb s' (rowBlock (.slice oa dl oc) ++ [ob]))
                case atStart => exact ⟨0, _, by omega, rfl, Lib.hid (by rw [List.length_map]; exact hdn), R8.out, H8.out⟩
                case round =>
                  obtain ⟨k, zs, hk, rfl, hzl, hrow, hdu⟩ := hrel
                  have HROW := Lib.hid hrow
                  have HDU := Lib.hid hdu
                  clear hrow hdu R8 H8
                  cases gk with
                  | zero =>
                    obtain rfl : k = dl := by omega
                    go_wp2
                    go_meet
                    case rel => exact ⟨rfl, s', HOK'.out, HDU.out.sub (by simp)⟩
                  | succ gj =>
                    have hkl : (k : Int) < (dl : Int) := by omega
                    have hk0 : (0 : Int) ≤ (k : Int) := by omega
                    obtain ⟨gb, cur, rfl, hgb, htk, hcd, hcm2⟩ := HROW.out.obj (by omega)
                    have kc := cells_of_take hgb htk (j := k) (u := .int .u8 (zs.getD k 0)) (by
                      rw [List.getElem?_map, List.getElem?_eq_getElem (by have := hzl.out; omega)]
                      simp [List.getD, show k < zs.length from by have := hzl.out; omega])
                    have kf := free_of_obj hgb k
                    have hin : gb ∈ rowBlock (.slice (some ⟨gb, 0, none⟩) dl oc) := by simp only [rowBlock]; rw [if_neg (by omega)]; simp
                    have HNX := fun (z : Int) => Lib.hid (HROW.out.set (by omega) k (.int .u8 z))
                    have HTU := fun (z : Int) => Lib.hid (HDU.out.turn ((Chg.refl [gb] _).setCell ⟨gb, k, none⟩ (.int .u8 z) (by simp)) (fun x hx => by simp at hx; subst hx; exact List.mem_append.2 (.inl hin)) (fun x hx => by simp at hx; subst hx; exact G6.out _ hin))
                    clear hgb htk hcd hcm2 hin
                    go_wp2
                    go_roundg gj
                    case measure => omega
                    case rel => refine ⟨k + 1, zs.set k ((zs[k]?.getD 0 + 1) % 256), by omega, by go_num, Lib.hid (List.length_set.trans hzl.out), ?_, (HTU _).out⟩; rw [List.map_set]; exact (HNX _).out
              · have y3 : (K == 3) = false := by simpa using z3
                clear z3
                have p1 := cell_of_obj OB.out (j := 1) rfl
                have p2 := cell_of_obj OB.out (j := 2) rfl
                have p4 := cell_of_obj OB.out (j := 4) rfl
                have p5 := cell_of_obj OB.out (j := 5) rfl
                obtain ⟨out, y, s', hmk⟩ : ∃ out y s', Pi.read s ol I M = ((out, y), s') := ⟨_, _, _, rfl⟩
                have HMK := Lib.hid hmk
                have HOK' := Lib.hid (show Ok (i + 1) s' from by have := HOK.out.read ol I M; rw [hmk] at this; exact this)
                clear hmk
                go_wp2_with fail
                refine (read_duo HBW.out HOK.out a1 n1 d1 a2 n2 d2 ol I hwi HAT.out.l M hwn HMK.out).mono ?_
                rintro e w7 ⟨xa, xm, xc, rfl, hm, r7, h7, s7⟩
                have H7 := Lib.hid h7
                have R7 := Lib.hid r7
                have p1' := s7.cell p1 (by simp)
                have p2' := s7.cell p2 (by simp)
                have p4' := s7.cell p4 (by simp)
                have p5' := s7.cell p5 (by simp)
                clear h7 r7 s7 p1 p2 p4 p5
                go_wp2_with fail
                refine (rread_duo H7.out HOK.out a1 n1 d1 a2 n2 d2 ol I HAT.out.l M HMK.out).mono ?_
                rintro e w8 ⟨rfl, h8, s8⟩
                have H8 := Lib.hid (h8.sub (Y := []) (by simp))
                have hconv : (convert 31 9 (.slice xa xm xc)).run Try.prog w8 = .ok (.string (strB out)) w8 := conv_row (R7.out.same s8 (fun k hk => List.mem_append.2 (.inl hk))).src hm.out
                clear h8 s8 p1' p2' p4' p5' R7 H7
                go_wp2
                go_meet
                case rel => exact ⟨rfl, s', HOK'.out, H8.out⟩
      case rest =>
        obtain ⟨rfl, s', hok', hdu'⟩ := hcut
        clear HBW OB HDU HOK
        have HOK' := Lib.hid hok'
        have HDU' := Lib.hid hdu'
        obtain ⟨aL, mL, cL, hL, hLn⟩ := hdu'.len
        obtain rfl := hLn.out
        clear hok' hdu' hLn
        go_wp2_with fail
        go_quiet ((go_at_call 16; exact Calls.quiet_of_same (count_duo (HDU'.out.drewN _))))
        all_goals
          go_wp2
          go_roundg g
          case measure => omega
          case rel => exact ⟨i + 1, s', by omega, by go_num, HOK'.out, HDU'.out.drewN _⟩

end Go.Proofs.Ytihkanbkcnonoaa
