/-
  PipeBlind, walked.
-/
import Derived.Test.YtihkanbkcnonoaaScript
import Derived.Test.YtihkanbkcnonoaaOrder2
import Derived.Deep.DeepCutAuto
import Derived.Deep.CutBlock
import Derived.Deep.LoopGhost
import Derived.Deep.RegionHeld3
namespace Go.Proofs.Ytihkanbkcnonoaa
open Go.RowKit Go.Maps
set_option linter.unusedVariables false

theorem lab37_new (w : World) (E E2 : TypeId) (f g : Nat × Nat) : Lab37 ((w.alloc (.cells #[.int .i64 3, .int .i64 7] E f)).alloc (.cells #[.slice (some ⟨w.heap.size, 0, none⟩) 2 2, .slice none 0 0] E2 g)) (w.heap.size + 1) w.heap.size := by
  have h1 : (w.alloc (.cells #[.int .i64 3, .int .i64 7] E f)).heap.size = w.heap.size + 1 := by simp
  have o1 := obj_alloc_old (obj_alloc_new w (.cells #[.int .i64 3, .int .i64 7] E f)) (.cells #[.slice (some ⟨w.heap.size, 0, none⟩) 2 2, .slice none 0 0] E2 g)
  have o2 := obj_alloc_new (w.alloc (.cells #[.int .i64 3, .int .i64 7] E f)) (.cells #[.slice (some ⟨w.heap.size, 0, none⟩) 2 2, .slice none 0 0] E2 g)
  rw [h1] at o2
  exact ⟨cell_of_obj o2 rfl, cell_of_obj o2 rfl, cell_of_obj o1 rfl, cell_of_obj o1 rfl⟩

/-- what holds at the loop's head. -/
structure Bl (w wr : World) (t u B C : Nat) (b b' : List UInt8) (r : Int) (X : List Nat) : Prop where
  two : Pair w wr t (one L37 b r 2) u (one L37 b' 1 2) X
  lab : Lab37 wr B C
  inB : B ∈ X
  inC : C ∈ X
  room : b.length ≤ 256
  room' : b'.length ≤ 256
  rd : 0 ≤ r ∧ r ≤ 40

section
variable {w wr w' : World} {t u B C : Nat} {b b' b2 : List UInt8} {r r2 : Int} {X : List Nat}
theorem Bl.ok (h : Bl w wr t u B C b b' r X) : Ok 40 (one L37 b r 2) := one_ok rfl h.room h.rd (by simp) (by omega)
theorem Bl.ok' (h : Bl w wr t u B C b b' r X) : Ok 40 (one L37 b' 1 2) := one_ok rfl h.room' (by simp) (by simp) (by omega)
theorem Bl.kept0 (h : Bl w wr t u B C b b' r X) (hc : Chg [] wr w') : Bl w w' t u B C b b' r X := ⟨h.two.kept0 hc, h.lab.kept hc (by simp) (by simp), h.inB, h.inC, h.room, h.room', h.rd⟩
theorem Bl.fresh (h : Bl w wr t u B C b b' r X) (o : Obj) : Bl w (wr.alloc o) t u B C b b' r (wr.heap.size :: X) :=
  ⟨h.two.fresh o, h.lab.kept ((Chg.refl [] wr).alloc o) (by simp) (by simp), by simp [h.inB], by simp [h.inC], h.room, h.room', h.rd⟩
theorem Bl.first (h : Bl w wr t u B C b b' r X) (h2 : Pair w w' t (one L37 b2 r2 2) u (one L37 b' 1 2) X) (hs : Same X wr w') (hb : b2.length ≤ 256) (hr : 0 ≤ r2 ∧ r2 ≤ 40) : Bl w w' t u B C b2 b' r2 X :=
  ⟨h2, h.lab.same hs h.inB h.inC, h.inB, h.inC, hb, h.room', hr⟩
theorem Bl.other (h : Bl w wr t u B C b b' r X) (h2 : Pair w w' u (one L37 b2 1 2) t (one L37 b r 2) X) (hs : Same X wr w') (hb : b2.length ≤ 256) : Bl w w' t u B C b b2 r X :=
  ⟨h2.swap, h.lab.same hs h.inB h.inC, h.inB, h.inC, h.room, hb, h.rd⟩
end

/-- the label of who knows less: its struct in block B, its tag, if there is one, in block C. -/
structure LowAt (w : World) (B C : Nat) (l : Pi.Lab) : Prop where
  c1 : w.cell? ⟨B, 1, none⟩ = some (.slice none 0 0)
  c0 : (l = ⟨[3], []⟩ ∧ w.cell? ⟨B, 0, none⟩ = some (.slice (some ⟨C, 0, none⟩) 1 1) ∧ w.cell? ⟨C, 0, none⟩ = some (.int .i64 3)) ∨ (l = ⟨[], []⟩ ∧ w.cell? ⟨B, 0, none⟩ = some (.slice none 0 0))

theorem LowAt.same {w w' : World} {B C : Nat} {l : Pi.Lab} {X : List Nat} (h : LowAt w B C l) (hs : Same X w w') (hB : B ∈ X) (hC : C ∈ X) : LowAt w' B C l :=
  ⟨hs.cell h.c1 hB, h.c0.imp (fun k => ⟨k.1, hs.cell k.2.1 hB, hs.cell k.2.2 hC⟩) (fun k => ⟨k.1, hs.cell k.2 hB⟩)⟩
theorem LowAt.drew {w : World} {B C : Nat} {l : Pi.Lab} (h : LowAt w B C l) : LowAt w.drew B C l := ⟨h.c1, h.c0⟩

theorem LowAt.facts {w : World} {B C : Nat} {l : Pi.Lab} (h : LowAt w B C l) : Low l ∧ ∃ a n, w.cell? ⟨B, 0, none⟩ = some (.slice a n n) ∧ LabAt w a n n none 0 0 l := by
  rcases h.c0 with ⟨rfl, h1, h2⟩ | ⟨rfl, h1⟩
  · refine ⟨.inl rfl, _, _, h1, ⟨⟨rfl, Nat.le_refl _, by decide, fun _ => ⟨C, 0, rfl, fun j u hj => ?_⟩⟩, ⟨rfl, Nat.le_refl _, Nat.zero_le _, by simp [SrcAt]⟩⟩⟩
    match j with
    | 0 => simp at hj; subst hj; exact h2
    | j + 1 => simp at hj
  · exact ⟨.inr rfl, none, 0, h1, lab0 w⟩

theorem low_new (w : World) (E E2 : TypeId) (f g : Nat × Nat) : LowAt ((w.alloc (.cells #[.int .i64 3] E f)).alloc (.cells #[.slice (some ⟨w.heap.size, 0, none⟩) 1 1, .slice none 0 0] E2 g)) (w.heap.size + 1) w.heap.size ⟨[3], []⟩ := by
  have h1 : (w.alloc (.cells #[.int .i64 3] E f)).heap.size = w.heap.size + 1 := by simp
  have o1 := obj_alloc_old (obj_alloc_new w (.cells #[.int .i64 3] E f)) (.cells #[.slice (some ⟨w.heap.size, 0, none⟩) 1 1, .slice none 0 0] E2 g)
  have o2 := obj_alloc_new (w.alloc (.cells #[.int .i64 3] E f)) (.cells #[.slice (some ⟨w.heap.size, 0, none⟩) 1 1, .slice none 0 0] E2 g)
  rw [h1] at o2
  exact ⟨cell_of_obj o2 rfl, .inl ⟨rfl, cell_of_obj o2 rfl, cell_of_obj o1 rfl⟩⟩

theorem low_zero (w : World) (E : TypeId) (f : Nat × Nat) (B C : Nat) (vs : Array Value) (hv : vs.size = 2) (h : w.heap[B]? = some (.cells vs E f)) : LowAt ((w.setCell ⟨B, 0, none⟩ (.slice none 0 0)).setCell ⟨B, 1, none⟩ (.slice none 0 0)) B C ⟨[], []⟩ := by
  have h2 := obj_setCell (obj_setCell h 0 (.slice none 0 0)) 1 (.slice none 0 0)
  match vs, hv with
  | ⟨[x, y]⟩, _ => exact ⟨cell_of_obj h2 rfl, .inr ⟨rfl, cell_of_obj h2 rfl⟩⟩

set_option maxHeartbeats 20000000 in
set_option maxRecDepth 100000 in
theorem blind_any (w : World) (a : Option Addr) (len cap : Nat) (ops : List OpV) (h : OpsAt w a len cap ops) (ar : Option Addr) (lr cr : Nat) (zs : List Int) (hz : Nums w ar lr cr zs) :
    Calls Try.prog 7 #[.slice a len cap, .slice ar lr cr] w fun e w' => e = .returned (.bool true) ∧ Chg [] w w' := by
  have hcm : len ≤ 9223372036854775807 := by have h1 := h.cap; unfold maxLen at h1; omega
  have hcz : lr ≤ 9223372036854775807 := by have h1 := hz.2.1; have h2 := hz.2.2.1; unfold maxLen at h2; omega
  have HN := Lib.hid h
  have HZ := Lib.hid hz
  clear h hz
  go_enter Try.func7, Try.ntmps7
  go_wp2_with fail
  refine (new_any w).mono ?_
  rintro e w1 ⟨t, ot, rfl, h1, c1, n1⟩
  have H1 := Lib.hid h1
  have C1 := Lib.hid c1
  have N1 := Lib.hid n1
  clear h1 c1 n1
  go_wp2_with fail
  refine (new_any w1).mono ?_
  rintro e w2 ⟨u, ou, rfl, h2, c2, n2⟩
  have HP := Lib.hid (pair_new w w1 w2 t u ot ou H1.out C1.out N1.out h2 c2 n2)
  clear H1 C1 N1 h2 c2 n2
  go_wp2_with fail
  have hL := lab37_new w2 3 26 (0, 0) (0, 0)
  have hA : Pair w ((w2.alloc (.cells #[.int .i64 3, .int .i64 7] 3)).alloc (.cells #[.slice (some ⟨w2.heap.size, 0, none⟩) 2 2, .slice none 0 0] 26)) t Pi.new u Pi.new [w2.heap.size + 1, w2.heap.size] := by
    have := (HP.out.fresh (.cells #[.int .i64 3, .int .i64 7] 3)).fresh (.cells #[.slice (some ⟨w2.heap.size, 0, none⟩) 2 2, .slice none 0 0] 26)
    simpa using this
  refine (make_pair hA (new_ok 40) (by omega) _ 2 2 none 0 0 L37 hL.lab (r1 := 1) (r2 := 0) (s2 := one L37 [] 1 1) rfl).mono ?_
  rintro e w3 ⟨rfl, h3, s3⟩
  have hL3 := hL.same s3 (by simp) (by simp)
  have hs1 := HP.out.chg.size
  generalize hBe : w2.heap.size + 1 = B at *
  generalize w2.heap.size = C at *
  have H3 := Lib.hid h3
  have HL := Lib.hid hL3
  have k0 := hL3.c0
  have k1 := hL3.c1
  clear h3 HP s3 hL hL3 hA
  go_wp2_with fail
  refine (make_pair H3.out.swap (new_ok 40) (by omega) _ 2 2 none 0 0 L37 HL.out.lab (r1 := 1) (r2 := 0) (s2 := one L37 [] 1 1) rfl).mono ?_
  rintro e w4 ⟨rfl, h4, s4⟩
  have HL4 := Lib.hid (HL.out.same s4 (by simp) (by simp))
  have H4 := Lib.hid h4.swap
  clear h4 s4 H3 HL k0 k1
  go_wp2_with fail
  refine (hold_pair H4.out (N := 40) (one_ok rfl (by simp) (by simp) (by simp) (by omega)) (by omega) 1 wf1 true (r := 0) (s2 := one L37 [] 1 2) rfl).mono ?_
  rintro e w5 ⟨rfl, h5, s5⟩
  have HL5 := Lib.hid (HL4.out.same s5 (by simp) (by simp))
  have H5 := Lib.hid h5
  clear h5 s5 H4 HL4
  go_wp2_with fail
  refine (hold_pair H5.out.swap (N := 40) (one_ok rfl (by simp) (by simp) (by simp) (by omega)) (by omega) 1 wf1 true (r := 0) (s2 := one L37 [] 1 2) rfl).mono ?_
  rintro e w6 ⟨rfl, h6, s6⟩
  have HB : Hid (Bl w w6 t u B C [] [] 1 [B, C]) := Lib.hid ⟨h6.swap, HL5.out.same s6 (by simp) (by simp), by simp, by simp, by simp, by simp, by omega⟩
  clear h6 s6 H5 HL5
  obtain ⟨N, hN⟩ : ∃ N, min len 30 = N := ⟨_, rfl⟩
  go_wp2_with fail
  go_loopg [12] N (fun g v12 wr => ∃ (i : Nat) (b b' : List UInt8) (r : Int), i + g = N ∧ v12 = .int .i64 i ∧ r ≤ i + 1 ∧ Bl w wr t u B C b b' r [B, C])
  case atStart => exact ⟨0, [], [], 1, by omega, rfl, by omega, HB.out⟩
  case round =>
    obtain ⟨i, b, b', r, hiN, rfl, hri, hbl⟩ := hrel
    clear HB
    have HBL := Lib.hid hbl
    have k0 := hbl.lab.c0
    have k1 := hbl.lab.c1
    clear hbl
    cases gk with
    | zero =>
      have hend : len ≤ i ∨ (i < len ∧ 30 ≤ i) := by omega
      rcases hend with hz | ⟨hz, hz2⟩
      all_goals
        go_wp2_with fail
        refine (rmay_any _ 2 2 none 0 0 L37 wr HBL.out.lab.lab).mono ?_
        rintro e w7 ⟨rfl, h7⟩
        have H7 := Lib.hid (HBL.out.two.chg.then0 h7)
        clear h7 k0 k1
        have hm : Pi.mayB L37 = true := rfl
        go_wp2_with fail
        refine (awake_any w7).mono ?_
        rintro e w8 ⟨rfl, h8⟩
        have H8 := Lib.hid (H7.out.then0 h8)
        clear h8
        go_wp2
        go_ret
        exact ⟨rfl, H8.out⟩
    | succ g =>
      have hi1 : (i : Int) < (len : Int) := by omega
      have hi2 : (i : Int) < 30 := by omega
      have hi0 : (0 : Int) ≤ (i : Int) := by omega
      obtain ⟨o, ho⟩ : ∃ o, ops[i]? = some o := ⟨_, List.getElem?_eq_getElem (show i < ops.length by have := HN.out.ln; omega)⟩
      obtain ⟨ba, off, rfl, hat⟩ := HN.out.at_ i o ho
      obtain ⟨K, I, M, v, a1, n1, d1, a2, n2, d2, da, dl, dc, ol, bs⟩ := o
      have HAT := Lib.hid hat
      have q0 := HBL.out.two.chg.cell hat.c0 (by simp)
      have q1 := HBL.out.two.chg.cell hat.c1 (by simp)
      have q2 := HBL.out.two.chg.cell hat.c2 (by simp)
      have q3 := HBL.out.two.chg.cell hat.c3 (by simp)
      have q4 := HBL.out.two.chg.cell hat.c4 (by simp)
      have q5 := HBL.out.two.chg.cell hat.c5 (by simp)
      have q6 := HBL.out.two.chg.cell hat.c6 (by simp)
      simp only at q0 q1 q2 q3 q4 q5 q6
      clear hat ho
      go_upto_block 2 with fail
      have HBW := Lib.hid (HBL.out.fresh (.cells #[.int .i64 K, .int .i64 I, .int .i64 M, .bool v, .slice a1 n1 d1, .slice a2 n2 d2, .slice da dl dc] 48))
      have OB := Lib.hid (heap_alloc_new wr (.cells #[.int .i64 K, .int .i64 I, .int .i64 M, .bool v, .slice a1 n1 d1, .slice a2 n2 d2, .slice da dl dc] 48))
      clear q0 q1 q2 q3 q4 q5 q6 k0 k1
      go_cut [] (fun wc => ∃ (b b' : List UInt8) (r : Int), r ≤ i + 2 ∧ Bl w wc t u B C b b' r [B, C])
      case first =>
        have HDW := Lib.hid (HAT.out.d.kept0 (HBL.out.two.chg.then0 ((Chg.refl [] wr).alloc (.cells #[.int .i64 K, .int .i64 I, .int .i64 M, .bool v, .slice a1 n1 d1, .slice a2 n2 d2, .slice da dl dc] 48))))
        generalize hwo : wr.alloc (.cells #[.int .i64 K, .int .i64 I, .int .i64 M, .bool v, .slice a1 n1 d1, .slice a2 n2 d2, .slice da dl dc] 48) = wo at *
        clear hwo HBL
        generalize wr.heap.size = ob at *
        have hdn := HAT.out.dn
        have hdc := HAT.out.dcap
        have hwn := HAT.out.wn
        simp only at hdn hdc hwn
        have k0 := HBW.out.lab.c0
        have k1 := HBW.out.lab.c1
        by_cases z1 : K = 1
        · subst z1
          go_wp2_with fail
          refine (hold_pair HBW.out.two HBW.out.ok (by omega) 1 wf1 false (h_own b r 2)).mono ?_
          rintro e w7 ⟨rfl, h7, s7⟩
          have HB7 := Lib.hid (HBW.out.first h7 s7 HBW.out.room (by have := HBW.out.rd; omega))
          clear h7 s7
          go_wp2
          go_meet
          case rel => exact ⟨_, _, _, by omega, ⟨HB7.out.two.sub (by simp), HB7.out.lab, by simp, by simp, HB7.out.room, HB7.out.room', HB7.out.rd⟩⟩
        · have y1 : (K == 1) = false := by simpa using z1
          by_cases z2 : K = 2
          · subst z2
            obtain ⟨x, r', hd, hr1, hr2⟩ := d_own b r HBW.out.rd.1
            have HD := Lib.hid hd
            clear hd
            go_wp2_with fail
            refine (drop_pair HBW.out.two HBW.out.ok (by omega) 1 wf1 false HD.out).mono ?_
            rintro e w7 ⟨rfl, h7, s7⟩
            have HB7 := Lib.hid (HBW.out.first h7 s7 HBW.out.room (by have := HBW.out.rd; omega))
            clear h7 s7
            go_wp2
            go_meet
            case rel => exact ⟨_, _, _, by omega, ⟨HB7.out.two.sub (by simp), HB7.out.lab, by simp, by simp, HB7.out.room, HB7.out.room', HB7.out.rd⟩⟩
          · have y2 : (K == 2) = false := by simpa using z2
            by_cases z3 : K = 3
            · subst z3
              have p6 := cell_of_obj OB.out (j := 6) rfl
              obtain ⟨x, y, b2, hd, hb2⟩ := w_own b bs r 2 HBW.out.room
              have HD := Lib.hid hd
              clear hd
              go_wp2_with fail
              refine (write_pair HBW.out.two HBW.out.ok _ 2 2 none 0 0 L37 1 wf1 HBW.out.lab.lab da dl dc bs HDW.out hdn hdc.1 hdc.2 HD.out).mono ?_
              rintro e w7 ⟨rfl, h7, s7⟩
              have HB7 := Lib.hid (HBW.out.first h7 s7 hb2 HBW.out.rd)
              clear h7 s7 k0 k1 p6
              go_wp2
              go_meet
              case rel => exact ⟨_, _, _, by omega, ⟨HB7.out.two.sub (by simp), HB7.out.lab, by simp, by simp, HB7.out.room, HB7.out.room', HB7.out.rd⟩⟩
            · have y3 : (K == 3) = false := by simpa using z3
              by_cases z4 : K = 4
              · subst z4
                have p2 := cell_of_obj OB.out (j := 2) rfl
                obtain ⟨out, y, b2, hd, hb2⟩ := r_own b r 2 M HBW.out.room
                have HD := Lib.hid hd
                clear hd
                go_wp2_with fail
                refine (read_pair HBW.out.two HBW.out.ok _ 2 2 none 0 0 L37 1 wf1 HBW.out.lab.lab M hwn out.length rfl HD.out).mono ?_
                rintro e w7 ⟨ax, cx, rfl, h7, s7⟩
                have HB7 := Lib.hid (HBW.out.first h7 s7 hb2 HBW.out.rd)
                clear h7 s7 k0 k1 p2
                go_wp2
                go_meet
                case rel => exact ⟨_, _, _, by omega, ⟨HB7.out.two.sub (by simp), HB7.out.lab, by simp, by simp, HB7.out.room, HB7.out.room', HB7.out.rd⟩⟩
              · have y4 : (K == 4) = false := by simpa using z4
                go_wp2
                go_meet
                case rel => exact ⟨_, _, _, by omega, ⟨HBW.out.two.sub (by simp), HBW.out.lab, by simp, by simp, HBW.out.room, HBW.out.room', HBW.out.rd⟩⟩
      case rest =>
        obtain ⟨b, b', r, hri, hbl⟩ := hcut
        clear HBW OB HBL
        have HBL := Lib.hid hbl
        clear hbl
        go_upto_region 23 with fail
        have HB2 := Lib.hid ((HBL.out.fresh (.cells #[.int .i64 3] 3)).fresh (.cells #[.slice (some ⟨wc.heap.size, 0, none⟩) 1 1, .slice none 0 0] 26))
        have HLO := Lib.hid (low_new wc 3 26 (0, 0) (0, 0))
        have hsz : (wc.alloc (.cells #[.int .i64 3] 3)).heap.size = wc.heap.size + 1 := by simp
        have hob := heap_alloc_new (wc.alloc (.cells #[.int .i64 3] 3)) (.cells #[.slice (some ⟨wc.heap.size, 0, none⟩) 1 1, .slice none 0 0] 26)
        rw [hsz] at HB2 hob
        have hcs := HBL.out.two.chg.size
        have hltB := HBL.out.two.lt B (by simp)
        have hltC := HBL.out.two.lt C (by simp)
        have HOB := Lib.hid hob
        clear hob hsz
        generalize hwd : (wc.alloc (.cells #[.int .i64 3] 3)).alloc (.cells #[.slice (some ⟨wc.heap.size, 0, none⟩) 1 1, .slice none 0 0] 26) = wd at *
        generalize hB2 : wc.heap.size + 1 = B2 at *
        generalize wc.heap.size = C2 at *
        clear hwd HBL
        go_cut [118] (fun v118 we => we = wd ∧ ∃ x, v118 = .bool x)
        case first =>
          by_cases hlr : i < lr
          · obtain ⟨br, or_, z, rfl, kz0⟩ : ∃ b off z, ar = some ⟨b, off, none⟩ ∧ w.cell? ⟨b, off + i, none⟩ = some (.int .i64 z) := by
              rcases HZ.out.cases with ⟨_, h0⟩ | ⟨b, off, rfl, h1, _, _, h2⟩
              · omega
              · exact ⟨b, off, _, rfl, h2 i hlr⟩
            have kz := HB2.out.two.chg.cell kz0 (by simp)
            generalize hbit : bits BinOp.and IntKind.i64 z 1 = q at *
            go_wp2_with fail
            go_meet
            case rel => exact ⟨rfl, _, rfl⟩
          · go_wp2_with fail
            go_meet
            case rel => exact ⟨rfl, _, rfl⟩
        case rest =>
          obtain ⟨rfl, x, rfl⟩ := hcut
          go_upto_if 118 with fail
          go_cut [] (fun we => ∃ l, LowAt we B2 C2 l ∧ Bl w we t u B C b b' r [B2, C2, B, C])
          case first =>
            cases x with
            | true =>
              have k0 := cell_of_obj HOB.out (j := 0) rfl
              have k1 := cell_of_obj HOB.out (j := 1) rfl
              have f0 := free_of_obj HOB.out 0
              have f1 := free_of_obj HOB.out 1
              go_wp2
              go_meet
              case rel =>
                have hc : Chg [B2] wc ((wc.setCell ⟨B2, 0, none⟩ (.slice none 0 0)).setCell ⟨B2, 1, none⟩ (.slice none 0 0)) := ((Chg.refl [B2] wc).setCell _ _ (by simp)).setCell _ _ (by simp)
                exact ⟨_, low_zero wc _ _ B2 C2 _ rfl HOB.out, HB2.out.two.turn hc (by simp) (by simp; omega), HB2.out.lab.kept hc (by simp; omega) (by simp; omega), by simp, by simp, HB2.out.room, HB2.out.room', HB2.out.rd⟩
            | false =>
              go_wp2
              go_meet
              case rel => exact ⟨_, HLO.out, HB2.out⟩
          case rest =>
            obtain ⟨l, hl, hbl⟩ := hcut
            clear HB2 HLO HOB
            have HBL := Lib.hid hbl
            have HLO := Lib.hid hl
            have hdn := HAT.out.dn
            have hdc := HAT.out.dcap
            simp only at hdn hdc
            obtain ⟨al, nl, k0, hlab⟩ := hl.facts.2
            have HLA := Lib.hid hlab
            have k1 := hl.c1
            have q6 := hbl.two.chg.cell HAT.out.c6 (by simp)
            simp only at q6
            obtain ⟨b1, hw1, hb1⟩ := w_low hl.facts.1 b bs r 2 hbl.room
            obtain ⟨b2, hw2, hb2⟩ := w_low hl.facts.1 b' bs 1 2 hbl.room'
            rw [hdn] at hw1 hw2
            have HW1 := Lib.hid hw1
            have HW2 := Lib.hid hw2
            have HD := Lib.hid (HAT.out.d.kept0 hbl.two.chg)
            clear hw1 hw2 hbl hl hlab
            go_wp2_with fail
            go_region_held3 (fun w' => w'.cell? ⟨B2, 0, none⟩ = some (.slice al nl nl) ∧ w'.cell? ⟨B2, 1, none⟩ = some (.slice none 0 0) ∧ w'.cell? ⟨ba, off + i * 7 + 6, none⟩ = some (.slice da dl dc))
              (first | exact ⟨k0, k1, q6⟩ | exact ⟨l0, l1, l6⟩)
              ((go_at_call 10; refine (write_pair HBL.out.two.drew HBL.out.ok _ nl nl none 0 0 l 1 wf1 (HLA.out.kept0 (Chg.refl [] wc).drew) da dl dc bs HD.out hdn hdc.1 hdc.2 HW1.out).mono ?_; rintro e w8 ⟨rfl, h8, s8⟩; have l0 := s8.cell k0 (by simp); have l1 := s8.cell k1 (by simp); have l6 := h8.chg.cell HAT.out.c6 (by simp)))
            have HB8 := Lib.hid (HBL.out.first h8 s8.drew0 hb1 HBL.out.rd)
            have HL8 := Lib.hid (HLO.out.same s8.drew0 (by simp) (by simp))
            clear h8 s8 k0 k1 q6 HBL HLO HLA HD
            have HLA := Lib.hid (show LabAt w8 al nl nl none 0 0 l from by
              obtain ⟨a', n', g0, g1⟩ := HL8.out.facts.2
              rw [l0] at g0
              cases g0
              exact g1)
            have HD := Lib.hid (HAT.out.d.kept0 HB8.out.two.chg)
            go_wp2_with fail
            go_region_held3 (fun w' => w'.cell? ⟨B2, 0, none⟩ = some (.slice al nl nl) ∧ w'.cell? ⟨B2, 1, none⟩ = some (.slice none 0 0) ∧ w'.cell? ⟨ba, off + i * 7 + 6, none⟩ = some (.slice da dl dc))
              (first | exact ⟨l0, l1, l6⟩ | exact ⟨m0, m1, m6⟩)
              ((go_at_call 10; refine (write_pair HB8.out.two.swap.drew HB8.out.ok' _ nl nl none 0 0 l 1 wf1 (HLA.out.kept0 (Chg.refl [] w8).drew) da dl dc bs HD.out hdn hdc.1 hdc.2 HW2.out).mono ?_; rintro e w9 ⟨rfl, h9, s9⟩; have m0 := s9.cell l0 (by simp); have m1 := s9.cell l1 (by simp); have m6 := h9.chg.cell HAT.out.c6 (by simp)))
            have HB9 := Lib.hid (HB8.out.other h9 s9.drew0 hb2)
            have HL9 := Lib.hid (HL8.out.same s9.drew0 (by simp) (by simp))
            clear h9 s9 l0 l1 l6 HB8 HL8 HLA HD
            have HLA := Lib.hid (show LabAt w9 al nl nl none 0 0 l from by
              obtain ⟨a', n', g0, g1⟩ := HL9.out.facts.2
              rw [m0] at g0
              cases g0
              exact g1)
            go_wp2_with fail
            refine (read_pair HB9.out.two HB9.out.ok _ nl nl none 0 0 l 1 wf1 HLA.out 5 (by decide) 0 rfl (r_low HL9.out.facts.1 b1 r 2)).mono ?_
            rintro e w10 ⟨ax, cx, rfl, h10, s10⟩
            have HB10 := Lib.hid (HB9.out.first h10 s10 HB9.out.room HB9.out.rd)
            have HL10 := Lib.hid (HL9.out.same s10 (by simp) (by simp))
            have n0 := s10.cell m0 (by simp)
            have n1 := s10.cell m1 (by simp)
            clear h10 s10 m0 m1 m6 HB9 HL9 HLA
            have HLA := Lib.hid (show LabAt w10 al nl nl none 0 0 l from by
              obtain ⟨a', n', g0, g1⟩ := HL10.out.facts.2
              rw [n0] at g0
              cases g0
              exact g1)
            go_wp2_with fail
            refine (read_pair HB10.out.two.swap HB10.out.ok' _ nl nl none 0 0 l 1 wf1 HLA.out 5 (by decide) 0 rfl (r_low HL10.out.facts.1 b2 1 2)).mono ?_
            rintro e w11 ⟨ay, cy, rfl, h11, s11⟩
            have HB11 := Lib.hid (HB10.out.other h11 s11 hb2)
            have q6 := HB11.out.two.chg.cell HAT.out.c6 (by simp)
            simp only at q6
            clear h11 s11 n0 n1 HB10 HL10 HLA
            go_wp2_with fail
            go_roundg g
            case measure => omega
            case rel => exact ⟨i + 1, b1, b2, r, by omega, by go_num, by omega, ⟨HB11.out.two.sub (by simp), HB11.out.lab, by simp, by simp, HB11.out.room, HB11.out.room', HB11.out.rd⟩⟩

end Go.Proofs.Ytihkanbkcnonoaa
