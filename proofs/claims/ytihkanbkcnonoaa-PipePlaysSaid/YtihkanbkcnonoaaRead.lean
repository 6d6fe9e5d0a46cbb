/-
  pipe.Read, walked.
-/
import Derived.Test.YtihkanbkcnonoaaKnown
import Derived.Deep.RegionHeld3
namespace Go.Proofs.Ytihkanbkcnonoaa
open Go.RowKit Go.Maps
set_option linter.unusedVariables false

/-- what Read hands back: the bytes in a row of their own (nil with every error), the error; what is left of the table. -/
def ReadPost (w : World) (t : Nat) (own : List Nat) (s : Pi.Tb) (wl : Pi.Lab) (id n : Int) (e : Ending) (w' : World) : Prop :=
  ∃ a m c, e = .returned (.tuple #[.slice a m c, .int .i64 (Pi.read s wl id n).1.2]) ∧ m = (Pi.read s wl id n).1.1.length ∧ Row w' 5 1 (.slice a m c) m ((Pi.read s wl id n).1.1.map byteV) ∧
    (∀ k ∈ rowBlock (.slice a m c), w.heap.size ≤ k) ∧ ∃ own', Tab w' t own' (Pi.read s wl id n).2 ∧ (∀ k ∈ own', k ∈ own ∨ w.heap.size ≤ k) ∧ Chg own w w' ∧ ∀ k ∈ rowBlock (.slice a m c), k ∉ own'

theorem readPost_none {w wb wk : World} {t : Nat} {own : List Nat} {s : Pi.Tb} {wl : Pi.Lab} {id n : Int} {v : Int} (hr : Pi.read s wl id n = (([], v), s)) (h : Tab wb t own s) (h0 : Chg [] w wb) (hb : Chg [] wb wk) :
    ReadPost w t own s wl id n (.returned (.tuple #[.slice none 0 0, .int .i64 v])) wk := by
  refine ⟨none, 0, 0, by rw [hr], by rw [hr]; rfl, by rw [hr]; exact Row.nil _ _ _ _, by simp [rowBlock], own, by rw [hr]; exact h.kept0 hb, fun k hk => .inl hk, (h0.then0 hb).mono (by simp), by simp [rowBlock]⟩

theorem readPost_ok {w wb w4 w5 : World} {t : Nat} {own : List Nat} {s : Pi.Tb} {wl : Pi.Lab} {id n : Int} {out rest : List UInt8}
    {B pb : Nat} {a1 : Option Addr} {n1 c1 : Nat} {a2 : Option Addr} {n2 c2 : Nat} {s1 : Option Addr} {k1 e1 : Nat} {s2 : Option Addr} {k2 e2 : Nat} {av : Option Addr} {cv : Nat} {p : Pi.Pp} {po : List Nat}
    {b1 b2 : Option Addr} {q d1 m2 d2 : Nat}
    (hr : Pi.read s wl id n = ((out, 0), { s with ps := Pi.put s.ps id { p with b := rest } })) (hT : Tab wb t own s)
    (hput : ∀ (F : List Nat) (w' : World) (q : Pi.Pp) (po' : List Nat), Chg F wb w' → (∀ k ∈ F, k ∈ po) → PipeAt w' pb po' q → po'.Nodup → (∀ k ∈ po', k ∈ po ∨ wb.heap.size ≤ k) →
      ∃ own', Tab w' t own' { s with ps := Pi.put s.ps id q } ∧ ∀ k ∈ own', k ∈ own ∨ k ∈ po')
    (h0 : Chg [] w wb) (hb4 : Chg [] wb w4) (h5 : Chg [] w4 w5) (hsub : ∀ k ∈ po, k ∈ own)
    (K : Known w4 B pb a1 n1 c1 a2 n2 c2 wl s1 k1 e1 s2 k2 e2 av cv p none [])
    (hpo : po = pb :: (rowBlock (.slice s1 k1 e1) ++ rowBlock (.slice s2 k2 e2) ++ rowBlock (.slice av p.b.length cv))) (hnd : po.Nodup)
    (r1 : Row w4 5 1 (.slice b1 q d1) q (out.map byteV)) (hq : out.length = q) (hqd : q ≤ d1) (g1 : ∀ k ∈ rowBlock (.slice b1 q d1), wb.heap.size ≤ k)
    (r2 : Row w5 5 1 (.slice b2 m2 d2) rest.length (rest.map byteV)) (g2 : ∀ k ∈ rowBlock (.slice b2 m2 d2), w4.heap.size ≤ k) :
    ReadPost w t own s wl id n (.returned (.tuple #[.slice b1 q q, .int .i64 0])) (w5.setCell ⟨pb, 2, none⟩ (.slice b2 m2 d2)) := by
  have hlt := hT.lt
  have l1 := r1.block_lt
  have hs4 := hb4.size
  obtain ⟨po', q1, q2, q3, q4⟩ := K.stored hpo hnd (h5.mono (by simp)) _ _ r2 (fun k hk => .inr (g2 k hk))
  obtain ⟨own', t1, t2, t3⟩ := left_put' hput h0 hb4 hsub q1 q2 q3 q4
  have hpb : pb ∈ own := hsub pb (by rw [hpo]; simp)
  have hcl := rowBlock_clip b1 q q d1 hqd
  refine ⟨b1, q, q, by rw [hr], by rw [hr]; exact hq.symm, ?_, ?_, own', by rw [hr]; exact t1, ?_, t3, ?_⟩
  · rw [hr]
    refine ((r1.kept0 h5).clip).kept ((Chg.refl [pb] w5).setCell _ _ (by simp)) ?_
    intro k hk he
    simp at he
    subst he
    have h1 := g1 k (hcl k hk)
    have h2 := hlt k hpb
    omega
  · intro k hk
    exact Nat.le_trans h0.size (g1 k (hcl k hk))
  · intro k hk
    rcases t2 k hk with h | h
    · exact .inl h
    · exact .inr (Nat.le_trans (Nat.le_trans h0.size hs4) h.2)
  · intro k hk hk'
    have h1 := g1 k (hcl k hk)
    have h2 := l1 k (hcl k hk)
    rcases t2 k hk' with h | h
    · have := hlt k h; omega
    · omega

set_option maxHeartbeats 4000000 in
theorem read_any (t : Nat) (own : List Nat) (s : Pi.Tb) (a1 : Option Addr) (n1 c1 : Nat) (a2 : Option Addr) (n2 c2 : Nat) (wl : Pi.Lab) (id : Int) (n : Int) (w : World)
    (h : Tab w t own s) (hw : (Lit.int .i64 id).wf = true) (hF : Fine s) (hl : LabAt w a1 n1 c1 a2 n2 c2 wl) (hn : (Lit.int .i64 n).wf = true) :
    Calls Try.prog 11 #[.pointer (some ⟨t, 0, none⟩), .agg #[.slice a1 n1 c1, .slice a2 n2 c2], .int .i64 id, .int .i64 n] w
      (ReadPost w t own s wl id n) := by
  obtain ⟨i0, hi, hz0, hz1, hz2⟩ := info_parts Try.infoByte
  have hbox := (Chg.refl [] w).alloc (.cells #[.slice a1 n1 c1, .slice a2 n2 c2] 26)
  have h' := h.kept0 hbox
  obtain ⟨mb, ht, hm, hto, htm, hcase⟩ := h'.focus hw
  have hc0 := cell_of_obj ht (j := 0) rfl
  have HL := Lib.hid (hl.kept0 hbox)
  have HB := Lib.hid hbox
  have HT := Lib.hid h'
  clear h hbox h'
  rcases hcase with ⟨hf, hlook⟩ | ⟨pb, po, p, hlook, F⟩
  · have hr := Lib.hid (show Pi.read s wl id n = (([], 61), s) from by unfold Pi.read; rw [hf])
    clear hf ht
    go_enter Try.func11, Try.ntmps11
    go_wp2
    go_ret2
    exact readPost_none hr.out HT.out HB.out (Chg.refl _ _)
  · have hfound := Lib.hid F.found
    have hfine := hF _ (find_mem F.found)
    obtain ⟨hmp, hbl⟩ := hfine
    simp only at hmp hbl
    have hpl := may_len hmp
    obtain ⟨s1, k1, e1, s2, k2, e2, vb, hobj, hrs, hri, hrb, hpo⟩ := F.at_
    obtain ⟨av, cv, rfl, hcv1, hcv2⟩ := hrb.shape
    have hk : Known (w.alloc (.cells #[.slice a1 n1 c1, .slice a2 n2 c2] 26)) w.heap.size pb a1 n1 c1 a2 n2 c2 wl s1 k1 e1 s2 k2 e2 av cv p none [] :=
      ⟨cell_of_obj (obj_alloc_new w _) rfl, cell_of_obj (obj_alloc_new w _) rfl, hobj, HL.out, hrs, hri, hrb, by simp [SrcAt]⟩
    have K0 := Lib.hid hk
    have hks : k1 ≤ 16 ∧ k2 ≤ 16 := by
      have h1 := hrs.nums.1
      have h2 := hri.nums.1
      omega
    have hsub := Lib.hid F.sub
    have hput := Lib.hid F.put
    have hnd := Lib.hid F.nodup
    have HP := Lib.hid hpo
    have HM := Lib.hid hmp
    have HV := Lib.hid (show pb ∉ rowBlock (.slice av p.b.length cv) from by
      have := hnd.out
      rw [hpo] at this
      simp only [List.nodup_cons, List.mem_append, not_or] at this
      exact this.1.2)
    clear ht F hobj hrs hri hrb hpo hk hl hmp hpl
    go_enter Try.func11, Try.ntmps11
    go_wp2_with fail
    refine (may_any a1 n1 c1 a2 n2 c2 wl _ HL.out).mono ?_
    rintro e w1 ⟨rfl, h1⟩
    have K1 := Lib.hid (K0.out.kept0 h1)
    have B1 := Lib.hid h1
    clear K0 h1 HL
    cases hmay : Pi.mayB wl with
    | false =>
      have hr := Lib.hid (show Pi.read s wl id n = (([], 1), s) from by unfold Pi.read; rw [hfound.out]; simp [hmay])
      clear hmay
      go_wp2
      go_ret2
      exact readPost_none hr.out HT.out HB.out B1.out
    | true =>
      have hn1 : n1 ≤ 16 ∧ n2 ≤ 16 := by
        have h1 := may_len hmay
        have h2 := K1.out.mine.s.1
        have h3 := K1.out.mine.i.1
        omega
      have HMAY := Lib.hid hmay
      clear hmay
      obtain ⟨x0, x1, x2, x3, x4, x5, x6, x7⟩ := K1.out.cells
      by_cases hneg : n < 0
      · have hr := Lib.hid (show Pi.read s wl id n = (([], 1), s) from by unfold Pi.read; rw [hfound.out]; simp [hneg])
        go_wp2
        go_ret2
        exact readPost_none hr.out HT.out HB.out B1.out
      · go_wp2_with fail
        go_region_held3 (fun w' => w'.cell? ⟨w.heap.size, 0, none⟩ = some (.slice a1 n1 c1) ∧ w'.cell? ⟨w.heap.size, 1, none⟩ = some (.slice a2 n2 c2) ∧ w'.cell? ⟨pb, 0, none⟩ = some (.slice s1 k1 e1) ∧ w'.cell? ⟨pb, 1, none⟩ = some (.slice s2 k2 e2))
          (first | exact ⟨x0, x1, x2, x3⟩ | exact ⟨h3.cell x0 (by simp), h3.cell x1 (by simp), h3.cell x2 (by simp), h3.cell x3 (by simp)⟩)
          ((go_at_call 26; refine (same_any a1 n1 c1 a2 n2 c2 wl s1 k1 e1 s2 k2 e2 p.lab _ K1.out.drew.mine K1.out.drew.its hn1.1 hn1.2 hks.1 hks.2).mono ?_; rintro e w3 ⟨rfl, h3⟩))
        have K3 := Lib.hid (K1.out.drew.kept0 h3)
        have B3 := Lib.hid (B1.out.drew.then0 h3)
        clear K1 B1 h3 x0 x1 x2 x3 x4 x5 x6 x7
        obtain ⟨x0, x1, x2, x3, x4, x5, x6, x7⟩ := K3.out.cells
        cases hsame : Pi.sameB wl p.lab with
        | false =>
          have hr := Lib.hid (show Pi.read s wl id n = (([], 70), s) from by unfold Pi.read; rw [hfound.out]; simp [HMAY.out, hneg, hsame])
          clear hsame
          go_wp2
          go_ret2
          exact readPost_none hr.out HT.out HB.out B3.out
        | true =>
          have HS := Lib.hid hsame
          clear hsame
          by_cases hag : p.b.length = 0 ∧ 0 < n ∧ 0 < p.heirs
          · have hr := Lib.hid (show Pi.read s wl id n = (([], 63), s) from by
              have : p.b = [] := List.eq_nil_of_length_eq_zero hag.1
              unfold Pi.read; rw [hfound.out]; simp [HMAY.out, HS.out, this, hag.2.1, hag.2.2]; omega)
            obtain ⟨g1, g2, g3⟩ := hag
            have hy1 : ((p.b.length : Int) == 0) = true := by rw [beq_iff_eq]; omega
            have G := Lib.hid g1
            clear g1
            go_wp2
            go_ret2
            exact readPost_none hr.out HT.out HB.out B3.out
          · have hr := Lib.hid (show Pi.read s wl id n = ((p.b.take n.toNat, 0), { s with ps := Pi.put s.ps id { p with b := p.b.drop n.toNat } }) from by
              have : ¬ (p.b = [] ∧ 0 < n ∧ 0 < p.heirs) := fun h => hag ⟨by rw [h.1]; rfl, h.2⟩
              unfold Pi.read; rw [hfound.out]; simp only [HMAY.out, HS.out]; rw [if_neg (by simp; omega), if_neg (by simp), if_neg this])
            obtain ⟨m, rfl⟩ : ∃ m : Nat, n = (m : Int) := ⟨n.toNat, by omega⟩
            have hr := Lib.hid hr.out
            rw [Int.toNat_natCast] at hr
            have hcases : p.b.length ≠ 0 ∨ (p.b.length = 0 ∧ m = 0) ∨ (p.b.length = 0 ∧ 0 < m ∧ p.heirs ≤ 0) := by omega
            have H8 := Lib.hid hcases
            clear hcases hag
            by_cases hml : m ≤ p.b.length
            · have hy1 : (p.b.length : Int) ≤ 256 := by omega
              rcases H8.out with g | ⟨g, g2⟩ | ⟨g, g2, g3⟩
              · have hy2 : ((p.b.length : Int) == 0) = false := by rw [beq_eq_false_iff_ne]; omega
                clear g
                go_wp2_with fail
                have hq : (p.b.take m).length = m := by rw [List.length_take]; omega
                have hqd : (p.b.drop m).length = p.b.length - m := by rw [List.length_drop]
                refine (clone_bytes av _ cv ((p.b.take m).map byteV) _ (by rw [List.length_map, hq]) (fun e => by have := K3.out.nil e; omega) (by rw [List.map_take]; exact K3.out.rb.src.take _) (bytes_all _) (by omega)).mono ?_
                rintro e w4 ⟨v1, rfl, r1, h4, g1⟩
                obtain ⟨b1, d1, rfl, l1, l2⟩ := r1.shape
                have K4 := Lib.hid (K3.out.kept0 h4)
                have B4 := Lib.hid (B3.out.then0 h4)
                have R1 := Lib.hid r1
                have G1 := Lib.hid g1
                have Z3 := Lib.hid B3.out.size
                have Q1 := Lib.hid hq
                have Q2 := Lib.hid hqd
                clear r1 g1 h4 K3 B3 x0 x1 x2 x3 x4 x5 x6 x7 hq hqd
                obtain ⟨x0, x1, x2, x3, x4, x5, x6, x7⟩ := K4.out.cells
                go_wp2_with fail
                refine (clip_bytes b1 _ d1 _ l1 l2).mono ?_
                rintro e w' ⟨rfl, rfl⟩
                go_wp2_with fail
                all_goals
                  refine (clone_bytes _ _ _ ((p.b.drop m).map byteV) _ (by rw [List.length_map, Q2.out]; try omega) (fun e => by
                      have e2 : av = none := by first | exact e | (simpa using e)
                      have := K4.out.nil e2; omega) (by
                      first
                        | (intro hne; exact absurd (by rw [List.map_eq_nil_iff, List.drop_eq_nil_iff]; omega) hne)
                        | (rw [List.map_drop]; exact src_drop K4.out.rb.src _)) (bytes_all _) (by omega)).mono ?_
                  rintro e w5 ⟨v2, rfl, r2, h5, g2⟩
                  obtain ⟨b2, m2, d2, rfl, l3⟩ := r2.shape3
                  have K5 := Lib.hid (K4.out.kept0 h5)
                  have H5 := Lib.hid h5
                  have R2 := Lib.hid r2
                  have G2 := Lib.hid g2
                  clear r2 g2 h5 x0 x1 x2 x3 x4 x5 x6 x7
                  obtain ⟨x0, x1, x2, x3, x4, x5, x6, x7⟩ := K5.out.cells
                  go_wp2
                  go_ret2
                  exact readPost_ok hr.out HT.out hput.out HB.out B4.out H5.out hsub.out K4.out HP.out hnd.out R1.out Q1.out l1 (fun k hk => Nat.le_trans Z3.out (G1.out k hk)) (by first | (rw [Q2.out]; exact R2.out) | (have e9 := Q2.out; rw [Nat.sub_self] at e9; rw [e9]; exact R2.out)) G2.out
              · have hy2 : ((p.b.length : Int) == 0) = true := by rw [beq_iff_eq]; omega
                have hy3 : ¬ (0 : Int) < (m : Int) := by omega
                have G8 := Lib.hid g
                have G9 := Lib.hid g2


                clear g g2
                go_wp2_with fail
                have hq : (p.b.take m).length = m := by rw [List.length_take]; omega
                have hqd : (p.b.drop m).length = p.b.length - m := by rw [List.length_drop]
                refine (clone_bytes av _ cv ((p.b.take m).map byteV) _ (by rw [List.length_map, hq]) (fun e => by have := K3.out.nil e; omega) (by rw [List.map_take]; exact K3.out.rb.src.take _) (bytes_all _) (by omega)).mono ?_
                rintro e w4 ⟨v1, rfl, r1, h4, g1⟩
                obtain ⟨b1, d1, rfl, l1, l2⟩ := r1.shape
                have K4 := Lib.hid (K3.out.kept0 h4)
                have B4 := Lib.hid (B3.out.then0 h4)
                have R1 := Lib.hid r1
                have G1 := Lib.hid g1
                have Z3 := Lib.hid B3.out.size
                have Q1 := Lib.hid hq
                have Q2 := Lib.hid hqd
                clear r1 g1 h4 K3 B3 x0 x1 x2 x3 x4 x5 x6 x7 hq hqd
                obtain ⟨x0, x1, x2, x3, x4, x5, x6, x7⟩ := K4.out.cells
                go_wp2_with fail
                refine (clip_bytes b1 _ d1 _ l1 l2).mono ?_
                rintro e w' ⟨rfl, rfl⟩
                go_wp2_with fail
                all_goals
                  refine (clone_bytes _ _ _ ((p.b.drop m).map byteV) _ (by rw [List.length_map, Q2.out]; try omega) (fun e => by
                      have e2 : av = none := by first | exact e | (simpa using e)
                      have := K4.out.nil e2; omega) (by
                      first
                        | (intro hne; exact absurd (by rw [List.map_eq_nil_iff, List.drop_eq_nil_iff]; omega) hne)
                        | (rw [List.map_drop]; exact src_drop K4.out.rb.src _)) (bytes_all _) (by omega)).mono ?_
                  rintro e w5 ⟨v2, rfl, r2, h5, g2⟩
                  obtain ⟨b2, m2, d2, rfl, l3⟩ := r2.shape3
                  have K5 := Lib.hid (K4.out.kept0 h5)
                  have H5 := Lib.hid h5
                  have R2 := Lib.hid r2
                  have G2 := Lib.hid g2
                  clear r2 g2 h5 x0 x1 x2 x3 x4 x5 x6 x7
                  obtain ⟨x0, x1, x2, x3, x4, x5, x6, x7⟩ := K5.out.cells
                  go_wp2
                  go_ret2
                  exact readPost_ok hr.out HT.out hput.out HB.out B4.out H5.out hsub.out K4.out HP.out hnd.out R1.out Q1.out l1 (fun k hk => Nat.le_trans Z3.out (G1.out k hk)) (by first | (rw [Q2.out]; exact R2.out) | (have e9 := Q2.out; rw [Nat.sub_self] at e9; rw [e9]; exact R2.out)) G2.out
              · omega
            · have hr' := Lib.hid (show Pi.read s wl id (m : Int) = ((p.b.take p.b.length, 0), { s with ps := Pi.put s.ps id { p with b := p.b.drop p.b.length } }) from by
                rw [hr.out, List.take_of_length_le (by omega), List.drop_eq_nil_of_le (by omega), List.take_length, List.drop_length])
              have hy1 : (p.b.length : Int) ≤ 256 := by omega
              rcases H8.out with g | ⟨g, g2⟩ | ⟨g, g2, g3⟩
              · have hy2 : ((p.b.length : Int) == 0) = false := by rw [beq_eq_false_iff_ne]; omega
                clear g
                go_wp2_with fail
                have hq : (p.b.take p.b.length).length = p.b.length := by rw [List.length_take]; omega
                have hqd : (p.b.drop p.b.length).length = p.b.length - p.b.length := by rw [List.length_drop]
                refine (clone_bytes av _ cv ((p.b.take p.b.length).map byteV) _ (by rw [List.length_map, hq]) (fun e => by have := K3.out.nil e; omega) (by rw [List.map_take]; exact K3.out.rb.src.take _) (bytes_all _) (by omega)).mono ?_
                rintro e w4 ⟨v1, rfl, r1, h4, g1⟩
                obtain ⟨b1, d1, rfl, l1, l2⟩ := r1.shape
                have K4 := Lib.hid (K3.out.kept0 h4)
                have B4 := Lib.hid (B3.out.then0 h4)
                have R1 := Lib.hid r1
                have G1 := Lib.hid g1
                have Z3 := Lib.hid B3.out.size
                have Q1 := Lib.hid hq
                have Q2 := Lib.hid hqd
                clear r1 g1 h4 K3 B3 x0 x1 x2 x3 x4 x5 x6 x7 hq hqd
                obtain ⟨x0, x1, x2, x3, x4, x5, x6, x7⟩ := K4.out.cells
                go_wp2_with fail
                refine (clip_bytes b1 _ d1 _ l1 l2).mono ?_
                rintro e w' ⟨rfl, rfl⟩
                go_wp2_with fail
                all_goals
                  refine (clone_bytes _ _ _ ((p.b.drop p.b.length).map byteV) _ (by rw [List.length_map, Q2.out]; try omega) (fun e => by
                      have e2 : av = none := by first | exact e | (simpa using e)
                      have := K4.out.nil e2; omega) (by
                      first
                        | (intro hne; exact absurd (by rw [List.map_eq_nil_iff, List.drop_eq_nil_iff]; omega) hne)
                        | (rw [List.map_drop]; exact src_drop K4.out.rb.src _)) (bytes_all _) (by omega)).mono ?_
                  rintro e w5 ⟨v2, rfl, r2, h5, g2⟩
                  obtain ⟨b2, m2, d2, rfl, l3⟩ := r2.shape3
                  have K5 := Lib.hid (K4.out.kept0 h5)
                  have H5 := Lib.hid h5
                  have R2 := Lib.hid r2
                  have G2 := Lib.hid g2
                  clear r2 g2 h5 x0 x1 x2 x3 x4 x5 x6 x7
                  obtain ⟨x0, x1, x2, x3, x4, x5, x6, x7⟩ := K5.out.cells
                  go_wp2
                  go_ret2
                  exact readPost_ok hr'.out HT.out hput.out HB.out B4.out H5.out hsub.out K4.out HP.out hnd.out R1.out Q1.out l1 (fun k hk => Nat.le_trans Z3.out (G1.out k hk)) (by first | (rw [Q2.out]; exact R2.out) | (have e9 := Q2.out; rw [Nat.sub_self] at e9; rw [e9]; exact R2.out)) G2.out
              · omega
              · have hy2 : ((p.b.length : Int) == 0) = true := by rw [beq_iff_eq]; omega
                have hy3 : (0 : Int) < (m : Int) := by omega
                have hy4 : ¬ 0 < p.heirs := by omega
                have G8 := Lib.hid g

                clear g g2 g3
                go_wp2_with fail
                have hq : (p.b.take p.b.length).length = p.b.length := by rw [List.length_take]; omega
                have hqd : (p.b.drop p.b.length).length = p.b.length - p.b.length := by rw [List.length_drop]
                refine (clone_bytes av _ cv ((p.b.take p.b.length).map byteV) _ (by rw [List.length_map, hq]) (fun e => by have := K3.out.nil e; omega) (by rw [List.map_take]; exact K3.out.rb.src.take _) (bytes_all _) (by omega)).mono ?_
                rintro e w4 ⟨v1, rfl, r1, h4, g1⟩
                obtain ⟨b1, d1, rfl, l1, l2⟩ := r1.shape
                have K4 := Lib.hid (K3.out.kept0 h4)
                have B4 := Lib.hid (B3.out.then0 h4)
                have R1 := Lib.hid r1
                have G1 := Lib.hid g1
                have Z3 := Lib.hid B3.out.size
                have Q1 := Lib.hid hq
                have Q2 := Lib.hid hqd
                clear r1 g1 h4 K3 B3 x0 x1 x2 x3 x4 x5 x6 x7 hq hqd
                obtain ⟨x0, x1, x2, x3, x4, x5, x6, x7⟩ := K4.out.cells
                go_wp2_with fail
                refine (clip_bytes b1 _ d1 _ l1 l2).mono ?_
                rintro e w' ⟨rfl, rfl⟩
                go_wp2_with fail
                all_goals
                  refine (clone_bytes _ _ _ ((p.b.drop p.b.length).map byteV) _ (by rw [List.length_map, Q2.out]; try omega) (fun e => by
                      have e2 : av = none := by first | exact e | (simpa using e)
                      have := K4.out.nil e2; omega) (by
                      first
                        | (intro hne; exact absurd (by rw [List.map_eq_nil_iff, List.drop_eq_nil_iff]; omega) hne)
                        | (rw [List.map_drop]; exact src_drop K4.out.rb.src _)) (bytes_all _) (by omega)).mono ?_
                  rintro e w5 ⟨v2, rfl, r2, h5, g2⟩
                  obtain ⟨b2, m2, d2, rfl, l3⟩ := r2.shape3
                  have K5 := Lib.hid (K4.out.kept0 h5)
                  have H5 := Lib.hid h5
                  have R2 := Lib.hid r2
                  have G2 := Lib.hid g2
                  clear r2 g2 h5 x0 x1 x2 x3 x4 x5 x6 x7
                  obtain ⟨x0, x1, x2, x3, x4, x5, x6, x7⟩ := K5.out.cells
                  go_wp2
                  go_ret2
                  exact readPost_ok hr'.out HT.out hput.out HB.out B4.out H5.out hsub.out K4.out HP.out hnd.out R1.out Q1.out l1 (fun k hk => Nat.le_trans Z3.out (G1.out k hk)) (by first | (rw [Q2.out]; exact R2.out) | (have e9 := Q2.out; rw [Nat.sub_self] at e9; rw [e9]; exact R2.out)) G2.out

end Go.Proofs.Ytihkanbkcnonoaa
