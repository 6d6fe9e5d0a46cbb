/-
  What stands between two quotes: walked.
-/
import Derived.Test.YtfgbbmnmblchiaaDoorVar
namespace Go.Proofs.YtfgbbmnmblchiaaDoor
open Go.RowKit
set_option linter.unusedVariables false

theorem varP_some {ps ps' : List Lx.Part} {k : Int} {r : List UInt8} {m : Nat} (h : Lx.varP ps k r = some (ps', m)) : 1 ≤ m ∧ m ≤ r.length + 1 := by
  unfold Lx.varP at h
  have hd := dollarP_le r
  by_cases h0 : (Lx.dollarP r).2 < 0
  · rw [if_pos h0] at h; cases h
  · rw [if_neg h0] at h
    cases h
    omega

theorem Sm.var {ps ps' : List Lx.Part} {N m : Nat} {k : Int} {r : List UInt8} (hs : Sm ps N) (h : Lx.varP ps k r = some (ps', m)) : Sm ps' (N + m) := by
  have hm := varP_some h
  unfold Lx.varP at h
  have hd := dollarP_le r
  by_cases h0 : (Lx.dollarP r).2 < 0
  · rw [if_pos h0] at h; cases h
  · rw [if_neg h0] at h
    cases h
    split
    · exact hs.add 1 _ (by simp only [List.length_cons, List.length_nil]; omega) (by omega)
    · exact hs.add k _ (by omega) (by omega)

/-- what reading up to the second quote leaves. -/
def QuotPost (w : World) (rb : Nat) (l : List UInt8) (vo v : Value) (o : Lx.Res (List Lx.Part × Nat)) (e : Ending) (w' : World) : Prop :=
  match o with
  | .bad i => e = .returned (.tuple #[.slice none 0 0, .int .i64 i]) ∧ Chg (rb :: rowBlock v) w w'
  | .ok (ps, p) => ∃ a n c, e = .returned (.tuple #[.slice a n c, .int .i64 (-1)]) ∧ PartsAt w' (.slice a n c) ps ∧ ReadAt w' rb l p vo ∧ Chg (rb :: rowBlock v) w w' ∧ ∀ k ∈ rowBlock (.slice a n c), k ∈ rowBlock v ∨ w.heap.size ≤ k

/-- what holds at the head of each round of reading. -/
structure QuotAt (w : World) (rb : Nat) (l : List UInt8) (vo v : Value) (p : Nat) (ps : List Lx.Part) (a : Option Addr) (n c : Nat) (wr : World) : Prop where
  read : ReadAt wr rb l p vo
  parts : PartsAt wr (.slice a n c) ps
  out : rb ∉ rowBlock (.slice a n c)
  chg : Chg (rb :: rowBlock v) w wr
  row : ∀ k ∈ rowBlock (.slice a n c), k ∈ rowBlock v ∨ w.heap.size ≤ k
  sm : Sm ps p
  le : p ≤ l.length

theorem esc_any (d : UInt8) (z : Nat) (hz : d.toNat = z) (w : World) : Calls Tryd.prog 23 #[.string ⟨#[34, 92, 36]⟩, .int .u8 z] w fun e w' => e = .returned (.int .i64 (Lib.indexByte [34, 92, 36] d)) ∧ w' = w := by
  subst hz
  refine (Tryd.strings_IndexByte ⟨#[34, 92, 36]⟩ d.toNat w).mono fun e w' h => ⟨h.1.trans (ret_i64 ?_), h.2⟩
  rw [Int.toNat_natCast]
  show Lib.indexByte [34, 92, 36] (UInt8.ofNat d.toNat) = _
  rw [UInt8.ofNat_toNat]

theorem esc_ib (t : List UInt8) (d : UInt8) : decide (0 ≤ Lib.indexByte [34, 92, 36] d) = Lx.escB (d :: t) := by
  rw [ib_has]
  simp only [Lx.escB, List.contains_cons, List.contains_nil, Bool.or_false, Bool.or_assoc]

theorem quotP_cons (q g : Nat) (b : UInt8) (t : List UInt8) (p : Nat) (ps : List Lx.Part) : Lx.quotP q (g + 1) (b :: t) p ps =
    if b = 34 then .ok (ps, p + 1)
    else if b = 36 then (match Lx.varP ps 3 t with | none => .bad p | some (l', n) => Lx.quotP q g ((b :: t).drop n) (p + n) l')
    else if b = 92 ∧ Lx.escB t = true then Lx.quotP q g (t.drop 1) (p + 2) (Lx.addP ps 1 (t.take 1))
    else Lx.quotP q g t (p + 1) (Lx.addP ps 1 [b]) := rfl

theorem QuotAt.next {w W W' : World} {rb : Nat} {l : List UInt8} {vo v : Value} {p p' : Nat} {ps ps' : List Lx.Part} {a a' : Option Addr} {n n' c c' : Nat} (hI : QuotAt w rb l vo v p ps a n c W)
    (hP : PartsAt W' (.slice a' n' c') ps') (hR : ReadAt W' rb l p' vo) (hC : Chg (rb :: rowBlock (.slice a n c)) W W') (hB : ∀ k ∈ rowBlock (.slice a' n' c'), k ∈ rowBlock (.slice a n c) ∨ W.heap.size ≤ k) (hs : Sm ps' p') (hle : p' ≤ l.length) :
    QuotAt w rb l vo v p' ps' a' n' c' W' where
  read := hR
  parts := hP
  out := fun h => by
    rcases hB rb h with h1 | h1
    · exact hI.out h1
    · have := hI.read.lt; omega
  chg := hI.chg.trans hC (fun k hk => by
    rcases List.mem_cons.1 hk with rfl | hk
    · exact .inl (by simp)
    · exact (hI.row k hk).imp (fun h => List.mem_cons_of_mem _ h) id)
  row := fun k hk => by
    rcases hB k hk with h1 | h1
    · exact hI.row k h1
    · exact .inr (Nat.le_trans hI.chg.size h1)
  sm := hs
  le := hle

theorem QuotAt.drewN {w W : World} {rb : Nat} {l : List UInt8} {vo v : Value} {p : Nat} {ps : List Lx.Part} {a : Option Addr} {n c : Nat} (hI : QuotAt w rb l vo v p ps a n c W) (k : Nat) : QuotAt w rb l vo v p ps a n c (W.drewN k) :=
  hI.next (hI.parts.kept0 ((Chg.refl [] W).drewN k)) (hI.read.kept0 ((Chg.refl [] W).drewN k)) ((Chg.refl _ W).drewN k) (fun k hk => .inl hk) hI.sm hI.le

theorem QuotAt.added {w W W2 : World} {rb : Nat} {l : List UInt8} {vo v : Value} {p : Nat} {ps ps' : List Lx.Part} {a a' : Option Addr} {n n' c c' : Nat} (hI : QuotAt w rb l vo v p ps a n c W)
    (hP : PartsAt W2 (.slice a' n' c') ps') (hC : Chg (rowBlock (.slice a n c)) W W2) (hB : ∀ k ∈ rowBlock (.slice a' n' c'), k ∈ rowBlock (.slice a n c) ∨ W.heap.size ≤ k) (q : Nat) (z : Int) (hz : z = q) (hs : Sm ps' q) (hle : q ≤ l.length) :
    QuotAt w rb l vo v q ps' a' n' c' (W2.setCell ⟨rb, 1, none⟩ (.int .i64 z)) := by
  subst hz
  have hout : rb ∉ rowBlock (.slice a' n' c') := fun h => by
    rcases hB rb h with h1 | h1
    · exact hI.out h1
    · have := hI.read.lt; omega
  have h2 : Chg [rb] W2 (W2.setCell ⟨rb, 1, none⟩ (.int .i64 q)) := (Chg.refl [rb] W2).setCell _ _ (.inl (by simp))
  refine hI.next (hP.kept h2 (fun k hk => by simp only [List.mem_singleton]; rintro rfl; exact hout hk)) ((hI.read.kept hC hI.out).set q) ?_ hB hs hle
  exact (hC.mono (fun k hk => .inl (List.mem_cons_of_mem _ hk))).trans h2 (by simp)

theorem QuotAt.moved {w W : World} {rb : Nat} {l : List UInt8} {vo v : Value} {p : Nat} {ps : List Lx.Part} {a : Option Addr} {n c : Nat} (hI : QuotAt w rb l vo v p ps a n c W) (q : Nat) (z : Int) (hz : z = q) (hs : p ≤ q) (hle : q ≤ l.length) :
    QuotAt w rb l vo v q ps a n c (W.setCell ⟨rb, 1, none⟩ (.int .i64 z)) :=
  hI.added hI.parts (Chg.refl _ _) (fun k hk => .inl hk) q z hz (hI.sm.mono hs) hle

theorem QuotAt.fin {w W : World} {rb : Nat} {l : List UInt8} {vo v : Value} {p : Nat} {ps : List Lx.Part} {a : Option Addr} {n c : Nat} (hI : QuotAt w rb l vo v p ps a n c W) :
    QuotPost w rb l vo v (.ok (ps, p)) (.returned (.tuple #[.slice a n c, .int .i64 (-1)])) W := ⟨a, n, c, rfl, hI.parts, hI.read, hI.chg, hI.row⟩

set_option maxHeartbeats 4000000 in
set_option maxRecDepth 10000 in
theorem quoted_any (rb : Nat) (l : List UInt8) (vo : Value) (q : Nat) (a : Option Addr) (n c : Nat) (ps : List Lx.Part) (t : List UInt8) (w : World)
    (hR : ReadAt w rb l q vo) (hP : PartsAt w (.slice a n c) ps) (hrb : rb ∉ rowBlock (.slice a n c)) (hd : l.drop q = 34 :: t) (hl : l.length ≤ 2048) (hs : Sm ps q) :
    Calls Tryd.prog 42 #[.pointer (some ⟨rb, 0, none⟩), .slice a n c] w (QuotPost w rb l vo (.slice a n c) (Lx.quotP q (t.length + 1) t (q + 1) ps)) := by
  have hlen : l.length = q + (t.length + 1) := by
    have := congrArg List.length hd
    rw [List.length_drop, List.length_cons] at this
    omega
  have hdt : l.drop (q + 1) = t := by
    rw [← List.drop_drop, hd]; rfl
  obtain ⟨R, hQ⟩ : ∃ R, Lx.quotP q (t.length + 1) t (q + 1) ps = R := ⟨_, rfl⟩
  have HQ0 := Lib.hid (show R = Lx.quotP q (t.length + 1) (l.drop (q + 1)) (q + 1) ps from by rw [hdt]; exact hQ.symm)
  rw [hQ]
  have hrl := lt_of_obj hR
  have h1 : Chg (rb :: rowBlock (.slice a n c)) w (w.setCell ⟨rb, 1, none⟩ (.int .i64 (q + 1))) := (Chg.refl _ w).setCell _ _ (.inl (by simp))
  have HI := Lib.hid (show QuotAt w rb l vo (.slice a n c) (q + 1) ps a n c (w.setCell ⟨rb, 1, none⟩ (.int .i64 (q + 1))) from
    { read := hR.set (q + 1)
      parts := hP.kept ((Chg.refl [rb] w).setCell ⟨rb, 1, none⟩ (.int .i64 (q + 1)) (.inl (by simp))) (fun k hk => by simp only [List.mem_singleton]; rintro rfl; exact hrb hk)
      out := hrb, chg := h1, row := fun k hk => .inl hk, sm := hs.mono (by omega), le := by omega })
  have x1 := hR.c1
  have xf := hR.free 1
  have HL := Lib.hid hl
  have HQL := Lib.hid (show l.length < q + 1 + (t.length + 1) from by omega)
  have HRL := Lib.hid hrl
  have hq0 : (0 : Int) ≤ (q : Int) := by omega
  have hq1 : (q : Int) ≤ 2048 := by omega
  have HRB := Lib.hid hrb
  have hsz := Lx.strB_size l
  clear hR hP hrb hd hl hs hQ h1 hrl hdt
  have HLEN := Lib.hid hlen
  clear hlen
  go_enter Tryd.func42, Tryd.ntmps42
  go_wp2
  go_loopg [1, 7, 8, 9] (t.length + 1) (fun g v1 v7 v8 v9 wr => ∃ (p : Nat) (ps' : List Lx.Part) (a' : Option Addr) (n' c' : Nat), l.length < p + g ∧ v1 = .slice a' n' c' ∧ QuotAt w rb l vo (.slice a n c) p ps' a' n' c' wr ∧ Hid (R = Lx.quotP q g (l.drop p) p ps'))
  case atStart => exact ⟨q + 1, ps, a, n, c, HQL.out, rfl, HI.out, HQ0⟩
  case round =>
    obtain ⟨p, qs, a1, n1, c1, hg, rfl, hI, hr⟩ := hrel
    clear xf x1 HI
    have hle := hI.le
    have HI := Lib.hid hI
    have x0 := hI.read.c0
    have x1 := hI.read.c1
    have xf := hI.read.free 1
    clear hI
    have hL := HL.out
    have p0 : (0 : Int) ≤ (p : Int) := by omega
    have p1 : (p : Int) ≤ 2048 := by omega
    clear hL
    by_cases hp : p < l.length
    · have hpd : decide (p < l.length) = true := decide_eq_true hp
      cases gk with
      | zero => omega
      | succ g =>
        obtain ⟨b, t2, hbt⟩ : ∃ b t2, l.drop p = b :: t2 := ⟨_, _, drop_at l p hp⟩
        obtain ⟨x, hbx⟩ : ∃ x, b.toNat = x := ⟨_, rfl⟩
        have hx : ∀ h, ((Lx.strB l)[p]'h).toNat = x := fun h => by
          rw [Lx.strB_get]
          have := drop_at l p hp
          rw [hbt] at this
          exact (congrArg UInt8.toNat (List.cons.inj this).1.symm).trans hbx
        have p2 : (p : Int) < (l.length : Int) := by omega
        have hb8 : ∀ y : UInt8, b = y ↔ x = y.toNat := fun y => ⟨fun e => by rw [← hbx, e], fun e => UInt8.toNat_inj.1 (hbx.trans e)⟩
        rw [hbt] at hr
        have HBT := Lib.hid hbt
        have HB8 := Lib.hid hb8
        have HG := Lib.hid hg
        clear hbt hb8 hbx hg
        by_cases h34 : x = 34
        · subst h34
          have hb := Lib.hid (show R = .ok (qs, p + 1) from by
            rw [hr.out, quotP_cons, if_pos ((HB8.out 34).2 rfl)])
          clear hr
          go_wp2_with fail
          go_quiet (fail)
          all_goals
            go_wp2_with fail
            go_quiet (fail)
            all_goals
              go_wp2
              go_ret2
              rw [hb.out]
              exact ((HI.out.drewN _).moved (p + 1) ((p : Int) + 1) (by omega) (by omega) (by omega)).fin
        · by_cases h36 : x = 36
          · subst h36
            have hvb := Lib.hid (show R = (match Lx.varP qs 3 t2 with | none => .bad p | some (l', n) => Lx.quotP q g ((b :: t2).drop n) (p + n) l') from by
              rw [hr.out, quotP_cons, if_neg (fun e => h34 ((HB8.out 34).1 e)), if_pos ((HB8.out 36).2 rfl)])
            have hd36 := Lib.hid (show l.drop p = 36 :: t2 from by rw [HBT.out, (HB8.out 36).2 rfl])
            clear hr h34
            have HSM := Lib.hid (show Sm qs 100000 from HI.out.sm.mono (by omega))
            obtain ⟨V, hV⟩ : ∃ V, Lx.varP qs 3 t2 = V := ⟨_, rfl⟩
            have HV := Lib.hid hV
            rw [hV] at hvb
            clear hV
            cases V with
            | none =>
              have HF := Lib.hid (show ∀ W, Chg [] wr W → QuotPost w rb l vo (.slice a n c) R (.returned (.tuple #[.slice none 0 0, .int .i64 p])) W from by intro W hW; rw [hvb.out]; exact ⟨rfl, HI.out.chg.then0 hW⟩)
              go_wp2_with fail
              go_quiet (fail)
              all_goals
                go_wp2_with fail
                go_quiet (fail)
                all_goals
                  go_wp2_with fail
                  refine (var_any rb l vo p a1 n1 c1 qs 3 t2 _ (HI.out.drewN _).read (HI.out.drewN _).parts HI.out.out hd36.out HL.out HSM.out).mono ?_
                  rw [HV.out]
                  rintro e w5 ⟨rfl, hc5⟩
                  have HC5 := Lib.hid (((Chg.refl [] wr).drewN _).then0 hc5)
                  clear hc5
                  go_wp2
                  go_ret2
                  exact HF.out _ HC5.out
            | some pm =>
              obtain ⟨ps5, m⟩ := pm
              have hb := Lib.hid (show R = Lx.quotP q g (l.drop (p + m)) (p + m) ps5 from by rw [hvb.out, ← List.drop_drop, HBT.out])
              have hm := varP_some HV.out
              have hlb := congrArg List.length HBT.out
              rw [List.length_drop, List.length_cons] at hlb
              have HSQ := Lib.hid (HI.out.sm.var HV.out)
              have HPM := Lib.hid (show p + m ≤ l.length ∧ 1 ≤ m from by omega)
              clear hvb hm hlb
              go_wp2_with fail
              go_quiet (fail)
              all_goals
                go_wp2_with fail
                go_quiet (fail)
                all_goals
                  go_wp2_with fail
                  refine (var_any rb l vo p a1 n1 c1 qs 3 t2 _ (HI.out.drewN _).read (HI.out.drewN _).parts HI.out.out hd36.out HL.out HSM.out).mono ?_
                  rw [HV.out]
                  rintro e w5 ⟨a5, n5, c5, rfl, hp5, hr5, hc5, hb5⟩
                  have HI5 := Lib.hid ((HI.out.drewN _).next hp5 hr5 hc5 hb5 HSQ.out HPM.out.1)
                  clear hp5 hr5 hc5 hb5
                  go_wp2
                  go_roundg g
                  case measure => omega
                  case rel => exact ⟨p + m, _, a5, n5, c5, by have := HG.out; have := HPM.out; omega, rfl, HI5.out, hb⟩
          · have hw1 : IntKind.i64.wrap ((p : Int) + 1) = (p : Int) + 1 := by rw [IntKind.wrap_i64]; omega
            have p3 : (p : Int) + 1 ≤ (l.length : Int) := by omega
            have p4 : (0 : Int) ≤ (p : Int) + 1 := by omega
            have p5 : (p : Int) ≤ (p : Int) + 1 := by omega
            have e34 : ((x : Int) == 34) = false := by rw [beq_eq_false_iff_ne]; omega
            have e36 : ((x : Int) == 36) = false := by rw [beq_eq_false_iff_ne]; omega
            have HRL2 := Lib.hid HI.out.read.lt
            by_cases h92 : x = 92
            · by_cases hp2 : p + 1 < l.length
              · have hd2 : l.drop (p + 1) = l.getD (p + 1) 0 :: l.drop (p + 2) := drop_at l (p + 1) hp2
                obtain ⟨d, hdd⟩ : ∃ d, l.getD (p + 1) 0 = d := ⟨_, rfl⟩
                obtain ⟨y, hdy⟩ : ∃ y, d.toNat = y := ⟨_, rfl⟩
                have HT2 := Lib.hid (show t2 = d :: l.drop (p + 2) from by
                  have h5 : l.drop (p + 1) = t2 := by rw [← List.drop_drop, HBT.out]; rfl
                  rw [← h5, hd2, hdd])
                have hy : ∀ h, ((Lx.strB l)[p + 1]'h).toNat = y := fun h => by
                  rw [Lx.strB_get, ← hdy, ← hdd]
                have hpd2 : decide (p + 1 < l.length) = true := decide_eq_true hp2
                have hpd3 : decide ((p : Int) + 1 < (l.length : Int)) = true := decide_eq_true (by omega)
                have hp6 : (p : Int) + 1 < (l.length : Int) := by omega
                obtain ⟨v, hv⟩ : ∃ v, Lib.indexByte [34, 92, 36] d = v := ⟨_, rfl⟩
                have hes := esc_ib (l.drop (p + 2)) d
                have HEA := Lib.hid (show ∀ W, Calls Tryd.prog 23 #[.string ⟨#[34, 92, 36]⟩, .int .u8 y] W fun e w' => e = .returned (.int .i64 v) ∧ w' = W from fun W => hv ▸ esc_any d y hdy W)
                rw [hv, ← HT2.out] at hes
                clear hdd hd2 hv hdy
                have HES := Lib.hid hes
                clear hes
                subst h92
                by_cases hvv : 0 ≤ v
                · have hvd : decide (0 ≤ v) = true := decide_eq_true hvv
                  have hb := Lib.hid (show R = Lx.quotP q g (l.drop (p + 2)) (p + 2) (Lx.addP qs 1 [d]) from by
                    rw [hr.out, quotP_cons, if_neg (fun e => h34 ((HB8.out 34).1 e)), if_neg (fun e => h36 ((HB8.out 36).1 e)), if_pos ⟨(HB8.out 92).2 rfl, by rw [← HES.out]; exact hvd⟩, HT2.out]; rfl)
                  clear hr hvv
                  have HSQ := Lib.hid (show Sm (Lx.addP qs 1 [d]) (p + 2) from (HI.out.sm.add 1 [d] (M := 1) (by simp) (by omega)).mono (by omega))
                  have HLE := Lib.hid (show qs.length ≤ 1000000 from by have := HI.out.sm.len; omega)
                  have HTE := Lib.hid (show ∀ y ∈ qs, y.text.length + ([d] : List UInt8).length ≤ 1000000 from fun y hy => by have := HI.out.sm.txt y hy; simp; omega)
                  have HOUT := Lib.hid HI.out.out
                  obtain ⟨P, hP⟩ : ∃ P, p + 1 = P := ⟨_, rfl⟩
                  have hxx := Lib.hid (show (Lx.strB l).extract P (P + 1) = Lx.strB [d] from by rw [← hP, Lx.strB_extract, ← List.drop_drop, HBT.out, show p + 1 + 1 - (p + 1) = 1 from by omega, List.drop_succ_cons, List.drop_zero, HT2.out]; rfl)
                  have hw2 : IntKind.i64.wrap ((P : Int) + 1) = (P : Int) + 1 := by rw [IntKind.wrap_i64]; omega
                  have p7 : (P : Int) + 1 ≤ (l.length : Int) := by omega
                  have p8 : (0 : Int) ≤ (P : Int) + 1 := by omega
                  have p9 : (P : Int) ≤ (P : Int) + 1 := by omega
                  have p10 : (0 : Int) ≤ (P : Int) := by omega
                  have p11 : (P : Int) < (l.length : Int) := by omega
                  have HPP := Lib.hid hP
                  clear hP
                  go_wp2_with fail
                  go_quiet (fail)
                  all_goals
                    have HI1 := Lib.hid (HI.out.drewN nq)
                    generalize wr.drewN nq = W1 at *
                    have u0 := HI1.out.read.c0
                    have u1 := HI1.out.read.c1
                    go_wp2_with fail
                    go_quiet (fail)
                    all_goals
                      have HI2 := Lib.hid (HI1.out.drewN nq)
                      generalize W1.drewN nq = W2 at *
                      have v0 := HI2.out.read.c0
                      have v1 := HI2.out.read.c1
                      have vf := HI2.out.read.free 1
                      go_wp2_with fail
                      go_quiet ((go_at_call 23; exact Calls.quiet_of_same (HEA.out _)))
                      all_goals
                        have hx5 := hxx.out
                        clear hx hy
                        go_wp2_with fail
                        have HI5 := Lib.hid ((HI2.out.drewN nq).moved P ((p : Int) + 1) (by have := HPP.out; omega) (by have := HPP.out; omega) (by have := HPP.out; omega))
                        generalize (W2.drewN nq).setCell ⟨rb, 1, none⟩ (.int .i64 ((p : Int) + 1)) = W3 at *
                        have z0 := HI5.out.read.c0
                        have z1 := HI5.out.read.c1
                        go_region_held3 (fun w' => w'.cell? ⟨rb, 0, none⟩ = some (.string (Lx.strB l)) ∧ w'.cell? ⟨rb, 1, none⟩ = some (.int .i64 P)) (first | exact ⟨z0, z1⟩ | exact ⟨y0, y1⟩)
                          ((go_at_call 41; refine (add_any a1 n1 c1 qs 1 [d] _ (HI5.out.parts.kept0 (Chg.refl [] _).drew) HLE.out HTE.out).mono ?_; rintro e w6 ⟨a6, n6, c6, rfl, P6, C6, B6⟩; have HC6 := Lib.hid C6.drew0; have HP6 := Lib.hid P6; have HB6 := Lib.hid B6; have y0 := HC6.out.cell z0 HOUT.out; have y1 := HC6.out.cell z1 HOUT.out; have yf := (HI5.out.read.kept HC6.out HOUT.out).free 1; clear P6 C6 B6))
                        all_goals
                          go_wp2
                          go_roundg g
                          case measure => omega
                          case rel => exact ⟨p + 2, _, a6, n6, c6, by have := HG.out; omega, rfl, HI5.out.added HP6.out HC6.out HB6.out (p + 2) _ (by have := HPP.out; omega) HSQ.out (by omega), hb⟩
                · have hvd : decide (0 ≤ v) = false := decide_eq_false hvv
                  have HVD := Lib.hid hvd
                  clear hvv
                  have hb := Lib.hid (show R = Lx.quotP q g (l.drop (p + 1)) (p + 1) (Lx.addP qs 1 [b]) from by
                    rw [hr.out, quotP_cons, if_neg (fun e => h34 ((HB8.out 34).1 e)), if_neg (fun e => h36 ((HB8.out 36).1 e)), if_neg (by rw [← HES.out, HVD.out]; rintro ⟨_, h⟩; cases h), ← List.drop_drop, HBT.out]; rfl)
                  clear hr
                  have HSQ := Lib.hid (show Sm (Lx.addP qs 1 [b]) (p + 1) from (HI.out.sm.mono (by omega)).add 1 _ (by simp) (by omega))
                  have HLE := Lib.hid (show qs.length ≤ 1000000 from by have := HI.out.sm.len; omega)
                  have HTE := Lib.hid (show ∀ y ∈ qs, y.text.length + ([b] : List UInt8).length ≤ 1000000 from fun y hy => by have := HI.out.sm.txt y hy; simp; omega)
                  have HOUT := Lib.hid HI.out.out
                  have hxx := Lib.hid (show (Lx.strB l).extract p (p + 1) = Lx.strB [b] from by rw [Lx.strB_extract, HBT.out, show p + 1 - p = 1 from by omega]; rfl)
                  go_wp2_with fail
                  go_quiet (fail)
                  all_goals
                    have HI1 := Lib.hid (HI.out.drewN nq)
                    generalize wr.drewN nq = W1 at *
                    have u0 := HI1.out.read.c0
                    have u1 := HI1.out.read.c1
                    go_wp2_with fail
                    go_quiet (fail)
                    all_goals
                      have HI2 := Lib.hid (HI1.out.drewN nq)
                      generalize W1.drewN nq = W2 at *
                      have v0 := HI2.out.read.c0
                      have v1 := HI2.out.read.c1
                      have vf := HI2.out.read.free 1
                      go_wp2_with fail
                      go_quiet ((go_at_call 23; exact Calls.quiet_of_same (HEA.out _)))
                      all_goals
                        have HI5 := Lib.hid (fun k => HI2.out.drewN k)
                        have z0 := v0
                        have z1 := v1
                        have hx5 := hxx.out
                        clear hx hy
                        go_wp2_with fail
                        go_region_held3 (fun w' => w'.cell? ⟨rb, 0, none⟩ = some (.string (Lx.strB l)) ∧ w'.cell? ⟨rb, 1, none⟩ = some (.int .i64 p)) (first | exact ⟨z0, z1⟩ | exact ⟨y0, y1⟩)
                          ((go_at_call 41; refine (add_any a1 n1 c1 qs 1 [b] _ ((HI5.out _).parts.kept0 (Chg.refl [] _).drew) HLE.out HTE.out).mono ?_; rintro e w6 ⟨a6, n6, c6, rfl, P6, C6, B6⟩; have HC6 := Lib.hid C6.drew0; have HP6 := Lib.hid P6; have HB6 := Lib.hid B6; have y0 := HC6.out.cell z0 HOUT.out; have y1 := HC6.out.cell z1 HOUT.out; have yf := ((HI5.out _).read.kept HC6.out HOUT.out).free 1; clear P6 C6 B6))
                        all_goals
                          go_wp2
                          go_roundg g
                          case measure => omega
                          case rel => exact ⟨p + 1, _, a6, n6, c6, by have := HG.out; omega, rfl, (HI5.out _).added HP6.out HC6.out HB6.out (p + 1) _ (by omega) HSQ.out (by omega), hb⟩
              · have hpd2 : decide (p + 1 < l.length) = false := decide_eq_false hp2
                have hpd3 : decide ((p : Int) + 1 < (l.length : Int)) = false := decide_eq_false (by omega)
                have HT0 := Lib.hid (show t2 = [] from by
                  have hlb := congrArg List.length HBT.out
                  rw [List.length_drop, List.length_cons] at hlb
                  exact List.eq_nil_of_length_eq_zero (by omega))
                subst h92
                have hb := Lib.hid (show R = Lx.quotP q g (l.drop (p + 1)) (p + 1) (Lx.addP qs 1 [b]) from by
                  rw [hr.out, quotP_cons, if_neg (fun e => h34 ((HB8.out 34).1 e)), if_neg (fun e => h36 ((HB8.out 36).1 e)), if_neg (by rw [HT0.out]; rintro ⟨_, h⟩; cases h), ← List.drop_drop, HBT.out]; rfl)
                clear hr
                have HSQ := Lib.hid (show Sm (Lx.addP qs 1 [b]) (p + 1) from (HI.out.sm.mono (by omega)).add 1 _ (by simp) (by omega))
                have HLE := Lib.hid (show qs.length ≤ 1000000 from by have := HI.out.sm.len; omega)
                have HTE := Lib.hid (show ∀ y ∈ qs, y.text.length + ([b] : List UInt8).length ≤ 1000000 from fun y hy => by have := HI.out.sm.txt y hy; simp; omega)
                have HOUT := Lib.hid HI.out.out
                have hxx := Lib.hid (show (Lx.strB l).extract p (p + 1) = Lx.strB [b] from by rw [Lx.strB_extract, HBT.out, show p + 1 - p = 1 from by omega]; rfl)
                go_wp2_with fail
                go_quiet (fail)
                all_goals
                  go_wp2_with fail
                  go_quiet (fail)
                  all_goals
                    go_wp2_with fail
                    go_quiet (fail)
                    all_goals
                      have HI5 := Lib.hid (fun k => HI.out.drewN k)
                      have z0 := x0
                      have z1 := x1
                      have hx5 := hxx.out
                      clear hx
                      go_wp2_with fail
                      go_region_held3 (fun w' => w'.cell? ⟨rb, 0, none⟩ = some (.string (Lx.strB l)) ∧ w'.cell? ⟨rb, 1, none⟩ = some (.int .i64 p)) (first | exact ⟨z0, z1⟩ | exact ⟨y0, y1⟩)
                        ((go_at_call 41; refine (add_any a1 n1 c1 qs 1 [b] _ ((HI5.out _).parts.kept0 (Chg.refl [] _).drew) HLE.out HTE.out).mono ?_; rintro e w6 ⟨a6, n6, c6, rfl, P6, C6, B6⟩; have HC6 := Lib.hid C6.drew0; have HP6 := Lib.hid P6; have HB6 := Lib.hid B6; have y0 := HC6.out.cell z0 HOUT.out; have y1 := HC6.out.cell z1 HOUT.out; have yf := ((HI5.out _).read.kept HC6.out HOUT.out).free 1; clear P6 C6 B6))
                      all_goals
                        go_wp2
                        go_roundg g
                        case measure => omega
                        case rel => exact ⟨p + 1, _, a6, n6, c6, by have := HG.out; omega, rfl, (HI5.out _).added HP6.out HC6.out HB6.out (p + 1) _ (by omega) HSQ.out (by omega), hb⟩
            · have e92 : ((x : Int) == 92) = false := by rw [beq_eq_false_iff_ne]; omega
              have hb := Lib.hid (show R = Lx.quotP q g (l.drop (p + 1)) (p + 1) (Lx.addP qs 1 [b]) from by
                rw [hr.out, quotP_cons, if_neg (fun e => h34 ((HB8.out 34).1 e)), if_neg (fun e => h36 ((HB8.out 36).1 e)), if_neg (fun e => h92 ((HB8.out 92).1 e.1)), ← List.drop_drop, HBT.out]; rfl)
              clear hr
              have HSQ := Lib.hid (show Sm (Lx.addP qs 1 [b]) (p + 1) from (HI.out.sm.mono (by omega)).add 1 _ (by simp) (by omega))
              have HLE := Lib.hid (show qs.length ≤ 1000000 from by have := HI.out.sm.len; omega)
              have HTE := Lib.hid (show ∀ y ∈ qs, y.text.length + ([b] : List UInt8).length ≤ 1000000 from fun y hy => by have := HI.out.sm.txt y hy; simp; omega)
              have HOUT := Lib.hid HI.out.out
              have hxx := Lib.hid (show (Lx.strB l).extract p (p + 1) = Lx.strB [b] from by rw [Lx.strB_extract, HBT.out, show p + 1 - p = 1 from by omega]; rfl)
              go_wp2_with fail
              go_quiet (fail)
              all_goals
                go_wp2_with fail
                go_quiet (fail)
                all_goals
                  go_wp2_with fail
                  go_quiet (fail)
                  all_goals
                    have HI5 := Lib.hid (fun k => HI.out.drewN k)
                    have z0 := x0
                    have z1 := x1
                    have hx5 := hxx.out
                    clear hx
                    go_wp2_with fail
                    go_region_held3 (fun w' => w'.cell? ⟨rb, 0, none⟩ = some (.string (Lx.strB l)) ∧ w'.cell? ⟨rb, 1, none⟩ = some (.int .i64 p)) (first | exact ⟨z0, z1⟩ | exact ⟨y0, y1⟩)
                      ((go_at_call 41; refine (add_any a1 n1 c1 qs 1 [b] _ ((HI5.out _).parts.kept0 (Chg.refl [] _).drew) HLE.out HTE.out).mono ?_; rintro e w6 ⟨a6, n6, c6, rfl, P6, C6, B6⟩; have HC6 := Lib.hid C6.drew0; have HP6 := Lib.hid P6; have HB6 := Lib.hid B6; have y0 := HC6.out.cell z0 HOUT.out; have y1 := HC6.out.cell z1 HOUT.out; have yf := ((HI5.out _).read.kept HC6.out HOUT.out).free 1; clear P6 C6 B6))
                    all_goals
                      go_wp2
                      go_roundg g
                      case measure => omega
                      case rel => exact ⟨p + 1, _, a6, n6, c6, by have := HG.out; omega, rfl, (HI5.out _).added HP6.out HC6.out HB6.out (p + 1) _ (by omega) HSQ.out (by omega), hb⟩
    · have hpd : decide (p < l.length) = false := decide_eq_false hp
      have hb := Lib.hid (show R = .bad q from by
        rw [hr.out, List.drop_of_length_le (by omega)]
        cases gk <;> rfl)
      have HF := Lib.hid (show ∀ k, QuotPost w rb l vo (.slice a n c) R (.returned (.tuple #[.slice none 0 0, .int .i64 q])) (wr.drewN k) from by intro k; rw [hb.out]; exact ⟨rfl, HI.out.chg.drewN k⟩)
      clear hr hg hp
      go_wp2_with fail
      go_quiet (fail)
      all_goals
        go_wp2
        go_ret2
        exact HF.out _

end Go.Proofs.YtfgbbmnmblchiaaDoor
