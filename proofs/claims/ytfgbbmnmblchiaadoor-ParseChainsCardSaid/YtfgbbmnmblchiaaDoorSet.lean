/-
  The variable that a word sets: walked.
-/
import Derived.Test.YtfgbbmnmblchiaaDoorFail
namespace Go.Proofs.YtfgbbmnmblchiaaDoor
open Go.RowKit
set_option linter.unusedVariables false

def cutP (l : List UInt8) : List UInt8 × List UInt8 × Bool := match Lx.idx 61 l with | none => (l, [], false) | some k => (l.take k, l.drop (k + 1), true)

theorem cut_eq (l : List UInt8) : Lib.cut l [61] = cutP l := by
  unfold Lib.cut cutP
  rw [Lib.index_one, ib_idx]
  cases h : Lx.idx 61 l with
  | none => rfl
  | some k =>
    have e : (0 : Int) ≤ placeI (some k) := by simp only [placeI]; omega
    rw [if_pos e]
    rfl

theorem cut_any (l : List UInt8) (m : Int) (w : World) (hl : l.length ≤ 2048) (hm : w.cell? ⟨2, 0, none⟩ = some (.int .i64 m)) :
    Calls Tryd.prog 91 #[.string (Lx.strB l), .string ⟨#[61]⟩] w fun e w' => e = .returned (.tuple #[.string (Lx.strB (cutP l).1), .string (Lx.strB (cutP l).2.1), .bool (cutP l).2.2]) ∧ ∃ n, w' = w.drewN n := by
  have h := Tryd.strings_Cut (Lx.strB l) ⟨#[61]⟩ m w (by rw [Lx.strB_size]; omega) hm
  rw [Lx.strB_data, show (⟨#[61]⟩ : ByteArray).data.toList = [61] from rfl, cut_eq] at h
  exact h

set_option maxHeartbeats 2000000 in
set_option maxRecDepth 10000 in
theorem clone_parts (g n c : Nat) (ps : List Lx.Part) (w : World) (h : PartsAt w (.slice (some ⟨g, 0, none⟩) n c) ps) (h0 : 0 < ps.length) (hl : ps.length ≤ 100000) :
    Calls Tryd.prog 92 #[.slice (some ⟨g, 0, none⟩) n c] w fun e w' => ∃ v, e = .returned v ∧ PartsAt w' v ps ∧ Chg [] w w' ∧ ∀ k ∈ rowBlock v, w.heap.size ≤ k := by
  obtain ⟨i0, hi, hz0, hz1, hz2⟩ := info_parts Tryd.infoPart
  have hlen := h.len
  obtain rfl : n = ps.length := hlen.1
  have HS := Lib.hid (Row.src h)
  have hnil := fun W => Lib.run_eql_slice_nil (P := Tryd.prog) W 49 53 (some ⟨g, 0, none⟩) ps.length c 0 0 Tryd.underlying49
  have HL := Lib.hid (pcells_len ps)
  have HO := Lib.hid (pcells_one ps)
  clear h hlen
  go_enter Tryd.func92, Tryd.ntmps92
  go_wp2_with (at_builtin; refine wpList_append_row _ rfl _ _ 49 rfl 53 i0 _ 2 24 Tryd.underlying49 hi hz0 hz1 hz2 rfl (by decide) _ 0 [] rfl (Row.nil _ _ _ _) _ ps.length c (pcells ps) rfl HL.out (HS.out.kept0 ((Chg.refl [] _).alloc _)) HO.out (by unfold maxLen; omega) (by omega) ?_)
  intro v1 w1 r1 q1 g1
  have r1 : PartsAt w1 v1 ps := by unfold PartsAt; simpa using r1
  have HQ1 := Lib.hid (show Chg [] w w1 from ((Chg.refl [] w).alloc _).then0 q1)
  have HG1 := Lib.hid (show ∀ x ∈ rowBlock v1, w.heap.size ≤ x from fun x hx => by
    rcases g1 x hx with h1 | h1
    · simp [rowBlock] at h1
    · have h1 : w.heap.size + 1 ≤ x := by simpa using h1
      omega)
  have HR1 := Lib.hid r1
  clear r1 q1 g1 HS
  go_wp2
  go_ret
  exact ⟨v1, rfl, HR1.out, HQ1.out, HG1.out⟩

/-- a token handed on by value. -/
def tokV (t : Lx.Tok) (v : Value) : Value := .agg #[.int .i64 t.kind, .string (Lx.strB t.text), v, .int .i64 t.pos]

/-- what 'set' tells. -/
def SetPost (w : World) (t : Lx.Tok) (e : Ending) (w' : World) : Prop :=
  Chg [] w w' ∧ match Ps.setP t with
  | some s => ∃ a n c off, e = .returned (.tuple #[.agg #[.string (Lx.strB s.name), .slice a n c], .bool true]) ∧ WordIn w' (fun k => w.heap.size ≤ k ∧ k < w'.heap.size) off (.slice a n c) s.word
  | none => e = .returned (.tuple #[.agg #[.string ⟨#[]⟩, .slice none 0 0], .bool false])

section
variable {t : Lx.Tok}
theorem setP_none (h : Lx.idx 61 t.text = none) : Ps.setP t = none := by unfold Ps.setP; rw [h]
theorem setP_none2 {k : Nat} (h : Lx.idx 61 t.text = some k) (h2 : Lx.isName (t.text.take k) = false) : Ps.setP t = none := by
  unfold Ps.setP
  rw [h]
  exact if_neg (by rw [h2]; decide)
theorem setP_some {k : Nat} {p : Lx.Part} {r : List Lx.Part} (h : Lx.idx 61 t.text = some k) (h2 : Lx.isName (t.text.take k) = true) (h3 : t.parts = p :: r) : Ps.setP t = some ⟨t.text.take k, if p.text.drop (k + 1) = [] then r else ⟨p.kind, p.text.drop (k + 1)⟩ :: r⟩ := by
  unfold Ps.setP
  rw [h]
  show (if _ then _ else _) = _
  rw [if_pos h2, h3]
end

theorem cutP_none {l : List UInt8} (h : Lx.idx 61 l = none) : cutP l = (l, [], false) := by unfold cutP; rw [h]
theorem cutP_some {l : List UInt8} {k : Nat} (h : Lx.idx 61 l = some k) : cutP l = (l.take k, l.drop (k + 1), true) := by unfold cutP; rw [h]

theorem wordIn_of {w : World} {S : Nat → Prop} {g off : Nat} {r : List Lx.Part} (hS : S g) (h : ∀ (j : Nat) (u : Value), (pcells r)[j]? = some u → w.cell? ⟨g, off + j, none⟩ = some u) (hn : r.length ≤ maxLen) :
    WordIn w S off (.slice (some ⟨g, off, none⟩) r.length r.length) r := ⟨_, r.length, rfl, Nat.le_refl _, hn, fun _ => ⟨g, rfl, hS, h⟩⟩
theorem wordIn_0 {w : World} {S : Nat → Prop} {off : Nat} {a : Option Addr} {r : List Lx.Part} (h : r.length = 0) : WordIn w S off (.slice a r.length r.length) r := by
  obtain rfl : r = [] := List.eq_nil_of_length_eq_zero h
  exact Sl.nil _ _ _ _

/-- the cells of a word that was cloned and turned. -/
theorem Row.cellsAt {w w' : World} {E : TypeId} {g n c N : Nat} {xs : List Value} {F : List Nat} (h : Row w E 2 (.slice (some ⟨g, 0, none⟩) n c) N xs) (hc : Chg F w w') (hF : g ∉ F) : ∀ (j : Nat) (u : Value), xs[j]? = some u → w'.cell? ⟨g, j, none⟩ = some u := fun j u hj => by
  obtain ⟨b, off, hb, hx⟩ := Row.src h (fun e => by rw [e] at hj; simp at hj)
  cases hb
  have := hx j u hj
  rw [Nat.zero_add] at this
  exact hc.cell this hF

set_option maxHeartbeats 4000000 in
set_option maxRecDepth 10000 in
theorem set_any (t : Lx.Tok) (a : Option Addr) (n c : Nat) (m : Int) (w : World) (hp : PartsAt w (.slice a n c) t.parts) (hk : t.kind = 1) (hg : GoodT t) (hm : w.cell? ⟨2, 0, none⟩ = some (.int .i64 m)) :
    Calls Tryd.prog 82 #[tokV t (.slice a n c)] w fun e w' => SetPost w t e w' := by
  have HM := Lib.hid hm
  have HKD := Lib.hid hk
  have HG := Lib.hid hg.2.1
  have hlen : t.parts.length ≤ 100000 := by have := hg.2.2; omega
  have HL := Lib.hid hg.1
  have CU := Lib.hid (fun W (h : W.cell? ⟨2, 0, none⟩ = some (.int .i64 m)) => cut_any t.text m W HL.out h)
  have HP := Lib.hid hp
  have HC := Lib.hid (((Chg.refl [] w).alloc (.cells #[.int .i64 t.kind, .string (Lx.strB t.text), .slice a n c, .int .i64 t.pos] 65)).alloc (.cells #[.string ⟨#[]⟩, .slice none 0 0] 77))
  have HB := Lib.hid (obj_alloc_old (obj_alloc_new w (.cells #[.int .i64 t.kind, .string (Lx.strB t.text), .slice a n c, .int .i64 t.pos] 65)) (.cells #[.string ⟨#[]⟩, .slice none 0 0] 77))
  have HS := Lib.hid (obj_alloc_new (w.alloc (.cells #[.int .i64 t.kind, .string (Lx.strB t.text), .slice a n c, .int .i64 t.pos] 65)) (.cells #[.string ⟨#[]⟩, .slice none 0 0] 77))
  have hsz : (w.alloc (.cells #[.int .i64 t.kind, .string (Lx.strB t.text), .slice a n c, .int .i64 t.pos] 65)).heap.size = w.heap.size + 1 := by simp
  rw [hsz] at HS
  clear hm hp hsz hk
  unfold tokV
  cases hx : Lx.idx 61 t.text with
  | none =>
    have HR := Lib.hid (setP_none hx)
    rw [cutP_none hx] at CU
    clear hg hx
    go_enter Tryd.func82, Tryd.ntmps82
    go_upto_region 1 with (fail)
    generalize (w.alloc (.cells #[.int .i64 t.kind, .string (Lx.strB t.text), .slice a n c, .int .i64 t.pos] 65)).alloc (.cells #[.string ⟨#[]⟩, .slice none 0 0] 77) = w2 at *
    have t1 := cell_of_obj HB.out (j := 1) rfl
    go_wp2_with fail
    refine (CU.out _ (HC.out.cell HM.out (by simp))).mono ?_
    rintro e w3 ⟨rfl, n1, rfl⟩
    have s0 := cell_of_obj HS.out (j := 0) rfl
    have s1 := cell_of_obj HS.out (j := 1) rfl
    have sf := free_of_obj HS.out
    go_wp2_with fail
    refine bodyPost_ret (v := .tuple #[.agg #[.string ⟨#[]⟩, .slice none 0 0], .bool false]) (by simp [results, Tryd.results82, go_sem, s0, s1]) rfl ?_
    refine ⟨?_, ?_⟩
    · exact ((HC.out.drewN n1).setCell _ _ (.inr (by simp))).setCell _ _ (.inr (by simp))
    · rw [HR.out]
  | some k =>
    rw [cutP_some hx] at CU
    cases hnm : Lx.isName (t.text.take k) with
    | false =>
      have HR := Lib.hid (setP_none2 hx hnm)
      have NM := Lib.hid (fun W => Name_any (t.text.take k) W (by have := HL.out; rw [List.length_take]; omega))
      rw [hnm] at NM
      clear hg hx hnm
      go_enter Tryd.func82, Tryd.ntmps82
      go_upto_region 1 with (fail)
      generalize (w.alloc (.cells #[.int .i64 t.kind, .string (Lx.strB t.text), .slice a n c, .int .i64 t.pos] 65)).alloc (.cells #[.string ⟨#[]⟩, .slice none 0 0] 77) = w2 at *
      have t1 := cell_of_obj HB.out (j := 1) rfl
      go_wp2_with fail
      refine (CU.out _ (HC.out.cell HM.out (by simp))).mono ?_
      rintro e w3 ⟨rfl, n1, rfl⟩
      go_wp2_with fail
      refine (NM.out _).mono ?_
      rintro e w4 ⟨rfl, hC4⟩
      have HC4 := Lib.hid ((HC.out.drewN n1).then0 hC4)
      have HS4 := Lib.hid (((Chg.refl [] w2).drewN n1 |>.then0 hC4).obj HS.out (by simp))
      clear hC4
      have s0 := cell_of_obj HS4.out (j := 0) rfl
      have s1 := cell_of_obj HS4.out (j := 1) rfl
      have sf := free_of_obj HS4.out
      go_wp2_with fail
      refine bodyPost_ret (v := .tuple #[.agg #[.string ⟨#[]⟩, .slice none 0 0], .bool false]) (by simp [results, Tryd.results82, go_sem, s0, s1]) rfl ?_
      refine ⟨?_, ?_⟩
      · exact (HC4.out.setCell _ _ (.inr (by simp))).setCell _ _ (.inr (by simp))
      · rw [HR.out]
    | true =>
      obtain ⟨p, r, hpr, hpl⟩ := HG.out HKD.out k hx hnm
      have HR := Lib.hid (setP_some hx hnm hpr)
      have NM := Lib.hid (fun W => Name_any (t.text.take k) W (by have := HL.out; rw [List.length_take]; omega))
      rw [hnm] at NM
      have hkl := idx_lt _ _ _ hx
      have HK := Lib.hid (show (t.text.take k).length = k from by rw [List.length_take]; omega)
      clear hg hx hnm
      have HPL := Lib.hid hpl
      go_enter Tryd.func82, Tryd.ntmps82
      go_upto_region 1 with (fail)
      generalize (w.alloc (.cells #[.int .i64 t.kind, .string (Lx.strB t.text), .slice a n c, .int .i64 t.pos] 65)).alloc (.cells #[.string ⟨#[]⟩, .slice none 0 0] 77) = w2 at *
      have t1 := cell_of_obj HB.out (j := 1) rfl
      go_wp2_with fail
      refine (CU.out _ (HC.out.cell HM.out (by simp))).mono ?_
      rintro e w3 ⟨rfl, n1, rfl⟩
      go_wp2_with fail
      refine (NM.out _).mono ?_
      rintro e w4 ⟨rfl, hC4⟩
      have HC24 := Lib.hid ((Chg.refl [] w2).drewN n1 |>.then0 hC4)
      have HC4 := Lib.hid (HC.out.then0 HC24.out)
      have t2 := cell_of_obj (HC24.out.obj HB.out (by simp)) (j := 2) rfl
      clear hC4 t1
      have hlen2 : n = t.parts.length := HP.out.len.1
      have hn0 : 0 < t.parts.length := by rw [hpr]; simp
      have HPC := HC4.out
      obtain ⟨g, cur, rfl, hob, htk, hnc, hcm⟩ := Row.obj (hlen2 ▸ HP.out) hn0
      have CL := Lib.hid (clone_parts g n c t.parts _ (HP.out.kept0 HC4.out) hn0 hlen)
      clear HPC hob htk hnc hcm hlen2
      have HPR := Lib.hid hpr
      have HLN := Lib.hid (show t.parts.length = r.length + 1 from by rw [hpr]; simp)
      clear hpr
      go_wp2_with fail
      refine CL.out.mono ?_
      rintro e w5 ⟨v, rfl, hv, hC5, hB5⟩
      obtain ⟨g5, cur5, hv5⟩ : ∃ g5 cur5, v = .slice (some ⟨g5, 0, none⟩) t.parts.length cur5 := by
        obtain ⟨a5, c5, rfl, _⟩ := Row.shape hv
        obtain ⟨g5, cur5, rfl, _⟩ := Row.obj hv hn0
        exact ⟨g5, c5, rfl⟩
      subst hv5
      obtain ⟨g6, cur, hg6, hob, htk, hnc, hcm⟩ := Row.obj hv hn0
      cases hg6
      have HOB := Lib.hid hob
      have HR5 := Lib.hid (Row.set hv hn0 1 (.string (Lx.strB (p.text.drop (k + 1)))))
      have hgb := hB5 g5 (rowBlock_head g5 _ _ hnc hn0)
      have HC5 := Lib.hid (HC24.out.then0 hC5)
      have HS5 := Lib.hid (HC5.out.obj HS.out (by simp))
      have HGB := Lib.hid (show w.heap.size + 2 ≤ g5 from by have := HC24.out.size; have := lt_of_obj HS.out; omega)
      have y0 : w5.cell? ⟨g5, 0, none⟩ = some (.int .i64 p.kind) := cells_of_take hob htk (by rw [HPR.out]; rfl)
      have y1 : w5.cell? ⟨g5, 1, none⟩ = some (.string (Lx.strB p.text)) := cells_of_take hob htk (by rw [HPR.out]; rfl)
      have yf := free_of_obj hob
      have hs1 : (Lx.strB (t.text.take k)).size = k := by rw [Lx.strB_size, HK.out]
      have hs2 := Lx.strB_size p.text
      have hst := Lx.strB_tail p.text (k + 1)
      rw [hs2] at hst
      have k1 : (k : Int) + 1 ≤ p.text.length := by omega
      have k2 : (k : Int) ≤ 2048 := by have := HL.out; omega
      have k0 : (0 : Int) ≤ (k : Int) := by omega
      have HPN := Lib.hid (show pcells t.parts = [.int .i64 p.kind, .string (Lx.strB p.text)] ++ pcells r from by rw [HPR.out]; rfl)
      have HLN2 := HLN.out
      clear hob htk hC5 hB5 hv hgb hpl hn0 hkl CL
      generalize t.parts.length = N at *
      have HC6' : Chg [] w (w5.setCell ⟨g5, 1, none⟩ (.string (Lx.strB (p.text.drop (k + 1))))) := (HC.out.then0 HC5.out).trans (Chg.setP w5 g5 1 (.string (Lx.strB (p.text.drop (k + 1))))) (fun x hx => .inr (by simp at hx; have := HGB.out; omega))
      have HC6 := Lib.hid HC6'
      have HS6 := Lib.hid (obj_setCell_other HS5.out (p := ⟨g5, 1, none⟩) (by have := HGB.out; simp; omega) (.string (Lx.strB (p.text.drop (k + 1)))))
      have HG6 := Lib.hid (show g5 < (w5.setCell ⟨g5, 1, none⟩ (.string (Lx.strB (p.text.drop (k + 1))))).heap.size from lt_of_obj (obj_setCell HOB.out 1 _))
      clear HC6'
      have hcm2 : (cur5 : Int) ≤ maxLen := by unfold maxLen at *; omega
      have hnc2 : ((r.length : Int) + 1) ≤ (cur5 : Int) := by omega
      by_cases hd : p.text.drop (k + 1) = []
      · have e1 : (Lx.strB (p.text.drop (k + 1))).toList.isEmpty = true := by rw [Lx.strB_toList, hd]; rfl
        have HD := Lib.hid hd
        clear hd
        go_upto_region 8 with (fail)
        generalize w5.setCell ⟨g5, 1, none⟩ (.string (Lx.strB (p.text.drop (k + 1)))) = w6 at *
        have s0 := cell_of_obj HS6.out (j := 0) rfl
        have s1 := cell_of_obj HS6.out (j := 1) rfl
        have sf := free_of_obj HS6.out
        go_wp2_with fail
        all_goals
          refine (clip_parts _ _ _ (by omega) (by omega) _).mono ?_
          rintro e w7 ⟨rfl, rfl⟩
          go_wp2_with fail
        · refine bodyPost_ret (v := .tuple #[.agg #[.string (Lx.strB (t.text.take k)), .slice (some ⟨g5, 0, none⟩) r.length r.length], .bool true]) (by simp [results, Tryd.results82, go_sem, s0, s1]) rfl ?_
          refine ⟨?_, ?_⟩
          · exact (HC6.out.setCell _ _ (.inr (by simp))).setCell _ _ (.inr (by simp))
          · rw [HR.out, if_pos HD.out]
            exact ⟨_, _, _, 2, rfl, wordIn_0 (by omega)⟩
        · refine bodyPost_ret (v := .tuple #[.agg #[.string (Lx.strB (t.text.take k)), .slice (some ⟨g5, 2, none⟩) r.length r.length], .bool true]) (by simp [results, Tryd.results82, go_sem, s0, s1]) rfl ?_
          refine ⟨?_, ?_⟩
          · exact (HC6.out.setCell _ _ (.inr (by simp))).setCell _ _ (.inr (by simp))
          · rw [HR.out, if_pos HD.out]
            refine ⟨_, _, _, 2, rfl, wordIn_of ?_ ?_ (by omega)⟩
            · exact ⟨by have := HGB.out; omega, by have := HG6.out; simpa [World.setCell] using this⟩
            · intro j u hj
              rw [Nat.add_comm 2 j]
              refine Row.cellsAt HR5.out (((Chg.refl [w.heap.size + 1] w7).setCell _ _ (.inl (by simp))).setCell _ _ (.inl (by simp))) (by have := HGB.out; simp; omega) (j + 2) u ?_
              rw [HPN.out]
              simpa using hj
      · have e1 : (Lx.strB (p.text.drop (k + 1))).toList.isEmpty = false := by rw [Lx.strB_toList]; simpa using hd
        have HD := Lib.hid hd
        clear hd
        go_upto_region 8 with (fail)
        generalize w5.setCell ⟨g5, 1, none⟩ (.string (Lx.strB (p.text.drop (k + 1)))) = w6 at *
        have s0 := cell_of_obj HS6.out (j := 0) rfl
        have s1 := cell_of_obj HS6.out (j := 1) rfl
        have sf := free_of_obj HS6.out
        go_wp2_with fail
        refine (clip_parts _ _ _ (by omega) (by omega) _).mono ?_
        rintro e w7 ⟨rfl, rfl⟩
        go_wp2_with fail
        refine bodyPost_ret (v := .tuple #[.agg #[.string (Lx.strB (t.text.take k)), .slice (some ⟨g5, 0, none⟩) (r.length + 1) (r.length + 1)], .bool true]) (by simp [results, Tryd.results82, go_sem, s0, s1]) rfl ?_
        refine ⟨?_, ?_⟩
        · exact (HC6.out.setCell _ _ (.inr (by simp))).setCell _ _ (.inr (by simp))
        · rw [HR.out, if_neg HD.out]
          refine ⟨_, _, _, 0, rfl, wordIn_of (r := ⟨p.kind, p.text.drop (k + 1)⟩ :: r) ?_ ?_ (by rw [List.length_cons]; omega)⟩
          · exact ⟨by have := HGB.out; omega, by have := HG6.out; simpa [World.setCell] using this⟩
          · intro j u hj
            rw [Nat.zero_add]
            refine Row.cellsAt HR5.out (((Chg.refl [w.heap.size + 1] w7).setCell _ _ (.inl (by simp))).setCell _ _ (.inl (by simp))) (by have := HGB.out; simp; omega) j u ?_
            rw [HPN.out]
            exact hj

end Go.Proofs.YtfgbbmnmblchiaaDoor
