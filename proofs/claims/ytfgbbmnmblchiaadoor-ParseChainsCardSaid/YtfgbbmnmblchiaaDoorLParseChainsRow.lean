/-
  ParseChains returns true whatever it is handed: the row, and its tied card.
-/
import Derived.Test.YtfgbbmnmblchiaaDoorChains
import Derived.Test.YtfgbbmnmblchiaaDoorCards
import Derived.Test.YtfgbbmnmblchiaaDoorTie
import Derived.ProofKit
import Derived.OpenShut
import Derived.ShutString
import Derived.ChangeOld
import Derived.Below
import Derived.ChangeSlices
import Derived.Lay
import Derived.LaidOnce
import Derived.SevenTiedAt
import Derived.Lib.LaidU8
namespace Go.Proofs.YtfgbbmnmblchiaaDoor
namespace ParseChainsRow
open Go.ChangeShapes Go.WideShapes Go.ChangeAt Go.RowKit Go.Shelf Go.Lib
open Go.ChangeMaps (open_string shut_string)
set_option linter.unusedVariables false

/-- a slice of integers that came in. -/
theorem src_of {w : World} {x : Addr} {len cap : Nat} {zs : List Int} (hl : len ≤ cap) (hz : zs.length = cap) (hcell : ∀ i, i < zs.length → w.cell? (x.add i) = some (.int .i64 (zs.getD i 0))) : SrcAt w (some x) ((zs.take len).map fun z => Value.int .i64 z) := by
  intro hne
  have h0 : 0 < len := by
    rcases Nat.eq_zero_or_pos len with h | h
    · subst h; simp at hne
    · exact h
  obtain ⟨b, off, spot⟩ := x
  have hc := hcell 0 (by omega)
  have hspot : spot = none := by simpa [Addr.add] using World.cell?_spot hc
  subst hspot
  refine ⟨b, off, rfl, fun j u hj => ?_⟩
  have hj' : j < len := by
    have := (List.getElem?_eq_some_iff.1 hj).1
    rw [List.length_map, List.length_take] at this
    omega
  have hjz : j < zs.length := by omega
  have h1 := hcell j hjz
  have hadd : (⟨b, off, none⟩ : Addr).add j = ⟨b, off + j, none⟩ := by unfold Addr.add; split <;> simp_all
  rw [hadd] at h1
  rw [h1]
  rw [List.getElem?_map, List.getElem?_take, if_pos hj'] at hj
  simp [List.getElem?_eq_getElem hjz] at hj ⊢
  exact hj

theorem laidOut : laidOutB Tryd.prog = true := by kernel_rfl
theorem own : ownKnob Tryd.prog.godebug = none := by kernel_rfl
theorem first_eq : Pinned.utf8First = firstData := by kernel_rfl
theorem accept_eq : (Rows.laid_unicode_utf8_acceptRanges : DataW Unit) = acceptData := by kernel_rfl
theorem tabs {W : World} (h : laidMet Tryd.prog Rows.parseChainsRow.laid W) : U8 W :=
  utf8Tabs_of_reads (ρ := Tryd.lays260_ren) { Tryd.lays260 with } ⟨by kernel_rfl, by kernel_rfl, by kernel_rfl, by kernel_rfl, by kernel_rfl, by kernel_rfl, by kernel_rfl⟩ (first_eq ▸ Lib.laidMet.reads h (.tail _ (.head _))) (accept_eq ▸ Lib.laidMet.reads h (.head _))

set_option maxRecDepth 100000 in
theorem lifted (os : Os) (started : os.Started) (H : Type) (enc : TypeId × Value → H) :
    ReturnsInHanded {} Tryd.checked os 3 .any (fun w args => (Rows.parseChainsSpec.pre enc Tryd.prog Tryd.f3 [] false w args ∧ laidMetH Tryd.prog Rows.parseChainsRow.laid w) ∧ sizedMet enc Tryd.prog Tryd.f3 (OpenSpec.ofChange Rows.parseChainsSpec) false w args)
      (Rows.parseChainsSpec.post enc Tryd.prog Tryd.f3 false true false false) := by
  refine returnsInHanded_of_calls own started (by kernel_rfl)
    (ChangeSpec.witness_shaped (enc := enc) (C := Tryd.checked) (os := os) (X := fun w _ => laidMetH Tryd.prog Rows.parseChainsRow.laid w) false (World.laidAll Tryd.prog os Rows.parseChainsRow.laid) #[.slice none 0 0] 8 (World.laidAll_os _ _ _)
      (World.shaped_of_ZipB (by kernel_rfl) (by kernel_rfl)) (by kernel_rfl) (by kernel_rfl) (by kernel_rfl)
      (by rw [MakeChecks.laidMetH_plain _ _ _ (by kernel_rfl)]; exact laidMet_laidAll _ (by kernel_rfl) (by kernel_rfl))) ?_
  intro w tape i _ hsh _ hok hpre _
  obtain ⟨_, _, _, fn', hfn', _, _, _, _, hval1⟩ := hok
  have hfe : fn' = Tryd.f3 := Option.some.inj (hfn'.symm.trans Tryd.func3)
  subst hfe
  obtain ⟨⟨⟨ds, gs, before, hw1, _⟩, hL1⟩, _⟩ := hpre
  have hW := DataW.Whole.of_heap (w' := w.forCall tape i) (by rfl) hw1
  have hL : laidMetH Tryd.prog Rows.parseChainsRow.laid (w.forCall tape i) := laidMetH.of_heap (by rfl) hL1
  suffices hmain : Calls Tryd.prog 3 i.args (w.forCall tape i) fun e W' => ∃ v, e = .returned v ∧ Rows.parseChainsSpec.post enc Tryd.prog Tryd.f3 false true false false (w.forCall tape i) i.args v W' from
    hmain.mono fun e W' ⟨v, he, hp⟩ => by subst he; exact ChangeSpec.post_blind hp
  obtain ⟨m, hm⟩ := Tryd.laysM145.s1_3 _ hsh
  have hval0 := hval1
  clear hsh hw1 hL1
  generalize w.forCall tape i = W at *
  generalize w.heap.size = base at *
  generalize i.args = args at *
  have hval : ∀ (j : Nat) t v, Tryd.f3.params[j]? = some t → args[j]? = some v → Value.okWide Tryd.prog W .any base t v := hval0
  have hW' := hW
  obtain ⟨p, q, hA0, hV, rfl, _, _⟩ := hW
  have hA : DataW.TrodAll enc Tryd.prog W 0 (fun _ => true) true Tryd.f3.params.toList args.toList ds p := hA0
  rw [Tryd.params3] at hA hval
  obtain ⟨v0, vs0, d0, ds0, p0, q0, hargs, rfl, rfl, h0, r0⟩ := trodAll_cons hA
  obtain ⟨rfl, rfl, rfl⟩ := trodAll_nil r0
  obtain rfl : args = #[v0] := by cases args; simp_all
  obtain ⟨rfl, rfl⟩ := trodVars_none hV
  obtain ⟨a0, len0, cap0, rfl⟩ := okWide_slice Tryd.underlying22 (hval 0 22 v0 rfl rfl)
  have k0 := h0
  have lt0 : ∀ x ∈ p0, x.block < W.heap.size := by obtain ⟨m, hm⟩ := k0; exact DataW.trod_lt m _ _ _ hm
  obtain ⟨z0, w1, w2, w3⟩ : ∃ zs : List Int, zs.length = len0 ∧ len0 ≤ maxLen ∧ SrcAt W a0 (zs.map fun z => Value.int .i64 z) := by
    obtain ⟨fuel, hf⟩ := h0
    rcases open_ints Tryd.underlying22 Tryd.underlying3 (by kernel_rfl) hf with ⟨hcs, _⟩ | ⟨x, l, c, zs, hcs, _, hl, hm, hz, _, hcell, hwz⟩
    · simp [Value.cells] at hcs
      obtain ⟨rfl, rfl, rfl⟩ := hcs
      exact ⟨[], rfl, Nat.zero_le _, fun h => absurd rfl h⟩
    · simp [Value.cells] at hcs
      obtain ⟨rfl, rfl, rfl⟩ := hcs
      have hz : zs.length = cap0 := by simpa using hz
      exact ⟨zs.take len0, by rw [List.length_take]; omega, by omega, src_of hl hz hcell⟩
  clear hA0 hval0 hval1
  simp only [List.append_nil] at hW'
  rw [MakeChecks.laidMetH_plain _ _ _ (by kernel_rfl)] at hL
  have hT : Hid (U8 W) := Lib.hid (tabs hL)
  have hw := parseChains_any a0 len0 cap0 z0 W w1 (by unfold maxLen at w2; omega) w3 hT m hm
  refine hw.mono fun e W' ⟨he, hb⟩ => ?_
  subst he
  exact ⟨_, rfl, _, _, _, [], _, [], hW', trodAll_mk1 (shut_bool Tryd.underlying4 _), (trodAll_cons_mk (Below.trod laidOut (by kernel_rfl) (of_decide_eq_true (by kernel_rfl)) k0 hb.below lt0) trodAll_mk0), rfl, hb.below.frame _, fun h => by cases h⟩

theorem over : Rows.parseChainsRow.holds Tryd.pinned (OpenSpec.ofChange Rows.parseChainsSpec) :=
  OpenClaim.holds_of_wide 3 Tryd.f3 rfl rfl rfl rfl rfl rfl rfl ⟨rfl, rfl, rfl, rfl, rfl⟩ rfl rfl rfl rfl rfl (by kernel_rfl) Tryd.func3 (by kernel_rfl)
    (of_decide_eq_true (by kernel_rfl)) (by unfold Func.isWrapper; first | (rw [if_pos (by decide +kernel)]; kernel_rfl) | (rw [if_neg (by decide +kernel)]; exact ⟨rfl, rfl⟩))
    (fun os started H enc _ => lifted os started H enc)

theorem card : Rows.ParseChainsCardSaid :=
  Claim7.holds_tied_plain_at .later [] [.data, .pinned] true (true, "e15536ccca34f821531e199fb6034f1e518aab03b84be31b042aa610889fe621") false
    over (fun _ h => by cases h) (by kernel_rfl) (fun _ h => by cases h) parseChains_row_tie rfl ⟨rfl, rfl⟩ (by kernel_rfl) rfl
    (fun f fn hf hfn => by
      obtain rfl : f = 3 := Option.some.inj ((show Tryd.prog.funcNamed "lazaret/lazaretlaw18.ParseChains" = some 3 by kernel_rfl).symm.trans hf) |>.symm
      obtain rfl : fn = Tryd.f3 := (Option.some.inj (Tryd.func3.symm.trans hfn)).symm
      exact ⟨by kernel_rfl, fun j t ht => by
        rw [Tryd.params3] at ht
        have hm : t ∈ [22] := by simpa using Array.mem_of_getElem? ht
        have hall : ([22].all fun u => !Tryd.prog.wantsStandIn u) = true := by kernel_rfl
        exact (show Tryd.prog.wantsStandIn t = false by simpa using List.all_eq_true.1 hall t hm)⟩)
    (by kernel_rfl)
end ParseChainsRow

theorem parseChains_holds : Rows.ParseChainsCardSaid := ParseChainsRow.card
#print axioms parseChains_holds
end Go.Proofs.YtfgbbmnmblchiaaDoor
