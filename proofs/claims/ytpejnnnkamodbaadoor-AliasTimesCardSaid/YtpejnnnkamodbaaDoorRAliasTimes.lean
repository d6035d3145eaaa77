/- reportescrowlaw13.AliasTimes returns true: an alias that is added changes nothing for earlier times, and leads its name on from its time on. Conditions: the listed package-level variables of Go's library hold what the program's text lays in them (the card ties this); each string and slice takes fewer than 2^47 bytes (the form's reach). -/
import Derived.Test.YtpejnnnkamodbaaDoorCards
import Derived.Test.YtpejnnnkamodbaaDoorWFacts
import Derived.Test.YtpejnnnkamodbaaDoorWLaid
import Derived.Test.YtpejnnnkamodbaaDoorWTimes
import Derived.Test.YtpejnnnkamodbaaDoorWInts
namespace Go.Proofs.YtpejnnnkamodbaaDoor
open Go.ChangeShapes Go.WideShapes Go.ChangeAt Go.RowKit
open Go.ChangeMaps (shut_map_nil open_string shut_string keptBut_setBlock frozen?_setBlock heap_setBlock_same)
theorem aliasTimes_own : ownKnob Tryd.prog.godebug = none := by kernel_rfl
set_option maxRecDepth 100000 in
theorem aliasTimes_lifted (os : Os) (started : os.Started) (H : Type) (enc : TypeId × Value → H) :
    ReturnsInHanded {} Tryd.checked os 8 .any (fun w args => (Rows.aliasTimesSpec.pre enc Tryd.prog Tryd.f8 Rows.aliasTimesRow.domain false w args ∧ laidMetH Tryd.prog Rows.aliasTimesRow.laid w) ∧ sizedMet enc Tryd.prog Tryd.f8 (OpenSpec.ofChange Rows.aliasTimesSpec) false w args)
      (Rows.aliasTimesSpec.post enc Tryd.prog Tryd.f8 false true false false) := by
  refine returnsInHanded_of_change_and (C := Tryd.checked) (X := fun w _ => laidMetH Tryd.prog Rows.aliasTimesRow.laid w) (fun _ _ _ hh h => h.of_heap hh) aliasTimes_own started (by as_aux_lemma => kernel_rfl) Tryd.func8
    (ChangeSpec.witness_shaped (enc := enc) (C := Tryd.checked) (os := os) (X := fun w _ => laidMetH Tryd.prog Rows.aliasTimesRow.laid w) false (World.laidAll Tryd.prog os Rows.aliasTimesRow.laid) #[.slice none 0 0] 8 (World.laidAll_os _ _ _)
      (World.shaped_of_ZipB (by as_aux_lemma => kernel_rfl) (by as_aux_lemma => kernel_rfl)) (by as_aux_lemma => kernel_rfl) (by as_aux_lemma => kernel_rfl) (by as_aux_lemma => kernel_rfl)
      (by rw [MakeChecks.laidMetH_plain _ _ _ (by as_aux_lemma => kernel_rfl)]; exact laidMet_laidAll _ (by as_aux_lemma => kernel_rfl) (by as_aux_lemma => kernel_rfl))) ?_
  intro W base args ds gs before hval0 hW _ hsz hL _
  have hval : ∀ (j : Nat) t v, Tryd.f8.params[j]? = some t → args[j]? = some v → Value.okWide Tryd.prog W .any base t v := hval0
  have hW' := hW
  obtain ⟨p, q, hA0, hV, rfl, _, _⟩ := hW
  have hA : DataW.TrodAll enc Tryd.prog W 0 (fun _ => true) true Tryd.f8.params.toList args.toList ds p := hA0
  rw [Tryd.params8] at hA hval
  obtain ⟨v0, d0, rfl, rfl, h0⟩ := trodAll_one hA
  obtain ⟨rfl, rfl⟩ := trodVars_none hV
  have hT := tabs_of_laid hL
  obtain ⟨a0, len0, cap0, rfl⟩ := okWide_slice Tryd.underlying30 (hval 0 30 v0 rfl rfl)
  have k0 := h0
  have lt0 : ∀ x ∈ p, x.block < W.heap.size := by obtain ⟨m, hm⟩ := k0; exact DataW.trod_lt m _ _ _ hm
  obtain ⟨z0, w0⟩ : ∃ zs, IsRow .i64 W a0 len0 cap0 zs := by
    obtain ⟨fuel, hf⟩ := h0
    rcases open_ints Tryd.underlying30 Tryd.underlying3 (by kernel_rfl) hf with ⟨hcs, _⟩ | ⟨x, l, c, zs, hcs, _, hl, hm, hz, _, hcell, hwz⟩
    · simp [Value.cells] at hcs
      obtain ⟨rfl, rfl, rfl⟩ := hcs
      exact ⟨[], .inl ⟨rfl, rfl, rfl, rfl⟩⟩
    · simp [Value.cells] at hcs
      obtain ⟨rfl, rfl, rfl⟩ := hcs
      exact ⟨zs, .inr ⟨_, rfl, hl, hm, by simpa using hz, hcell, hwz⟩⟩
  obtain ⟨x0, rfl, hc0, hr0⟩ := w0.reads
  simp only [List.append_nil] at hW'
  refine (aliasTimes_walk a0 cap0 x0 W hT hr0 hc0).mono fun e W' ⟨he, hb⟩ => ?_
  subst he
  exact ⟨_, rfl, _, _, _, [], _, [], hW', trodAll_mk1 (shut_bool Tryd.underlying4 _), trodAll_mk1 (Below.trod pf_laidOut (by kernel_rfl) (of_decide_eq_true (by kernel_rfl)) k0 hb lt0), rfl, hb.frame _, fun h => by cases h⟩
theorem aliasTimes_c1 : Rows.aliasTimesRow.wf (OpenSpec.ofChange Rows.aliasTimesSpec) = true := by kernel_rfl
theorem aliasTimes_c10 : (Rows.aliasTimesRow.inPlace == Tryd.prog.inPlace 8) = true := by kernel_rfl
theorem aliasTimes_c11 : (Rows.aliasTimesRow.unfollowed == Tryd.prog.unfollowed 8) = true := by kernel_rfl
theorem aliasTimes_c12 : (Rows.aliasTimesRow.recurses == Tryd.prog.recurses 8) = true := by kernel_rfl
theorem aliasTimes_c13 : (Rows.aliasTimesRow.named == Tryd.prog.varsNamed 8) = true := by kernel_rfl
theorem aliasTimes_closed : joinedFacts Tryd.prog 8 Tryd.f8 Rows.aliasTimesSpec Rows.aliasTimesRow = true := by
  unfold joinedFacts
  simp only [Bool.and_eq_true]
  exact ⟨⟨⟨⟨⟨⟨⟨⟨⟨⟨⟨⟨⟨⟨⟨⟨⟨⟨⟨⟨⟨⟨⟨⟨⟨⟨⟨⟨⟨⟨⟨aliasTimes_c1, pf_laidOut⟩, pf_mapsRowed⟩, (by as_aux_lemma => kernel_rfl)⟩, (by as_aux_lemma => kernel_rfl)⟩, (by as_aux_lemma => kernel_rfl)⟩, pf_stops⟩, (by as_aux_lemma => kernel_rfl)⟩, pf_stopKnobs⟩, aliasTimes_c10⟩, aliasTimes_c11⟩, aliasTimes_c12⟩, aliasTimes_c13⟩, (by as_aux_lemma => kernel_rfl)⟩, (by as_aux_lemma => kernel_rfl)⟩, (by as_aux_lemma => kernel_rfl)⟩, (by as_aux_lemma => kernel_rfl)⟩, (by as_aux_lemma => kernel_rfl)⟩, (by as_aux_lemma => kernel_rfl)⟩, (by as_aux_lemma => kernel_rfl)⟩, (by as_aux_lemma => kernel_rfl)⟩, (by as_aux_lemma => kernel_rfl)⟩, pf_plainKeys⟩, (by as_aux_lemma => kernel_rfl)⟩, pf_heard⟩, pf_mayEnter⟩, pf_lifted⟩, pf_make⟩, (by as_aux_lemma => kernel_rfl)⟩, (by as_aux_lemma => kernel_rfl)⟩, (by as_aux_lemma => kernel_rfl)⟩, (by as_aux_lemma => kernel_rfl)⟩
theorem aliasTimes_named : Tryd.prog.funcNamed "reportescrow/reportescrowlaw13.AliasTimes" = some 8 := by kernel_rfl
theorem aliasTimes_inst : Tryd.f8.isInstance Tryd.prog Rows.aliasTimesRow.origin Rows.aliasTimesRow.targs := of_decide_eq_true (by kernel_rfl)
theorem aliasTimes_wrap : Tryd.f8.isWrapper Tryd.prog Rows.aliasTimesRow.wrapper Rows.aliasTimesRow.mainSum := by
  unfold Func.isWrapper
  rw [if_neg (by decide +kernel)]
  exact ⟨rfl, rfl⟩
theorem aliasTimes_holds : Rows.AliasTimesSaid :=
  OpenClaim.holds_of_wide 8 Tryd.f8 rfl rfl rfl rfl rfl rfl rfl ⟨rfl, rfl, rfl, rfl, rfl⟩ rfl rfl rfl rfl rfl aliasTimes_named Tryd.func8 aliasTimes_closed aliasTimes_inst aliasTimes_wrap
    (fun os started H enc _ => aliasTimes_lifted os started H enc)
theorem aliasTimes_card : Rows.AliasTimesCardSaid :=
  Claim7.holds_tied_plain_at .later [] [.data, .listed, .data, .pinned] true (true, "9db6c9b079afdd40a5af23e46c1598bc310f6aeac39bec01613b9c975a06831f") false
    aliasTimes_holds (fun _ h => by cases h) (by as_aux_lemma => kernel_rfl) (fun _ h => by cases h) aliasTimes_row_tie rfl ⟨rfl, rfl⟩ (by as_aux_lemma => kernel_rfl) rfl
    (fun f fn hf hfn => by
      obtain rfl : f = 8 := Option.some.inj (aliasTimes_named.symm.trans hf) |>.symm
      obtain rfl : fn = Tryd.f8 := (Option.some.inj (Tryd.func8.symm.trans hfn)).symm
      exact ⟨by kernel_rfl, fun j t ht => by
        rw [Tryd.params8] at ht
        have hm : t ∈ [30] := by simpa using Array.mem_of_getElem? ht
        have hall : ([30].all fun u => !Tryd.prog.wantsStandIn u) = true := by kernel_rfl
        exact (show Tryd.prog.wantsStandIn t = false by simpa using List.all_eq_true.1 hall t hm)⟩)
    (by as_aux_lemma => kernel_rfl)
#print axioms aliasTimes_card
end Go.Proofs.YtpejnnnkamodbaaDoor
