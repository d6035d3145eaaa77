/- reportescrowlaw11.WordsSpelled returns true: capitals, accents and several spaces make no difference. Conditions: the listed package-level variables of Go's library hold what the program's text lays in them (the card ties this); each string and slice takes fewer than 2^47 bytes (the form's reach). -/
import Derived.Test.YtpejnnnkamodbaaDoorCards
import Derived.Test.YtpejnnnkamodbaaDoorWFacts
import Derived.Test.YtpejnnnkamodbaaDoorWLaid
import Derived.Test.YtpejnnnkamodbaaDoorWSpelled
import Derived.Test.YtpejnnnkamodbaaDoorWInts
namespace Go.Proofs.YtpejnnnkamodbaaDoor
open Go.ChangeShapes Go.WideShapes Go.ChangeAt Go.RowKit
open Go.ChangeMaps (shut_map_nil open_string shut_string keptBut_setBlock frozen?_setBlock heap_setBlock_same)
theorem wordsSpelled_own : ownKnob Tryd.prog.godebug = none := by kernel_rfl
set_option maxRecDepth 100000 in
theorem wordsSpelled_lifted (os : Os) (started : os.Started) (H : Type) (enc : TypeId × Value → H) :
    ReturnsInHanded {} Tryd.checked os 5 .any (fun w args => (Rows.wordsSpelledSpec.pre enc Tryd.prog Tryd.f5 Rows.wordsSpelledRow.domain false w args ∧ laidMetH Tryd.prog Rows.wordsSpelledRow.laid w) ∧ sizedMet enc Tryd.prog Tryd.f5 (OpenSpec.ofChange Rows.wordsSpelledSpec) false w args)
      (Rows.wordsSpelledSpec.post enc Tryd.prog Tryd.f5 false true false false) := by
  refine returnsInHanded_of_change_and (C := Tryd.checked) (X := fun w _ => laidMetH Tryd.prog Rows.wordsSpelledRow.laid w) (fun _ _ _ hh h => h.of_heap hh) wordsSpelled_own started (by as_aux_lemma => kernel_rfl) Tryd.func5
    (ChangeSpec.witness_shaped (enc := enc) (C := Tryd.checked) (os := os) (X := fun w _ => laidMetH Tryd.prog Rows.wordsSpelledRow.laid w) false (World.laidAll Tryd.prog os Rows.wordsSpelledRow.laid) #[.slice none 0 0] 8 (World.laidAll_os _ _ _)
      (World.shaped_of_ZipB (by as_aux_lemma => kernel_rfl) (by as_aux_lemma => kernel_rfl)) (by as_aux_lemma => kernel_rfl) (by as_aux_lemma => kernel_rfl) (by as_aux_lemma => kernel_rfl)
      (by rw [MakeChecks.laidMetH_plain _ _ _ (by as_aux_lemma => kernel_rfl)]; exact laidMet_laidAll _ (by as_aux_lemma => kernel_rfl) (by as_aux_lemma => kernel_rfl))) ?_
  intro W base args ds gs before hval0 hW _ hsz hL _
  have hval : ∀ (j : Nat) t v, Tryd.f5.params[j]? = some t → args[j]? = some v → Value.okWide Tryd.prog W .any base t v := hval0
  have hW' := hW
  obtain ⟨p, q, hA0, hV, rfl, _, _⟩ := hW
  have hA : DataW.TrodAll enc Tryd.prog W 0 (fun _ => true) true Tryd.f5.params.toList args.toList ds p := hA0
  rw [Tryd.params5] at hA hval
  obtain ⟨v0, d0, rfl, rfl, h0⟩ := trodAll_one hA
  obtain ⟨rfl, rfl⟩ := trodVars_none hV
  have hT := tabs_of_laid hL
  obtain ⟨a0, len0, cap0, rfl⟩ := okWide_slice Tryd.underlying30 (hval 0 30 v0 rfl rfl)
  have k0 := h0
  have lt0 : ∀ x ∈ p, x.block < W.heap.size := by obtain ⟨m, hm⟩ := k0; exact DataW.trod_lt m _ _ _ hm
  obtain ⟨z0, w0⟩ : ∃ zs, IsRow .i64 W a0 len0 cap0 zs := by
    obtain ⟨fuel, hf⟩ := h0
    rcases open_ints Tryd.underlying30 Tryd.underlying3 (by kernel_rfl) hf with ⟨hcs, _⟩ | ⟨x, l, c, zs, hcs, _, hl, hm, hz, _, hcell, hwz⟩
    · simp [Value.cells] at hcs
      obtain ⟨rfl, rfl, rfl⟩ := hcs
      exact ⟨[], .inl ⟨rfl, rfl, rfl, rfl⟩⟩
    · simp [Value.cells] at hcs
      obtain ⟨rfl, rfl, rfl⟩ := hcs
      exact ⟨zs, .inr ⟨_, rfl, hl, hm, by simpa using hz, hcell, hwz⟩⟩
  obtain ⟨x0, rfl, hc0, hr0⟩ := w0.reads
  simp only [List.append_nil] at hW'
  refine (wordsSpelled_walk a0 cap0 x0 W hT hr0 hc0).mono fun e W' ⟨he, hb⟩ => ?_
  subst he
  exact ⟨_, rfl, _, _, _, [], _, [], hW', trodAll_mk1 (shut_bool Tryd.underlying4 _), trodAll_mk1 (Below.trod pf_laidOut (by kernel_rfl) (of_decide_eq_true (by kernel_rfl)) k0 hb lt0), rfl, hb.frame _, fun h => by cases h⟩
theorem wordsSpelled_c1 : Rows.wordsSpelledRow.wf (OpenSpec.ofChange Rows.wordsSpelledSpec) = true := by kernel_rfl
theorem wordsSpelled_c10 : (Rows.wordsSpelledRow.inPlace == Tryd.prog.inPlace 5) = true := by kernel_rfl
theorem wordsSpelled_c11 : (Rows.wordsSpelledRow.unfollowed == Tryd.prog.unfollowed 5) = true := by kernel_rfl
theorem wordsSpelled_c12 : (Rows.wordsSpelledRow.recurses == Tryd.prog.recurses 5) = true := by kernel_rfl
theorem wordsSpelled_c13 : (Rows.wordsSpelledRow.named == Tryd.prog.varsNamed 5) = true := by kernel_rfl
theorem wordsSpelled_closed : joinedFacts Tryd.prog 5 Tryd.f5 Rows.wordsSpelledSpec Rows.wordsSpelledRow = true := by
  unfold joinedFacts
  simp only [Bool.and_eq_true]
  exact ⟨⟨⟨⟨⟨⟨⟨⟨⟨⟨⟨⟨⟨⟨⟨⟨⟨⟨⟨⟨⟨⟨⟨⟨⟨⟨⟨⟨⟨⟨⟨wordsSpelled_c1, pf_laidOut⟩, pf_mapsRowed⟩, (by as_aux_lemma => kernel_rfl)⟩, (by as_aux_lemma => kernel_rfl)⟩, (by as_aux_lemma => kernel_rfl)⟩, pf_stops⟩, (by as_aux_lemma => kernel_rfl)⟩, pf_stopKnobs⟩, wordsSpelled_c10⟩, wordsSpelled_c11⟩, wordsSpelled_c12⟩, wordsSpelled_c13⟩, (by as_aux_lemma => kernel_rfl)⟩, (by as_aux_lemma => kernel_rfl)⟩, (by as_aux_lemma => kernel_rfl)⟩, (by as_aux_lemma => kernel_rfl)⟩, (by as_aux_lemma => kernel_rfl)⟩, (by as_aux_lemma => kernel_rfl)⟩, (by as_aux_lemma => kernel_rfl)⟩, (by as_aux_lemma => kernel_rfl)⟩, (by as_aux_lemma => kernel_rfl)⟩, pf_plainKeys⟩, (by as_aux_lemma => kernel_rfl)⟩, pf_heard⟩, pf_mayEnter⟩, pf_lifted⟩, pf_make⟩, (by as_aux_lemma => kernel_rfl)⟩, (by as_aux_lemma => kernel_rfl)⟩, (by as_aux_lemma => kernel_rfl)⟩, (by as_aux_lemma => kernel_rfl)⟩
theorem wordsSpelled_named : Tryd.prog.funcNamed "reportescrow/reportescrowlaw11.WordsSpelled" = some 5 := by kernel_rfl
theorem wordsSpelled_inst : Tryd.f5.isInstance Tryd.prog Rows.wordsSpelledRow.origin Rows.wordsSpelledRow.targs := of_decide_eq_true (by kernel_rfl)
theorem wordsSpelled_wrap : Tryd.f5.isWrapper Tryd.prog Rows.wordsSpelledRow.wrapper Rows.wordsSpelledRow.mainSum := by
  unfold Func.isWrapper
  rw [if_neg (by decide +kernel)]
  exact ⟨rfl, rfl⟩
theorem wordsSpelled_holds : Rows.WordsSpelledSaid :=
  OpenClaim.holds_of_wide 5 Tryd.f5 rfl rfl rfl rfl rfl rfl rfl ⟨rfl, rfl, rfl, rfl, rfl⟩ rfl rfl rfl rfl rfl wordsSpelled_named Tryd.func5 wordsSpelled_closed wordsSpelled_inst wordsSpelled_wrap
    (fun os started H enc _ => wordsSpelled_lifted os started H enc)
theorem wordsSpelled_card : Rows.WordsSpelledCardSaid :=
  Claim7.holds_tied_plain_at .later [] [.data, .listed, .data, .pinned] true (true, "9db6c9b079afdd40a5af23e46c1598bc310f6aeac39bec01613b9c975a06831f") false
    wordsSpelled_holds (fun _ h => by cases h) (by as_aux_lemma => kernel_rfl) (fun _ h => by cases h) wordsSpelled_row_tie rfl ⟨rfl, rfl⟩ (by as_aux_lemma => kernel_rfl) rfl
    (fun f fn hf hfn => by
      obtain rfl : f = 5 := Option.some.inj (wordsSpelled_named.symm.trans hf) |>.symm
      obtain rfl : fn = Tryd.f5 := (Option.some.inj (Tryd.func5.symm.trans hfn)).symm
      exact ⟨by kernel_rfl, fun j t ht => by
        rw [Tryd.params5] at ht
        have hm : t ∈ [30] := by simpa using Array.mem_of_getElem? ht
        have hall : ([30].all fun u => !Tryd.prog.wantsStandIn u) = true := by kernel_rfl
        exact (show Tryd.prog.wantsStandIn t = false by simpa using List.all_eq_true.1 hall t hm)⟩)
    (by as_aux_lemma => kernel_rfl)
#print axioms wordsSpelled_card
end Go.Proofs.YtpejnnnkamodbaaDoor
