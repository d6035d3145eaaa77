/- reportescrowlaw11.WordsLetters returns true for every byte; the byte reads as it did. Conditions: the listed package-level variables of Go's library hold what the program's text lays in them (the card ties this). -/
import Derived.Test.YtpejnnnkamodbaaDoorCards
import Derived.Test.YtpejnnnkamodbaaDoorWFacts
import Derived.Test.YtpejnnnkamodbaaDoorWLaid
import Derived.Test.YtpejnnnkamodbaaDoorWLetters
namespace Go.Proofs.YtpejnnnkamodbaaDoor
open Go.ChangeShapes Go.WideShapes Go.ChangeAt Go.RowKit
open Go.ChangeMaps (shut_map_nil open_string shut_string keptBut_setBlock frozen?_setBlock heap_setBlock_same)
theorem wordsLetters_own : ownKnob Tryd.prog.godebug = none := by kernel_rfl
set_option maxRecDepth 100000 in
theorem wordsLetters_lifted (os : Os) (started : os.Started) (H : Type) (enc : TypeId × Value → H) :
    ReturnsInHanded {} Tryd.checked os 6 .any (fun w args => (Rows.wordsLettersSpec.pre enc Tryd.prog Tryd.f6 Rows.wordsLettersRow.domain false w args ∧ laidMetH Tryd.prog Rows.wordsLettersRow.laid w) ∧ sizedMet enc Tryd.prog Tryd.f6 (OpenSpec.ofChange Rows.wordsLettersSpec) false w args)
      (Rows.wordsLettersSpec.post enc Tryd.prog Tryd.f6 false true false false) := by
  refine returnsInHanded_of_change_and (C := Tryd.checked) (X := fun w _ => laidMetH Tryd.prog Rows.wordsLettersRow.laid w) (fun _ _ _ hh h => h.of_heap hh) wordsLetters_own started (by as_aux_lemma => kernel_rfl) Tryd.func6
    (ChangeSpec.witness_shaped (enc := enc) (C := Tryd.checked) (os := os) (X := fun w _ => laidMetH Tryd.prog Rows.wordsLettersRow.laid w) false (World.laidAll Tryd.prog os Rows.wordsLettersRow.laid) #[.int .u8 0] 8 (World.laidAll_os _ _ _)
      (World.shaped_of_ZipB (by as_aux_lemma => kernel_rfl) (by as_aux_lemma => kernel_rfl)) (by as_aux_lemma => kernel_rfl) (by as_aux_lemma => kernel_rfl) (by as_aux_lemma => kernel_rfl)
      (by rw [MakeChecks.laidMetH_plain _ _ _ (by as_aux_lemma => kernel_rfl)]; exact laidMet_laidAll _ (by as_aux_lemma => kernel_rfl) (by as_aux_lemma => kernel_rfl))) ?_
  intro W base args ds gs before hval0 hW _ _ hL _
  have hval : ∀ (j : Nat) t v, Tryd.f6.params[j]? = some t → args[j]? = some v → Value.okWide Tryd.prog W .any base t v := hval0
  have hW' := hW
  obtain ⟨p, q, hA0, hV, rfl, _, _⟩ := hW
  have hA : DataW.TrodAll enc Tryd.prog W 0 (fun _ => true) true Tryd.f6.params.toList args.toList ds p := hA0
  rw [Tryd.params6] at hA hval
  obtain ⟨v0, d0, rfl, rfl, h0⟩ := trodAll_one hA
  obtain ⟨rfl, rfl⟩ := trodVars_none hV
  have hT := tabs_of_laid hL
  obtain ⟨x0, rfl, rfl, rfl, wx0⟩ := open_int Tryd.underlying5 (hval 0 5 v0 rfl rfl) h0
  simp only [List.append_nil] at hW'
  have hx : 0 ≤ x0 ∧ x0 ≤ 255 := by simpa [Lit.wf, IntKind.min, IntKind.max, IntKind.signed, IntKind.bits] using wx0
  obtain ⟨b, rfl⟩ : ∃ b : UInt8, x0 = (b.toNat : Int) := ⟨UInt8.ofNat x0.toNat, by simp; omega⟩
  refine (wordsLetters_walk b W hT).mono fun e W' ⟨he, hb⟩ => ?_
  subst he
  exact ⟨_, rfl, _, _, _, [], [], [], hW', trodAll_mk1 (shut_bool Tryd.underlying4 _), trodAll_mk1 (shut_int Tryd.underlying5 wx0), rfl, hb.frame _, fun h => by cases h⟩
theorem wordsLetters_c1 : Rows.wordsLettersRow.wf (OpenSpec.ofChange Rows.wordsLettersSpec) = true := by kernel_rfl
theorem wordsLetters_c10 : (Rows.wordsLettersRow.inPlace == Tryd.prog.inPlace 6) = true := by kernel_rfl
theorem wordsLetters_c11 : (Rows.wordsLettersRow.unfollowed == Tryd.prog.unfollowed 6) = true := by kernel_rfl
theorem wordsLetters_c12 : (Rows.wordsLettersRow.recurses == Tryd.prog.recurses 6) = true := by kernel_rfl
theorem wordsLetters_c13 : (Rows.wordsLettersRow.named == Tryd.prog.varsNamed 6) = true := by kernel_rfl
theorem wordsLetters_closed : joinedFacts Tryd.prog 6 Tryd.f6 Rows.wordsLettersSpec Rows.wordsLettersRow = true := by
  unfold joinedFacts
  simp only [Bool.and_eq_true]
  exact ⟨⟨⟨⟨⟨⟨⟨⟨⟨⟨⟨⟨⟨⟨⟨⟨⟨⟨⟨⟨⟨⟨⟨⟨⟨⟨⟨⟨⟨⟨⟨wordsLetters_c1, pf_laidOut⟩, pf_mapsRowed⟩, (by as_aux_lemma => kernel_rfl)⟩, (by as_aux_lemma => kernel_rfl)⟩, (by as_aux_lemma => kernel_rfl)⟩, pf_stops⟩, (by as_aux_lemma => kernel_rfl)⟩, pf_stopKnobs⟩, wordsLetters_c10⟩, wordsLetters_c11⟩, wordsLetters_c12⟩, wordsLetters_c13⟩, (by as_aux_lemma => kernel_rfl)⟩, (by as_aux_lemma => kernel_rfl)⟩, (by as_aux_lemma => kernel_rfl)⟩, (by as_aux_lemma => kernel_rfl)⟩, (by as_aux_lemma => kernel_rfl)⟩, (by as_aux_lemma => kernel_rfl)⟩, (by as_aux_lemma => kernel_rfl)⟩, (by as_aux_lemma => kernel_rfl)⟩, (by as_aux_lemma => kernel_rfl)⟩, pf_plainKeys⟩, (by as_aux_lemma => kernel_rfl)⟩, pf_heard⟩, pf_mayEnter⟩, pf_lifted⟩, pf_make⟩, (by as_aux_lemma => kernel_rfl)⟩, (by as_aux_lemma => kernel_rfl)⟩, (by as_aux_lemma => kernel_rfl)⟩, (by as_aux_lemma => kernel_rfl)⟩
theorem wordsLetters_named : Tryd.prog.funcNamed "reportescrow/reportescrowlaw11.WordsLetters" = some 6 := by kernel_rfl
theorem wordsLetters_inst : Tryd.f6.isInstance Tryd.prog Rows.wordsLettersRow.origin Rows.wordsLettersRow.targs := of_decide_eq_true (by kernel_rfl)
theorem wordsLetters_wrap : Tryd.f6.isWrapper Tryd.prog Rows.wordsLettersRow.wrapper Rows.wordsLettersRow.mainSum := by
  unfold Func.isWrapper
  rw [if_neg (by decide +kernel)]
  exact ⟨rfl, rfl⟩
theorem wordsLetters_holds : Rows.WordsLettersSaid :=
  OpenClaim.holds_of_wide 6 Tryd.f6 rfl rfl rfl rfl rfl rfl rfl ⟨rfl, rfl, rfl, rfl, rfl⟩ rfl rfl rfl rfl rfl wordsLetters_named Tryd.func6 wordsLetters_closed wordsLetters_inst wordsLetters_wrap
    (fun os started H enc _ => wordsLetters_lifted os started H enc)
theorem wordsLetters_card : Rows.WordsLettersCardSaid :=
  Claim7.holds_tied_plain_at .later [] [.data, .listed, .data, .pinned] true (true, "9db6c9b079afdd40a5af23e46c1598bc310f6aeac39bec01613b9c975a06831f") false
    wordsLetters_holds (fun _ h => by cases h) (by as_aux_lemma => kernel_rfl) (fun _ h => by cases h) wordsLetters_row_tie rfl ⟨rfl, rfl⟩ (by as_aux_lemma => kernel_rfl) rfl
    (fun f fn hf hfn => by
      obtain rfl : f = 6 := Option.some.inj (wordsLetters_named.symm.trans hf) |>.symm
      obtain rfl : fn = Tryd.f6 := (Option.some.inj (Tryd.func6.symm.trans hfn)).symm
      exact ⟨by kernel_rfl, fun j t ht => by
        rw [Tryd.params6] at ht
        have hm : t ∈ [5] := by simpa using Array.mem_of_getElem? ht
        have hall : ([5].all fun u => !Tryd.prog.wantsStandIn u) = true := by kernel_rfl
        exact (show Tryd.prog.wantsStandIn t = false by simpa using List.all_eq_true.1 hall t hm)⟩)
    (by as_aux_lemma => kernel_rfl)
#print axioms wordsLetters_card
end Go.Proofs.YtpejnnnkamodbaaDoor
