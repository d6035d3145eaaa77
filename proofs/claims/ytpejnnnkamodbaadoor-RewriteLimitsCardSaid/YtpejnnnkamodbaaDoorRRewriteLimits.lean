/- reportescrowlaw12.RewriteLimits returns true: of 33 rules, and of 257 bytes, Apply tells the error; of 32 rules and up to 256 bytes it gives the letter that is left. Conditions: the listed package-level variables of Go's library hold what the program's text lays in them (the card ties this); each string and slice takes fewer than 2^47 bytes (the form's reach). -/
import Derived.Test.YtpejnnnkamodbaaDoorCards
import Derived.Test.YtpejnnnkamodbaaDoorWFacts
import Derived.Test.YtpejnnnkamodbaaDoorWLaid
import Derived.Test.YtpejnnnkamodbaaDoorWLimits
namespace Go.Proofs.YtpejnnnkamodbaaDoor
open Go.ChangeShapes Go.WideShapes Go.ChangeAt Go.RowKit
open Go.ChangeMaps (shut_map_nil open_string shut_string keptBut_setBlock frozen?_setBlock heap_setBlock_same)
theorem rewriteLimits_own : ownKnob Tryd.prog.godebug = none := by kernel_rfl
set_option maxRecDepth 100000 in
theorem rewriteLimits_lifted (os : Os) (started : os.Started) (H : Type) (enc : TypeId × Value → H) :
    ReturnsInHanded {} Tryd.checked os 10 .any (fun w args => (Rows.rewriteLimitsSpec.pre enc Tryd.prog Tryd.f10 Rows.rewriteLimitsRow.domain false w args ∧ laidMetH Tryd.prog Rows.rewriteLimitsRow.laid w) ∧ sizedMet enc Tryd.prog Tryd.f10 (OpenSpec.ofChange Rows.rewriteLimitsSpec) false w args)
      (Rows.rewriteLimitsSpec.post enc Tryd.prog Tryd.f10 false true false false) := by
  refine returnsInHanded_of_change_and (C := Tryd.checked) (X := fun w _ => laidMetH Tryd.prog Rows.rewriteLimitsRow.laid w) (fun _ _ _ hh h => h.of_heap hh) rewriteLimits_own started (by as_aux_lemma => kernel_rfl) Tryd.func10
    (ChangeSpec.witness_shaped (enc := enc) (C := Tryd.checked) (os := os) (X := fun w _ => laidMetH Tryd.prog Rows.rewriteLimitsRow.laid w) false (World.laidAll Tryd.prog os Rows.rewriteLimitsRow.laid) #[.int .u8 0, .int .u8 0] 8 (World.laidAll_os _ _ _)
      (World.shaped_of_ZipB (by as_aux_lemma => kernel_rfl) (by as_aux_lemma => kernel_rfl)) (by as_aux_lemma => kernel_rfl) (by as_aux_lemma => kernel_rfl) (by as_aux_lemma => kernel_rfl)
      (by rw [MakeChecks.laidMetH_plain _ _ _ (by as_aux_lemma => kernel_rfl)]; exact laidMet_laidAll _ (by as_aux_lemma => kernel_rfl) (by as_aux_lemma => kernel_rfl))) ?_
  intro W base args ds gs before hval0 hW _ _ hL _
  have hval : ∀ (j : Nat) t v, Tryd.f10.params[j]? = some t → args[j]? = some v → Value.okWide Tryd.prog W .any base t v := hval0
  have hW' := hW
  obtain ⟨p, q, hA0, hV, rfl, _, _⟩ := hW
  have hA : DataW.TrodAll enc Tryd.prog W 0 (fun _ => true) true Tryd.f10.params.toList args.toList ds p := hA0
  rw [Tryd.params10] at hA hval
  obtain ⟨v0, v1, d0, d1, p0, p1, rfl, rfl, rfl, h0, h1⟩ := trodAll_two hA
  obtain ⟨rfl, rfl⟩ := trodVars_none hV
  have hT := tabs_of_laid hL
  obtain ⟨x0, rfl, rfl, rfl, wx0⟩ := open_int Tryd.underlying5 (hval 0 5 v0 rfl rfl) h0
  obtain ⟨x1, rfl, rfl, rfl, wx1⟩ := open_int Tryd.underlying5 (hval 1 5 v1 rfl rfl) h1
  have hx0 : 0 ≤ x0 ∧ x0 ≤ 255 := by simpa [Lit.wf, IntKind.min, IntKind.max, IntKind.signed, IntKind.bits] using wx0
  have hx1 : 0 ≤ x1 ∧ x1 ≤ 255 := by simpa [Lit.wf, IntKind.min, IntKind.max, IntKind.signed, IntKind.bits] using wx1
  simp only [List.append_nil] at hW'
  refine (rewriteLimits_walk x0 x1 W hT hx0.1 hx0.2 hx1.1 hx1.2).mono fun e W' ⟨he, hb⟩ => ?_
  subst he
  exact ⟨_, rfl, _, _, _, [], _, [], hW', trodAll_mk1 (shut_bool Tryd.underlying4 _), trodAll_mk2 (shut_int Tryd.underlying5 wx0) (shut_int Tryd.underlying5 wx1), rfl, hb.frame _, fun h => by cases h⟩
theorem rewriteLimits_c1 : Rows.rewriteLimitsRow.wf (OpenSpec.ofChange Rows.rewriteLimitsSpec) = true := by kernel_rfl
theorem rewriteLimits_c10 : (Rows.rewriteLimitsRow.inPlace == Tryd.prog.inPlace 10) = true := by kernel_rfl
theorem rewriteLimits_c11 : (Rows.rewriteLimitsRow.unfollowed == Tryd.prog.unfollowed 10) = true := by kernel_rfl
theorem rewriteLimits_c12 : (Rows.rewriteLimitsRow.recurses == Tryd.prog.recurses 10) = true := by kernel_rfl
theorem rewriteLimits_c13 : (Rows.rewriteLimitsRow.named == Tryd.prog.varsNamed 10) = true := by kernel_rfl
theorem rewriteLimits_closed : joinedFacts Tryd.prog 10 Tryd.f10 Rows.rewriteLimitsSpec Rows.rewriteLimitsRow = true := by
  unfold joinedFacts
  simp only [Bool.and_eq_true]
  exact ⟨⟨⟨⟨⟨⟨⟨⟨⟨⟨⟨⟨⟨⟨⟨⟨⟨⟨⟨⟨⟨⟨⟨⟨⟨⟨⟨⟨⟨⟨⟨rewriteLimits_c1, pf_laidOut⟩, pf_mapsRowed⟩, (by as_aux_lemma => kernel_rfl)⟩, (by as_aux_lemma => kernel_rfl)⟩, (by as_aux_lemma => kernel_rfl)⟩, pf_stops⟩, (by as_aux_lemma => kernel_rfl)⟩, pf_stopKnobs⟩, rewriteLimits_c10⟩, rewriteLimits_c11⟩, rewriteLimits_c12⟩, rewriteLimits_c13⟩, (by as_aux_lemma => kernel_rfl)⟩, (by as_aux_lemma => kernel_rfl)⟩, (by as_aux_lemma => kernel_rfl)⟩, (by as_aux_lemma => kernel_rfl)⟩, (by as_aux_lemma => kernel_rfl)⟩, (by as_aux_lemma => kernel_rfl)⟩, (by as_aux_lemma => kernel_rfl)⟩, (by as_aux_lemma => kernel_rfl)⟩, (by as_aux_lemma => kernel_rfl)⟩, pf_plainKeys⟩, (by as_aux_lemma => kernel_rfl)⟩, pf_heard⟩, pf_mayEnter⟩, pf_lifted⟩, pf_make⟩, (by as_aux_lemma => kernel_rfl)⟩, (by as_aux_lemma => kernel_rfl)⟩, (by as_aux_lemma => kernel_rfl)⟩, (by as_aux_lemma => kernel_rfl)⟩
theorem rewriteLimits_named : Tryd.prog.funcNamed "reportescrow/reportescrowlaw12.RewriteLimits" = some 10 := by kernel_rfl
theorem rewriteLimits_inst : Tryd.f10.isInstance Tryd.prog Rows.rewriteLimitsRow.origin Rows.rewriteLimitsRow.targs := of_decide_eq_true (by kernel_rfl)
theorem rewriteLimits_wrap : Tryd.f10.isWrapper Tryd.prog Rows.rewriteLimitsRow.wrapper Rows.rewriteLimitsRow.mainSum := by
  unfold Func.isWrapper
  rw [if_neg (by decide +kernel)]
  exact ⟨rfl, rfl⟩
theorem rewriteLimits_holds : Rows.RewriteLimitsSaid :=
  OpenClaim.holds_of_wide 10 Tryd.f10 rfl rfl rfl rfl rfl rfl rfl ⟨rfl, rfl, rfl, rfl, rfl⟩ rfl rfl rfl rfl rfl rewriteLimits_named Tryd.func10 rewriteLimits_closed rewriteLimits_inst rewriteLimits_wrap
    (fun os started H enc _ => rewriteLimits_lifted os started H enc)
theorem rewriteLimits_card : Rows.RewriteLimitsCardSaid :=
  Claim7.holds_tied_plain_at .later [] [.data, .listed, .data, .pinned] true (true, "9db6c9b079afdd40a5af23e46c1598bc310f6aeac39bec01613b9c975a06831f") false
    rewriteLimits_holds (fun _ h => by cases h) (by as_aux_lemma => kernel_rfl) (fun _ h => by cases h) rewriteLimits_row_tie rfl ⟨rfl, rfl⟩ (by as_aux_lemma => kernel_rfl) rfl
    (fun f fn hf hfn => by
      obtain rfl : f = 10 := Option.some.inj (rewriteLimits_named.symm.trans hf) |>.symm
      obtain rfl : fn = Tryd.f10 := (Option.some.inj (Tryd.func10.symm.trans hfn)).symm
      exact ⟨by kernel_rfl, fun j t ht => by
        rw [Tryd.params10] at ht
        have hm : t ∈ [5, 5] := by simpa using Array.mem_of_getElem? ht
        have hall : ([5, 5].all fun u => !Tryd.prog.wantsStandIn u) = true := by kernel_rfl
        exact (show Tryd.prog.wantsStandIn t = false by simpa using List.all_eq_true.1 hall t hm)⟩)
    (by as_aux_lemma => kernel_rfl)
#print axioms rewriteLimits_card
end Go.Proofs.YtpejnnnkamodbaaDoor
