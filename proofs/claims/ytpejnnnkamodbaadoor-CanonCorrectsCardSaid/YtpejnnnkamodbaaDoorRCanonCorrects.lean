/- reportescrowlaw14.CanonCorrects returns true: a correction makes both names the same from its time on, and changes nothing before, for all dice. Conditions: the listed package-level variables of Go's library hold what the program's text lays in them (the card ties this); each string and slice takes fewer than 2^47 bytes (the form's reach). -/
import Derived.Test.YtpejnnnkamodbaaDoorCards
import Derived.Test.YtpejnnnkamodbaaDoorWFacts
import Derived.Test.YtpejnnnkamodbaaDoorWLaid
import Derived.Test.YtpejnnnkamodbaaDoorWCorrects
import Derived.Test.YtpejnnnkamodbaaDoorWDiceA
namespace Go.Proofs.YtpejnnnkamodbaaDoor
open Go.ChangeShapes Go.WideShapes Go.ChangeAt Go.RowKit
open Go.ChangeMaps (shut_map_nil open_string shut_string keptBut_setBlock frozen?_setBlock heap_setBlock_same)
theorem canonCorrects_own : ownKnob Tryd.prog.godebug = none := by kernel_rfl
set_option maxRecDepth 100000 in
theorem canonCorrects_lifted (os : Os) (started : os.Started) (H : Type) (enc : TypeId × Value → H) :
    ReturnsInHanded {} Tryd.checked os 14 .any (fun w args => (Rows.canonCorrectsSpec.pre enc Tryd.prog Tryd.f14 Rows.canonCorrectsRow.domain false w args ∧ laidMetH Tryd.prog Rows.canonCorrectsRow.laid w) ∧ sizedMet enc Tryd.prog Tryd.f14 (OpenSpec.ofChange Rows.canonCorrectsSpec) false w args)
      (Rows.canonCorrectsSpec.post enc Tryd.prog Tryd.f14 false true false false) := by
  refine returnsInHanded_of_change_and (C := Tryd.checked) (X := fun w _ => laidMetH Tryd.prog Rows.canonCorrectsRow.laid w) (fun _ _ _ hh h => h.of_heap hh) canonCorrects_own started (by as_aux_lemma => kernel_rfl) Tryd.func14
    (ChangeSpec.witness_shaped (enc := enc) (C := Tryd.checked) (os := os) (X := fun w _ => laidMetH Tryd.prog Rows.canonCorrectsRow.laid w) false (World.laidAll Tryd.prog os Rows.canonCorrectsRow.laid) #[.slice none 0 0] 8 (World.laidAll_os _ _ _)
      (World.shaped_of_ZipB (by as_aux_lemma => kernel_rfl) (by as_aux_lemma => kernel_rfl)) (by as_aux_lemma => kernel_rfl) (by as_aux_lemma => kernel_rfl) (by as_aux_lemma => kernel_rfl)
      (by rw [MakeChecks.laidMetH_plain _ _ _ (by as_aux_lemma => kernel_rfl)]; exact laidMet_laidAll _ (by as_aux_lemma => kernel_rfl) (by as_aux_lemma => kernel_rfl))) ?_
  intro W base args ds gs before hval0 hW _ hsz hL _
  have hval : ∀ (j : Nat) t v, Tryd.f14.params[j]? = some t → args[j]? = some v → Value.okWide Tryd.prog W .any base t v := hval0
  have hW' := hW
  obtain ⟨p, q, hA0, hV, rfl, _, _⟩ := hW
  have hA : DataW.TrodAll enc Tryd.prog W 0 (fun _ => true) true Tryd.f14.params.toList args.toList ds p := hA0
  rw [Tryd.params14] at hA hval
  obtain ⟨v0, d0, rfl, rfl, h0⟩ := trodAll_one hA
  obtain ⟨rfl, rfl⟩ := trodVars_none hV
  have hT := tabs_of_laid hL
  obtain ⟨a0, len0, cap0, rfl⟩ := okWide_slice Tryd.underlying30 (hval 0 30 v0 rfl rfl)
  have k0 := h0
  have lt0 : ∀ x ∈ p, x.block < W.heap.size := by obtain ⟨m, hm⟩ := k0; exact DataW.trod_lt m _ _ _ hm
  obtain ⟨z0, w0⟩ : ∃ zs, IsRow .i64 W a0 len0 cap0 zs := by
    obtain ⟨fuel, hf⟩ := h0
    rcases open_ints Tryd.underlying30 Tryd.underlying3 (by kernel_rfl) hf with ⟨hcs, _⟩ | ⟨x, l, c, zs, hcs, _, hl, hm, hz, _, hcell, hwz⟩
    · simp [Value.cells] at hcs
      obtain ⟨rfl, rfl, rfl⟩ := hcs
      exact ⟨[], .inl ⟨rfl, rfl, rfl, rfl⟩⟩
    · simp [Value.cells] at hcs
      obtain ⟨rfl, rfl, rfl⟩ := hcs
      exact ⟨zs, .inr ⟨_, rfl, hl, hm, by simpa using hz, hcell, hwz⟩⟩
  obtain ⟨x0, rfl, hc0, hr0⟩ := w0.reads
  simp only [List.append_nil] at hW'
  refine (canonCorrects_walk a0 cap0 x0 W hT hr0 hc0).mono fun e W' ⟨he, hb⟩ => ?_
  subst he
  exact ⟨_, rfl, _, _, _, [], _, [], hW', trodAll_mk1 (shut_bool Tryd.underlying4 _), trodAll_mk1 (Below.trod pf_laidOut (by kernel_rfl) (of_decide_eq_true (by kernel_rfl)) k0 hb lt0), rfl, hb.frame _, fun h => by cases h⟩
theorem canonCorrects_c1 : Rows.canonCorrectsRow.wf (OpenSpec.ofChange Rows.canonCorrectsSpec) = true := by kernel_rfl
theorem canonCorrects_c10 : (Rows.canonCorrectsRow.inPlace == Tryd.prog.inPlace 14) = true := by kernel_rfl
theorem canonCorrects_c11 : (Rows.canonCorrectsRow.unfollowed == Tryd.prog.unfollowed 14) = true := by kernel_rfl
theorem canonCorrects_c12 : (Rows.canonCorrectsRow.recurses == Tryd.prog.recurses 14) = true := by kernel_rfl
theorem canonCorrects_c13 : (Rows.canonCorrectsRow.named == Tryd.prog.varsNamed 14) = true := by kernel_rfl
theorem canonCorrects_closed : joinedFacts Tryd.prog 14 Tryd.f14 Rows.canonCorrectsSpec Rows.canonCorrectsRow = true := by
  unfold joinedFacts
  simp only [Bool.and_eq_true]
  exact ⟨⟨⟨⟨⟨⟨⟨⟨⟨⟨⟨⟨⟨⟨⟨⟨⟨⟨⟨⟨⟨⟨⟨⟨⟨⟨⟨⟨⟨⟨⟨canonCorrects_c1, pf_laidOut⟩, pf_mapsRowed⟩, (by as_aux_lemma => kernel_rfl)⟩, (by as_aux_lemma => kernel_rfl)⟩, (by as_aux_lemma => kernel_rfl)⟩, pf_stops⟩, (by as_aux_lemma => kernel_rfl)⟩, pf_stopKnobs⟩, canonCorrects_c10⟩, canonCorrects_c11⟩, canonCorrects_c12⟩, canonCorrects_c13⟩, (by as_aux_lemma => kernel_rfl)⟩, (by as_aux_lemma => kernel_rfl)⟩, (by as_aux_lemma => kernel_rfl)⟩, (by as_aux_lemma => kernel_rfl)⟩, (by as_aux_lemma => kernel_rfl)⟩, (by as_aux_lemma => kernel_rfl)⟩, (by as_aux_lemma => kernel_rfl)⟩, (by as_aux_lemma => kernel_rfl)⟩, (by as_aux_lemma => kernel_rfl)⟩, pf_plainKeys⟩, (by as_aux_lemma => kernel_rfl)⟩, pf_heard⟩, pf_mayEnter⟩, pf_lifted⟩, pf_make⟩, (by as_aux_lemma => kernel_rfl)⟩, (by as_aux_lemma => kernel_rfl)⟩, (by as_aux_lemma => kernel_rfl)⟩, (by as_aux_lemma => kernel_rfl)⟩
theorem canonCorrects_named : Tryd.prog.funcNamed "reportescrow/reportescrowlaw14.CanonCorrects" = some 14 := by kernel_rfl
theorem canonCorrects_inst : Tryd.f14.isInstance Tryd.prog Rows.canonCorrectsRow.origin Rows.canonCorrectsRow.targs := of_decide_eq_true (by kernel_rfl)
theorem canonCorrects_wrap : Tryd.f14.isWrapper Tryd.prog Rows.canonCorrectsRow.wrapper Rows.canonCorrectsRow.mainSum := by
  unfold Func.isWrapper
  rw [if_neg (by decide +kernel)]
  exact ⟨rfl, rfl⟩
theorem canonCorrects_holds : Rows.CanonCorrectsSaid :=
  OpenClaim.holds_of_wide 14 Tryd.f14 rfl rfl rfl rfl rfl rfl rfl ⟨rfl, rfl, rfl, rfl, rfl⟩ rfl rfl rfl rfl rfl canonCorrects_named Tryd.func14 canonCorrects_closed canonCorrects_inst canonCorrects_wrap
    (fun os started H enc _ => canonCorrects_lifted os started H enc)
theorem canonCorrects_card : Rows.CanonCorrectsCardSaid :=
  Claim7.holds_tied_plain_at .later [] [.data, .listed, .data, .pinned] true (true, "9db6c9b079afdd40a5af23e46c1598bc310f6aeac39bec01613b9c975a06831f") false
    canonCorrects_holds (fun _ h => by cases h) (by as_aux_lemma => kernel_rfl) (fun _ h => by cases h) canonCorrects_row_tie rfl ⟨rfl, rfl⟩ (by as_aux_lemma => kernel_rfl) rfl
    (fun f fn hf hfn => by
      obtain rfl : f = 14 := Option.some.inj (canonCorrects_named.symm.trans hf) |>.symm
      obtain rfl : fn = Tryd.f14 := (Option.some.inj (Tryd.func14.symm.trans hfn)).symm
      exact ⟨by kernel_rfl, fun j t ht => by
        rw [Tryd.params14] at ht
        have hm : t ∈ [30] := by simpa using Array.mem_of_getElem? ht
        have hall : ([30].all fun u => !Tryd.prog.wantsStandIn u) = true := by kernel_rfl
        exact (show Tryd.prog.wantsStandIn t = false by simpa using List.all_eq_true.1 hall t hm)⟩)
    (by as_aux_lemma => kernel_rfl)
#print axioms canonCorrects_card
end Go.Proofs.YtpejnnnkamodbaaDoor
