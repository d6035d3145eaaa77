/- Plain facts about lists of aliases that Add has made: they are valid, and every name leads somewhere at every time. -/
import Derived.Test.YtpejnnnkamodbaaDoorWAdd
namespace Go.Proofs.YtpejnnnkamodbaaDoor
open Go
open PCanonEqual (S40 z40)

theorem leads_det {f : ByteArray → Option S40} {s t : ByteArray} (h : Leads f s t) : ∀ {t' : ByteArray}, Leads f s t' → t = t' := by
  induction h with
  | done h =>
    intro t' h'
    cases h' with
    | done _ => rfl
    | step h2 _ => rw [h] at h2; cases h2
  | step h r ih =>
    intro t' h'
    cases h' with
    | done h2 => rw [h] at h2; cases h2
    | step h2 r2 =>
      rw [h] at h2
      cases h2
      exact ih r2
theorem leads_end {f : ByteArray → Option S40} {s t : ByteArray} (h : Leads f s t) : f t = none := by
  induction h with
  | done h => exact h
  | step _ _ ih => exact ih
theorem leads_again {f : ByteArray → Option S40} {s t : ByteArray} (h : Leads f s t) : Leads f t t := .done (leads_end h)
/-- Where a name leads is itself, or what an entry stands for. -/
theorem leads_from {f : ByteArray → Option S40} {s t : ByteArray} (h : Leads f s t) : t = s ∨ ∃ k a, f k = some a ∧ t = a.f1 := by
  induction h with
  | done _ => exact Or.inl rfl
  | step h r ih =>
    rcases ih with rfl | h2
    · exact Or.inr ⟨_, _, h, rfl⟩
    · exact Or.inr h2
theorem valid_iff (l : List S40) : validT l = true ↔ l.length ≤ 256 ∧ (∀ a ∈ l, rightT a = true) ∧ ∀ i, 0 < i → i < l.length → (l.getD (i - 1) z40).f2 ≤ (l.getD i z40).f2 := by
  constructor
  · intro h
    refine ⟨?_, valid_mem h, fun i h0 hi => ?_⟩
    · simp only [validT, Bool.and_eq_true, decide_eq_true_eq] at h
      exact h.1
    · simp only [validT, validFrom, Bool.and_eq_true, List.all_eq_true, List.mem_range] at h
      have h2 := (h.2 i (by omega)).2
      simp only [Nat.zero_add, Bool.not_eq_true', Bool.and_eq_false_iff, decide_eq_false_iff_not] at h2
      rcases h2 with h2 | h2
      · exact absurd h0 h2
      · omega
  · rintro ⟨h1, h2, h3⟩
    simp only [validT, validFrom, Bool.and_eq_true, List.all_eq_true, List.mem_range, decide_eq_true_eq, Nat.zero_add]
    refine ⟨h1, fun i hi => ⟨?_, ?_⟩⟩
    · have hi' : i < l.length := by omega
      have e : l.getD i z40 = l[i] := by simp [List.getD, hi']
      rw [e]
      exact h2 _ (List.getElem_mem hi')
    · simp only [Bool.not_eq_true', Bool.and_eq_false_iff, decide_eq_false_iff_not]
      by_cases h0 : 0 < i
      · right
        have := h3 i h0 (by omega)
        omega
      · left; exact h0
theorem sorted_last {l : List S40} (h : ∀ i, 0 < i → i < l.length → (l.getD (i - 1) z40).f2 ≤ (l.getD i z40).f2) : ∀ (d i : Nat), i + d + 1 = l.length → (l.getD i z40).f2 ≤ (l.getD (l.length - 1) z40).f2
  | 0, i, hi => by
    have : i = l.length - 1 := by omega
    subst this
    exact Int.le_refl _
  | d + 1, i, hi => by
    have h1 := h (i + 1) (by omega) (by omega)
    have h2 := sorted_last h d (i + 1) (by omega)
    simp only [Nat.add_sub_cancel] at h1
    exact Int.le_trans h1 h2
theorem all_early {l : List S40} {a : S40} (hv : validT l = true) (he : earlyT l a = false) : ∀ x ∈ l, x.f2 ≤ a.f2 := by
  intro x hx
  obtain ⟨i, hi, rfl⟩ := List.mem_iff_getElem.1 hx
  have h1 := sorted_last ((valid_iff l).1 hv).2.2 (l.length - i - 1) i (by omega)
  have e : l.getD i z40 = l[i] := by simp [List.getD, hi]
  rw [e] at h1
  simp only [earlyT, Bool.and_eq_false_iff, decide_eq_false_iff_not] at he
  rcases he with he | he
  · omega
  · omega
theorem presT_add (l : List S40) (a : S40) (t : Int) : presT (l ++ [a]) t = layA t (presT l t) a := by
  unfold presT
  rw [List.foldl_append]
  rfl
theorem presT_const {l : List S40} {t t' : Int} (h : ∀ x ∈ l, x.f2 ≤ t) (h' : ∀ x ∈ l, x.f2 ≤ t') : presT l t = presT l t' := by
  unfold presT
  generalize (fun _ => none : ByteArray → Option S40) = f
  induction l generalizing f with
  | nil => rfl
  | cons x l ih =>
    rw [List.foldl_cons, List.foldl_cons]
    have e : layA t f x = layA t' f x := by
      have h1 := h x List.mem_cons_self
      have h2 := h' x List.mem_cons_self
      unfold layA
      simp only [show ¬ x.f2 > t from by omega, show ¬ x.f2 > t' from by omega, if_false]
    rw [e]
    exact ih (fun y hy => h y (List.mem_cons_of_mem _ hy)) (fun y hy => h' y (List.mem_cons_of_mem _ hy)) _
/-- Valid, and without circles at any time. -/
def Sound40 (l : List S40) : Prop := validT l = true ∧ ∀ t s, ∃ r, Leads (presT l t) s r
theorem good_nil : Sound40 [] := ⟨rfl, fun _ s => ⟨s, .done rfl⟩⟩
theorem getD_add (l : List S40) (a : S40) (i : Nat) : (l ++ [a]).getD i z40 = if i < l.length then l.getD i z40 else if i = l.length then a else z40 := by
  by_cases h : i < l.length
  · rw [if_pos h]
    simp [List.getD, List.getElem?_append_left h]
  · rw [if_neg h]
    by_cases h2 : i = l.length
    · subst h2
      simp [List.getD]
    · rw [if_neg h2]
      simp only [List.getD]
      rw [List.getElem?_eq_none (by simp; omega)]
      rfl
theorem valid_add {l : List S40} {a : S40} (hv : validT l = true) (hr : rightT a = true) (he : earlyT l a = false) (hl : l.length < 256) : validT (l ++ [a]) = true := by
  have h := (valid_iff l).1 hv
  refine (valid_iff _).2 ⟨by simp; omega, fun x hx => ?_, fun i h0 hi => ?_⟩
  · rcases List.mem_append.1 hx with h1 | h1
    · exact h.2.1 x h1
    · rw [List.mem_singleton.1 h1]; exact hr
  · rw [List.length_append, List.length_singleton] at hi
    rw [getD_add, getD_add]
    by_cases h1 : i < l.length
    · rw [if_pos h1, if_pos (by omega)]
      exact h.2.2 i h0 h1
    · rw [if_neg h1, if_pos (show i = l.length by omega), if_pos (by omega)]
      have e : i - 1 < l.length := by omega
      have e2 : l.getD (i - 1) z40 = l[i - 1] := by simp [List.getD, e]
      rw [e2]
      exact all_early hv he _ (List.getElem_mem e)
theorem lay_leads {f : ByteArray → Option S40} {a : S40} {t : Int} (ht : a.f2 ≤ t) (hf : ∀ s, ∃ r, Leads f s r) (h : a.f3 = true ∨ ∃ r, Leads (layA t f a) a.f0 r) : ∀ s, ∃ r, Leads (layA t f a) s r := by
  have hlay : ∀ s, layA t f a s = if s = a.f0 then (if a.f3 then none else some a) else f s := fun s => by
    unfold layA
    rw [if_neg (by omega)]
  intro s
  obtain ⟨r0, h0⟩ := hf s
  induction h0 with
  | done h1 =>
    rename_i s
    by_cases hs : s = a.f0
    · subst hs
      rcases h with h | h
      · exact ⟨a.f0, .done (by rw [hlay, if_pos rfl, if_pos h])⟩
      · exact h
    · exact ⟨s, .done (by rw [hlay, if_neg hs]; exact h1)⟩
  | step h1 r ih =>
    rename_i s t' b
    by_cases hs : s = a.f0
    · subst hs
      rcases h with h | h
      · exact ⟨a.f0, .done (by rw [hlay, if_pos rfl, if_pos h])⟩
      · exact h
    · obtain ⟨r1, hr1⟩ := ih
      exact ⟨r1, .step (by rw [hlay, if_neg hs]; exact h1) hr1⟩
theorem add_good {l : List S40} {a : S40} (hg : Sound40 l) (h : AddT l a 0) : Sound40 (l ++ [a]) := by
  rcases h with ⟨_, h⟩ | ⟨hv, hr, ⟨_, h⟩ | ⟨he, ⟨_, h⟩ | ⟨hl, ⟨_, _, h⟩ | ⟨hc, _⟩⟩⟩⟩
  · cases h
  · cases h
  · cases h
  · cases h
  · refine ⟨valid_add hv hr he hl, fun t => ?_⟩
    rw [presT_add]
    by_cases ht : a.f2 > t
    · unfold layA
      rw [if_pos ht]
      exact hg.2 t
    · have hall := all_early hv he
      have e : presT l t = presT l a.f2 := presT_const (fun x hx => by have := hall x hx; omega) hall
      refine lay_leads (by omega) (hg.2 t) ?_
      rcases hc with hc | hc
      · right
        obtain ⟨r, hr⟩ := Classical.not_not.1 hc
        rw [presT_add] at hr
        have e2 : layA t (presT l t) a = layA a.f2 (presT l a.f2) a := by
          unfold layA
          simp only [ht, show ¬ a.f2 > a.f2 from by omega, if_false, e]
        rw [e2]
        exact ⟨r, hr⟩
      · exact Or.inl hc
theorem follow_good {l : List S40} (hg : Sound40 l) {s : ByteArray} {t : Int} {r : ByteArray} {e : Int} (h : FollowT l s t r e) : e = 0 ∧ Leads (presT l t) s r := by
  rcases h with ⟨h, _⟩ | ⟨_, h, _⟩ | ⟨_, h1, h2⟩
  · rw [hg.1] at h; cases h
  · exact absurd (hg.2 t s) h
  · exact ⟨h2, h1⟩
#print axioms add_good
end Go.Proofs.YtpejnnnkamodbaaDoor
