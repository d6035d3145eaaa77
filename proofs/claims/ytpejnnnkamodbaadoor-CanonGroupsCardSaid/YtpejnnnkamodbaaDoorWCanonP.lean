/- Plain law of canonical names: where a name ends, as a function of the rules, the aliases and the time. -/
import Derived.Test.YtpejnnnkamodbaaDoorWRwB
import Derived.Test.YtpejnnnkamodbaaDoorWAliasB
namespace Go.Proofs.YtpejnnnkamodbaaDoor
open Go Go.Lib
open PCanonEqual (S49 z49 S40 z40)

/-! ### reduce again, and sizes -/
theorem reduce_props (l : List S49) (hr : ∀ r ∈ l, ruleT r = true) : ∀ (m : Nat) (q : ByteArray), meas q.data.toList < m → (∀ b ∈ q.data.toList, LS b) → foldB q = q → q.data.toList.length ≤ 1000 →
    foldB (reduceFrom l m q) = reduceFrom l m q ∧ (onceT l (reduceFrom l m q)).2 < 0 ∧ (reduceFrom l m q).data.toList.length ≤ q.data.toList.length := by
  intro m
  induction m with
  | zero =>
    intro q h _ _ _
    generalize meas q.data.toList = k at h
    omega
  | succ m ih =>
    intro q hm hLS hf hl
    unfold reduceFrom
    by_cases h0 : (onceT l q).2 < 0
    · rw [if_pos h0]
      exact ⟨hf, h0, Nat.le_refl _⟩
    · rw [if_neg h0]
      have hc := once_cases l q (q.size + 1) 0
      change (onceT l q).2 = -1 ∨ ∃ r ∈ l, ∃ j, atT r q j = true ∧ (onceT l q).1 = replT r q j ∧ 0 ≤ (onceT l q).2 at hc
      rcases hc with hc | ⟨r, hrm, j, hat, e1, _⟩
      · omega
      · rw [e1]
        have s1 := step_meas (hr r hrm) hLS hl hat
        have s2 := step_len (hr r hrm) hat
        have s3 := fold_LS (replT r q j).data.toList
        have s4 := len_fold (step_LS (hr r hrm) hLS hat)
        rw [← foldB_list] at s1 s3 s4
        have hff : foldB (foldB (replT r q j)) = foldB (replT r q j) := by
          unfold foldB
          simp only [fold_fold]
        have := ih (foldB (replT r q j)) (by omega) s3 hff (by omega)
        exact ⟨this.1, this.2.1, by omega⟩
theorem reduce_facts (l : List S49) (hr : ∀ r ∈ l, ruleT r = true) (s : ByteArray) (hs : s.size ≤ 256) : foldB (reduceT l s) = reduceT l s ∧ (onceT l (reduceT l s)).2 < 0 ∧ (reduceT l s).size ≤ 512 := by
  have h1 := fold_LS s.data.toList
  have h2 := fold_len s.data.toList
  have h3 : s.data.toList.length = s.size := by simp
  rw [← foldB_list] at h1 h2
  have hff : foldB (foldB s) = foldB s := by
    unfold foldB
    simp only [fold_fold]
  have := reduce_props l hr _ (foldB s) (Nat.lt_succ_self _) h1 hff (by omega)
  have z : (reduceFrom l (meas (foldB s).data.toList).succ (foldB s)).data.toList.length = (reduceFrom l (meas (foldB s).data.toList).succ (foldB s)).size := by simp
  exact ⟨this.1, this.2.1, by show (reduceFrom l (meas (foldB s).data.toList).succ (foldB s)).size ≤ 512; omega⟩
theorem reduce_stop (l : List S49) (k : Nat) (q : ByteArray) (h : (onceT l q).2 < 0) : reduceFrom l (k + 1) q = q := if_pos h
theorem reduce_same (l : List S49) (q : ByteArray) (h1 : foldB q = q) (h2 : (onceT l q).2 < 0) : reduceT l q = q := by
  have e : reduceT l q = reduceFrom l (meas (foldB q).data.toList + 1) (foldB q) := rfl
  rw [e, h1]
  generalize meas q.data.toList = k
  exact reduce_stop l k q h2
theorem reduce_again (l : List S49) (hr : ∀ r ∈ l, ruleT r = true) (s : ByteArray) (hs : s.size ≤ 256) : reduceT l (reduceT l s) = reduceT l s :=
  reduce_same l _ (reduce_facts l hr s hs).1 (reduce_facts l hr s hs).2.1

/-! ### begin, Follow, next -/
def beginT (rs : List S49) (s : ByteArray) : ByteArray × Int := if (applyT rs s).2 = 0 then (if (applyT rs s).1.size = 0 then (⟨#[]⟩, 4) else ((applyT rs s).1, 0)) else (⟨#[]⟩, (applyT rs s).2)
theorem begin_ok {rs : List S49} {s t : ByteArray} (h : beginT rs s = (t, 0)) : rulesT rs = true ∧ s.size ≤ 256 ∧ t = reduceT rs s ∧ t.size ≠ 0 := by
  unfold beginT applyT at h
  by_cases h1 : rulesT rs = true
  · by_cases h2 : s.size ≤ 256
    · simp only [if_pos h1, if_pos h2, if_true] at h
      by_cases h3 : (reduceT rs s).size = 0
      · rw [if_pos h3] at h; cases h
      · rw [if_neg h3] at h; cases h; exact ⟨h1, h2, rfl, h3⟩
    · simp only [if_pos h1, if_neg h2] at h; cases h
  · simp only [if_neg h1] at h; cases h
theorem begin_size {rs : List S49} {s : ByteArray} : (beginT rs s).1.size ≤ 512 := by
  unfold beginT applyT
  by_cases h1 : rulesT rs = true
  · by_cases h2 : s.size ≤ 256
    · simp only [if_pos h1, if_pos h2, if_true]
      have := (reduce_facts rs ((rulesT_iff rs).1 h1).2 s h2).2.2
      split
      · exact Nat.zero_le _
      · exact this
    · simp only [if_pos h1, if_neg h2]; exact Nat.zero_le _
  · simp only [if_neg h1]; exact Nat.zero_le _
theorem begin_again {rs : List S49} {s t u : ByteArray} (h : beginT rs s = (t, 0)) (h2 : beginT rs t = (u, 0)) : u = t := by
  obtain ⟨a1, a2, rfl, _⟩ := begin_ok h
  obtain ⟨_, _, rfl, _⟩ := begin_ok h2
  exact reduce_again rs ((rulesT_iff rs).1 a1).2 s a2
open Classical in
noncomputable def followF (l : List S40) (t : Int) (s : ByteArray) : ByteArray × Int := if validT l = true then (if h : ∃ r, Leads (presT l t) s r then (h.choose, 0) else (⟨#[]⟩, 11)) else (⟨#[]⟩, 1)
theorem follow_fun {l : List S40} {s : ByteArray} {t : Int} {r : ByteArray} {e : Int} (h : FollowT l s t r e) : followF l t s = (r, e) := by
  unfold followF
  rcases h with ⟨h, rfl, rfl⟩ | ⟨h, h2, rfl, rfl⟩ | ⟨h, h2, rfl⟩
  · rw [if_neg (by rw [h]; simp)]
  · rw [if_pos h, dif_neg h2]
  · have hx : ∃ r, Leads (presT l t) s r := ⟨r, h2⟩
    rw [if_pos h, dif_pos hx, leads_det h2 hx.choose_spec]
theorem follow_leads {l : List S40} {s r : ByteArray} {t : Int} (h : followF l t s = (r, 0)) : validT l = true ∧ Leads (presT l t) s r := by
  unfold followF at h
  by_cases h1 : validT l = true
  · rw [if_pos h1] at h
    by_cases h2 : ∃ r, Leads (presT l t) s r
    · rw [dif_pos h2] at h
      cases h
      exact ⟨h1, h2.choose_spec⟩
    · rw [dif_neg h2] at h; cases h
  · rw [if_neg h1] at h; cases h
theorem follow_of {l : List S40} {s r : ByteArray} {t : Int} (hv : validT l = true) (h : Leads (presT l t) s r) : followF l t s = (r, 0) := by
  have hx : ∃ r, Leads (presT l t) s r := ⟨r, h⟩
  unfold followF
  rw [if_pos hv, dif_pos hx, leads_det h hx.choose_spec]
noncomputable def nextF (rs : List S49) (l : List S40) (t : Int) (s : ByteArray) : ByteArray × Int := if (followF l t s).2 = 0 then beginT rs (followF l t s).1 else (⟨#[]⟩, (followF l t s).2)

/-! ### where it ends -/
inductive Ends (f : ByteArray → ByteArray × Int) : ByteArray → ByteArray → Int → Prop
  | fix {s : ByteArray} (h : f s = (s, 0)) : Ends f s s 0
  | err {s : ByteArray} {e : Int} (h : (f s).2 = e) (he : e ≠ 0) : Ends f s ⟨#[]⟩ e
  | step {s t r : ByteArray} {e : Int} (h : f s = (t, 0)) (hne : t ≠ s) (k : Ends f t r e) : Ends f s r e
theorem ends_det {f : ByteArray → ByteArray × Int} {s r : ByteArray} {e : Int} (h : Ends f s r e) : ∀ {r' : ByteArray} {e' : Int}, Ends f s r' e' → r = r' ∧ e = e' := by
  induction h with
  | fix h =>
    intro r' e' h'
    cases h' with
    | fix _ => exact ⟨rfl, rfl⟩
    | err h2 he => rw [h] at h2; exact absurd h2.symm he
    | step h2 hne _ => rw [h] at h2; cases h2; exact absurd rfl hne
  | err h he =>
    intro r' e' h'
    cases h' with
    | fix h2 => rw [h2] at h; exact absurd h.symm he
    | err h2 _ => exact ⟨rfl, h.symm.trans h2⟩
    | step h2 _ _ => rw [h2] at h; exact absurd h.symm he
  | step h hne k ih =>
    intro r' e' h'
    cases h' with
    | fix h2 => rw [h] at h2; cases h2; exact absurd rfl hne
    | err h2 he => rw [h] at h2; exact absurd h2.symm he
    | step h2 _ k2 => rw [h] at h2; cases h2; exact ih k2
inductive StepsQ (f : ByteArray → ByteArray × Int) : ByteArray → ByteArray → Prop
  | one {s t : ByteArray} (h : f s = (t, 0)) (hne : t ≠ s) : StepsQ f s t
  | more {s t u : ByteArray} (h : f s = (t, 0)) (hne : t ≠ s) (r : StepsQ f t u) : StepsQ f s u
theorem StepsQ.snoc {f : ByteArray → ByteArray × Int} {s t u : ByteArray} (h : StepsQ f s t) (ht : f t = (u, 0)) (hne : u ≠ t) : StepsQ f s u := by
  induction h with
  | one h hn => exact .more h hn (.one ht hne)
  | more h hn _ ih => exact .more h hn (ih ht hne)
theorem ends_no_cycle {f : ByteArray → ByteArray × Int} {s r : ByteArray} {e : Int} (h : Ends f s r e) : ∀ u, StepsQ f s u → u = s → False := by
  induction h with
  | fix h =>
    intro u hr _
    cases hr with
    | one h' hn => rw [h] at h'; cases h'; exact hn rfl
    | more h' hn _ => rw [h] at h'; cases h'; exact hn rfl
  | err h he =>
    intro u hr _
    cases hr with
    | one h' _ => rw [h'] at h; exact he h.symm
    | more h' _ _ => rw [h'] at h; exact he h.symm
  | step h hne k ih =>
    rename_i s t r e
    intro u hr hu
    cases hr with
    | one h' hn =>
      rw [h] at h'
      cases h'
      exact hn hu
    | more h' hn r' =>
      rw [h] at h'
      cases h'
      exact ih t (r'.snoc (by rw [hu]; exact h) (by rw [hu]; exact hn)) rfl
theorem ends_iff {f : ByteArray → ByteArray × Int} {s t r : ByteArray} {e : Int} (h : f s = (t, 0)) (hne : t ≠ s) : Ends f s r e ↔ Ends f t r e :=
  ⟨fun hl => by
    cases hl with
    | fix h2 => rw [h] at h2; cases h2; exact absurd rfl hne
    | err h2 he => rw [h] at h2; exact absurd h2.symm he
    | step h2 _ k2 => rw [h] at h2; cases h2; exact k2, fun k => .step h hne k⟩
open Classical in
noncomputable def endF (f : ByteArray → ByteArray × Int) (s : ByteArray) : ByteArray × Int := if h : ∃ p : ByteArray × Int, Ends f s p.1 p.2 then h.choose else (⟨#[]⟩, 11)
theorem end_of {f : ByteArray → ByteArray × Int} {s r : ByteArray} {e : Int} (h : Ends f s r e) : endF f s = (r, e) := by
  have hx : ∃ p : ByteArray × Int, Ends f s p.1 p.2 := ⟨(r, e), h⟩
  unfold endF
  rw [dif_pos hx]
  obtain ⟨h1, h2⟩ := ends_det h hx.choose_spec
  exact Prod.ext h1.symm h2.symm
theorem end_none {f : ByteArray → ByteArray × Int} {s : ByteArray} (h : ∀ r e, ¬ Ends f s r e) : endF f s = (⟨#[]⟩, 11) := by
  unfold endF
  rw [dif_neg]
  rintro ⟨p, hp⟩
  exact h _ _ hp
theorem end_cases (f : ByteArray → ByteArray × Int) (s : ByteArray) : Ends f s (endF f s).1 (endF f s).2 ∨ ((∀ r e, ¬ Ends f s r e) ∧ endF f s = (⟨#[]⟩, 11)) := by
  by_cases h : ∃ p : ByteArray × Int, Ends f s p.1 p.2
  · obtain ⟨p, hp⟩ := h
    rw [end_of hp]
    exact Or.inl hp
  · have h' : ∀ r e, ¬ Ends f s r e := fun r e hr => h ⟨(r, e), hr⟩
    exact Or.inr ⟨h', end_none h'⟩
theorem end_step {f : ByteArray → ByteArray × Int} {s t : ByteArray} (h : f s = (t, 0)) (hne : t ≠ s) : endF f s = endF f t := by
  rcases end_cases f t with h1 | ⟨h1, h2⟩
  · rw [end_of ((ends_iff h hne).2 h1)]
  · rw [h2, end_none fun r e hr => h1 r e ((ends_iff h hne).1 hr)]
/-- The canonical name of a text, or the error. -/
noncomputable def nameF (rs : List S49) (l : List S40) (s : ByteArray) (t : Int) : ByteArray × Int :=
  if rulesT rs = true ∧ validT l = true then (if (beginT rs s).2 = 0 then endF (nextF rs l t) (beginT rs s).1 else (⟨#[]⟩, (beginT rs s).2)) else (⟨#[]⟩, 1)
/-- A text that begin has made: what comes next is itself, or what rules make of a name that an entry stands for. -/
theorem next_mem {rs : List S49} {l : List S40} {t : Int} {s0 s u : ByteArray} (hs : beginT rs s0 = (s, 0)) (h : nextF rs l t s = (u, 0)) : u = s ∨ (∃ a ∈ l, beginT rs a.f1 = (u, 0)) := by
  unfold nextF at h
  by_cases h1 : (followF l t s).2 = 0
  · rw [if_pos h1] at h
    have h2 := (follow_leads (show followF l t s = ((followF l t s).1, 0) from Prod.ext rfl h1)).2
    rcases leads_from h2 with h3 | ⟨k, a, h3, h4⟩
    · rw [h3] at h
      exact Or.inl (begin_again hs h)
    · rw [h4] at h
      exact Or.inr ⟨a, (presT_mem l t k a h3).1, h⟩
  · rw [if_neg h1] at h
    simp only [Prod.mk.injEq] at h
    exact absurd h.2 h1
theorem next_begun {rs : List S49} {l : List S40} {t : Int} {s u : ByteArray} (h : nextF rs l t s = (u, 0)) : ∃ s0, beginT rs s0 = (u, 0) := by
  unfold nextF at h
  by_cases h1 : (followF l t s).2 = 0
  · rw [if_pos h1] at h
    exact ⟨_, h⟩
  · rw [if_neg h1] at h
    simp only [Prod.mk.injEq] at h
    exact absurd h.2 h1
/-- Two texts are the same. -/
noncomputable def sameF (rs : List S49) (l : List S40) (a b : ByteArray) (t : Int) : Bool := decide ((nameF rs l a t).2 = 0) && (decide ((nameF rs l b t).2 = 0) && ((nameF rs l a t).1.toList == (nameF rs l b t).1.toList))
#print axioms next_mem
end Go.Proofs.YtpejnnnkamodbaaDoor
