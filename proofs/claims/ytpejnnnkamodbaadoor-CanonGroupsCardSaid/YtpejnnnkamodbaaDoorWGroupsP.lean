/- Plain law of groups: what one pass over texts with their canonical names builds. -/
import Derived.Test.YtpejnnnkamodbaaDoorWCanonP
namespace Go.Proofs.YtpejnnnkamodbaaDoor
open Go

/-- The group of number k. -/
def grp (gs : List (List Nat)) (k : Nat) : List Nat := gs.getD k []
/-- n texts are done. -/
structure GP (nm : Nat → ByteArray × Int) (n : Nat) (gs : List (List Nat)) : Prop where
  ne : ∀ k, k < gs.length → grp gs k ≠ []
  asc : ∀ k, k < gs.length → (grp gs k).Pairwise (· < ·)
  lt : ∀ k, k < gs.length → ∀ i ∈ grp gs k, i < n ∧ (nm i).2 = 0
  cov : ∀ i, i < n → (nm i).2 = 0 → ∃ k, k < gs.length ∧ i ∈ grp gs k
  eq : ∀ k k', k < gs.length → k' < gs.length → ∀ i ∈ grp gs k, ∀ j ∈ grp gs k', ((nm i).1 = (nm j).1 ↔ k = k')
  heads : ∀ k, k + 1 < gs.length → (grp gs k).headD 0 < (grp gs (k + 1)).headD 0
/-- The places that are kept. -/
structure PL (nm : Nat → ByteArray × Int) (n : Nat) (gs : List (List Nat)) (f : ByteArray → Option Int) : Prop where
  some_ : ∀ q z, f q = some z → ∃ k, k < gs.length ∧ z = (k : Int) ∧ ∃ i ∈ grp gs k, (nm i).1 = q
  none_ : ∀ q, f q = none → ∀ i, i < n → (nm i).2 = 0 → (nm i).1 ≠ q
theorem gp_start (nm : Nat → ByteArray × Int) : GP nm 0 [] := ⟨fun k h => by simp at h, fun k h => by simp at h, fun k h => by simp at h, fun i h => by omega, fun k _ h => by simp at h, fun k h => by simp at h⟩
theorem pl_start (nm : Nat → ByteArray × Int) : PL nm 0 [] (fun _ => none) := ⟨fun q z h => (by cases h), fun q _ i h => (by omega)⟩
theorem gp_skip {nm : Nat → ByteArray × Int} {n : Nat} {gs : List (List Nat)} (h : GP nm n gs) (hn : (nm n).2 ≠ 0) : GP nm (n + 1) gs :=
  ⟨h.ne, h.asc, fun k hk i hi => ⟨by have := (h.lt k hk i hi).1; omega, (h.lt k hk i hi).2⟩, fun i hi ho => h.cov i (by
    by_cases e : i = n
    · subst e; exact absurd ho hn
    · omega) ho, h.eq, h.heads⟩
theorem pl_skip {nm : Nat → ByteArray × Int} {n : Nat} {gs : List (List Nat)} {f : ByteArray → Option Int} (h : PL nm n gs f) (hn : (nm n).2 ≠ 0) : PL nm (n + 1) gs f :=
  ⟨h.some_, fun q hq i hi ho => h.none_ q hq i (by
    by_cases e : i = n
    · subst e; exact absurd ho hn
    · omega) ho⟩
def upd (gs : List (List Nat)) (k n : Nat) : List (List Nat) := gs.set k (grp gs k ++ [n])
theorem upd_len (gs : List (List Nat)) (k n : Nat) : (upd gs k n).length = gs.length := by simp [upd]
theorem upd_same {gs : List (List Nat)} {k n : Nat} (h : k < gs.length) : grp (upd gs k n) k = grp gs k ++ [n] := by
  unfold upd
  show (gs.set k _).getD k [] = _
  rw [List.getD_eq_getElem?_getD, List.getElem?_set_self h]
  rfl
theorem upd_other {gs : List (List Nat)} {k n k' : Nat} (h : k' ≠ k) : grp (upd gs k n) k' = grp gs k' := by
  unfold upd
  show (gs.set k _).getD k' [] = gs.getD k' []
  rw [List.getD_eq_getElem?_getD, List.getElem?_set_ne (Ne.symm h), ← List.getD_eq_getElem?_getD]
theorem headD_snoc {l : List Nat} (h : l ≠ []) (n : Nat) : (l ++ [n]).headD 0 = l.headD 0 := by
  cases l with
  | nil => exact absurd rfl h
  | cons a l => rfl
theorem mem_upd {gs : List (List Nat)} {k n k' i : Nat} (hk : k < gs.length) : i ∈ grp (upd gs k n) k' ↔ i ∈ grp gs k' ∨ (k' = k ∧ i = n) := by
  by_cases h : k' = k
  · subst h
    rw [upd_same hk, List.mem_append, List.mem_singleton]
    simp
  · rw [upd_other h]
    simp [h]
/-- A text of a group that is there. -/
theorem gp_old {nm : Nat → ByteArray × Int} {n k : Nat} {gs : List (List Nat)} (h : GP nm n gs) (hk : k < gs.length) (ho : (nm n).2 = 0) (hi : ∃ i ∈ grp gs k, (nm i).1 = (nm n).1) : GP nm (n + 1) (upd gs k n) := by
  obtain ⟨i0, hi0, he0⟩ := hi
  have hgk : ∀ k', k' < gs.length → ∀ i ∈ grp gs k', ((nm i).1 = (nm n).1 ↔ k' = k) := fun k' hk' i hi => by
    rw [← he0]; exact h.eq k' k hk' hk i hi i0 hi0
  refine ⟨fun k' hk' => ?_, fun k' hk' => ?_, fun k' hk' i hi => ?_, fun i hi hoi => ?_, fun k1 k2 h1 h2 i hi j hj => ?_, fun k' hk' => ?_⟩
  · rw [upd_len] at hk'
    by_cases e : k' = k
    · subst e; rw [upd_same hk']; simp
    · rw [upd_other e]; exact h.ne k' hk'
  · rw [upd_len] at hk'
    by_cases e : k' = k
    · subst e
      rw [upd_same hk']
      exact List.pairwise_append.2 ⟨h.asc k' hk', List.pairwise_singleton _ _, fun a ha b hb => by rw [List.mem_singleton.1 hb]; exact (h.lt k' hk' a ha).1⟩
    · rw [upd_other e]; exact h.asc k' hk'
  · rw [upd_len] at hk'
    rcases (mem_upd hk).1 hi with hi | ⟨_, rfl⟩
    · exact ⟨by have := (h.lt k' hk' i hi).1; omega, (h.lt k' hk' i hi).2⟩
    · exact ⟨by omega, ho⟩
  · by_cases e : i = n
    · subst e
      exact ⟨k, by rw [upd_len]; exact hk, (mem_upd hk).2 (Or.inr ⟨rfl, rfl⟩)⟩
    · obtain ⟨k', hk', hm⟩ := h.cov i (by omega) hoi
      exact ⟨k', by rw [upd_len]; exact hk', (mem_upd hk).2 (Or.inl hm)⟩
  · rw [upd_len] at h1 h2
    rcases (mem_upd hk).1 hi with hi' | ⟨e1, e2⟩
    · rcases (mem_upd hk).1 hj with hj' | ⟨e3, e4⟩
      · exact h.eq k1 k2 h1 h2 i hi' j hj'
      · rw [e4, e3]
        exact hgk k1 h1 i hi'
    · rcases (mem_upd hk).1 hj with hj' | ⟨e3, e4⟩
      · rw [e2, e1]
        exact ⟨fun he => ((hgk k2 h2 j hj').1 he.symm).symm, fun he => ((hgk k2 h2 j hj').2 he.symm).symm⟩
      · rw [e1, e2, e3, e4]
        simp
  · rw [upd_len] at hk'
    have e1 : (grp (upd gs k n) k').headD 0 = (grp gs k').headD 0 := by
      by_cases e : k' = k
      · subst e; rw [upd_same (by omega), headD_snoc (h.ne k' (by omega))]
      · rw [upd_other e]
    have e2 : (grp (upd gs k n) (k' + 1)).headD 0 = (grp gs (k' + 1)).headD 0 := by
      by_cases e : k' + 1 = k
      · subst e; rw [upd_same (by omega), headD_snoc (h.ne (k' + 1) (by omega))]
      · rw [upd_other e]
    rw [e1, e2]
    exact h.heads k' hk'
theorem pl_old {nm : Nat → ByteArray × Int} {n k : Nat} {gs : List (List Nat)} {f : ByteArray → Option Int} (h : PL nm n gs f) (hk : k < gs.length) (hf : f (nm n).1 = some (k : Int)) : PL nm (n + 1) (upd gs k n) f := by
  refine ⟨fun q z hq => ?_, fun q hq i hi ho => ?_⟩
  · obtain ⟨k', hk', hz, i, hi, he⟩ := h.some_ q z hq
    exact ⟨k', by rw [upd_len]; exact hk', hz, i, (mem_upd hk).2 (Or.inl hi), he⟩
  · by_cases e : i = n
    · subst e
      intro he
      rw [he, hq] at hf
      cases hf
    · exact h.none_ q hq i (by omega) ho
theorem snoc_grp (gs : List (List Nat)) (n k : Nat) : grp (gs ++ [[n]]) k = if k < gs.length then grp gs k else if k = gs.length then [n] else [] := by
  show (gs ++ [[n]]).getD k [] = _
  by_cases h : k < gs.length
  · rw [if_pos h, List.getD_eq_getElem?_getD, List.getElem?_append_left h, ← List.getD_eq_getElem?_getD]
    rfl
  · rw [if_neg h]
    by_cases h2 : k = gs.length
    · subst h2; simp [List.getD]
    · rw [if_neg h2, List.getD_eq_getElem?_getD, List.getElem?_eq_none (by simp; omega)]
      rfl
theorem upd_snoc (gs : List (List Nat)) (n : Nat) : upd (gs ++ [[]]) gs.length n = gs ++ [[n]] := by
  unfold upd
  have e : grp (gs ++ [[]]) gs.length = [] := by show (gs ++ [[]]).getD gs.length [] = []; simp [List.getD]
  rw [e, List.set_append_right _ _ (Nat.le_refl _)]
  simp
/-- A text of a new group. -/
theorem gp_new {nm : Nat → ByteArray × Int} {n : Nat} {gs : List (List Nat)} (h : GP nm n gs) (ho : (nm n).2 = 0) (hi : ∀ i, i < n → (nm i).2 = 0 → (nm i).1 ≠ (nm n).1) : GP nm (n + 1) (gs ++ [[n]]) := by
  have hlen : (gs ++ [[n]]).length = gs.length + 1 := by simp
  have hold : ∀ k, k < gs.length → grp (gs ++ [[n]]) k = grp gs k := fun k hk => by rw [snoc_grp, if_pos hk]
  have hnew : grp (gs ++ [[n]]) gs.length = [n] := by rw [snoc_grp, if_neg (by omega), if_pos rfl]
  refine ⟨fun k hk => ?_, fun k hk => ?_, fun k hk i hm => ?_, fun i hin hoi => ?_, fun k1 k2 h1 h2 i hm j hm2 => ?_, fun k hk => ?_⟩
  · rw [hlen] at hk
    by_cases e : k < gs.length
    · rw [hold k e]; exact h.ne k e
    · obtain rfl : k = gs.length := by omega
      rw [hnew]; simp
  · rw [hlen] at hk
    by_cases e : k < gs.length
    · rw [hold k e]; exact h.asc k e
    · obtain rfl : k = gs.length := by omega
      rw [hnew]; exact List.pairwise_singleton _ _
  · rw [hlen] at hk
    by_cases e : k < gs.length
    · rw [hold k e] at hm
      exact ⟨by have := (h.lt k e i hm).1; omega, (h.lt k e i hm).2⟩
    · obtain rfl : k = gs.length := by omega
      rw [hnew, List.mem_singleton] at hm
      subst hm
      exact ⟨by omega, ho⟩
  · by_cases e : i = n
    · subst e
      exact ⟨gs.length, by omega, by rw [hnew]; simp⟩
    · obtain ⟨k, hk, hm⟩ := h.cov i (by omega) hoi
      exact ⟨k, by omega, by rw [hold k hk]; exact hm⟩
  · rw [hlen] at h1 h2
    by_cases e1 : k1 < gs.length
    · rw [hold k1 e1] at hm
      by_cases e2 : k2 < gs.length
      · rw [hold k2 e2] at hm2
        exact h.eq k1 k2 e1 e2 i hm j hm2
      · obtain rfl : k2 = gs.length := by omega
        rw [hnew, List.mem_singleton] at hm2
        subst hm2
        exact ⟨fun he => absurd he (hi i (h.lt k1 e1 i hm).1 (h.lt k1 e1 i hm).2), fun he => by omega⟩
    · obtain rfl : k1 = gs.length := by omega
      rw [hnew, List.mem_singleton] at hm
      subst hm
      by_cases e2 : k2 < gs.length
      · rw [hold k2 e2] at hm2
        exact ⟨fun he => absurd he.symm (hi j (h.lt k2 e2 j hm2).1 (h.lt k2 e2 j hm2).2), fun he => by omega⟩
      · obtain rfl : k2 = gs.length := by omega
        rw [hnew, List.mem_singleton] at hm2
        subst hm2
        simp
  · rw [hlen] at hk
    by_cases e : k + 1 < gs.length
    · rw [hold k (by omega), hold (k + 1) e]; exact h.heads k e
    · have hkl : gs.length = k + 1 := by omega
      rw [hkl] at hnew
      rw [hold k (by omega), hnew]
      show (grp gs k).headD 0 < n
      cases hg : grp gs k with
      | nil => exact absurd hg (h.ne k (by omega))
      | cons a t => exact (h.lt k (by omega) a (by rw [hg]; simp)).1
theorem pl_new {nm : Nat → ByteArray × Int} {n : Nat} {gs : List (List Nat)} {f : ByteArray → Option Int} (h : PL nm n gs f) : PL nm (n + 1) (gs ++ [[n]]) (fun q => if q = (nm n).1 then some (gs.length : Int) else f q) := by
  refine ⟨fun q z hq => ?_, fun q hq i hi ho => ?_⟩
  · by_cases e : q = (nm n).1
    · simp only [e, if_true, Option.some.injEq] at hq
      exact ⟨gs.length, by simp, hq.symm, n, by rw [snoc_grp, if_neg (by omega), if_pos rfl]; simp, e.symm⟩
    · simp only [e, if_false] at hq
      obtain ⟨k, hk, hz, i, hm, he⟩ := h.some_ q z hq
      exact ⟨k, by simp; omega, hz, i, by rw [snoc_grp, if_pos hk]; exact hm, he⟩
  · by_cases e : q = (nm n).1
    · simp only [e, if_true] at hq
      cases hq
    · simp only [e, if_false] at hq
      by_cases ei : i = n
      · subst ei; exact fun he => e he.symm
      · exact h.none_ q hq i (by omega) ho
#print axioms pl_new
end Go.Proofs.YtpejnnnkamodbaaDoor
