/- Plain law of CanonGroups: the numbers that are laid for the groups. -/
import Derived.Test.YtpejnnnkamodbaaDoorWGroups
namespace Go.Proofs.YtpejnnnkamodbaaDoor
open Go
open PCanonEqual (S49 S40)

/-- Groups below k, and the first j of group k, have their numbers. -/
structure GA (N : Nat) (gs : List (List Nat)) (k j : Nat) (a : List Int) : Prop where
  len : a.length = N
  old : ∀ k', k' < k → ∀ m ∈ grp gs k', a.getD m 0 = (k' : Int) + 1
  zero : ∀ m, m < N → (∀ k', k' < k → m ∉ grp gs k') → m ∉ (grp gs k).take j → a.getD m 0 = 0
  now : ∀ m ∈ (grp gs k).take j, a.getD m 0 = (k : Int) + 1
theorem ga_start (N : Nat) (gs : List (List Nat)) : GA N gs 0 0 (List.replicate N 0) :=
  ⟨List.length_replicate, fun k' h => (by omega), fun m hm _ _ => by simp [List.getD, hm], fun m hm => by simp at hm⟩
theorem ga_next {N : Nat} {gs : List (List Nat)} {k : Nat} {a : List Int} (h : GA N gs k (grp gs k).length a) : GA N gs (k + 1) 0 a := by
  have ht : (grp gs k).take (grp gs k).length = grp gs k := List.take_length
  refine ⟨h.len, fun k' hk' m hm => ?_, fun m hm hn _ => ?_, fun m hm => by simp at hm⟩
  · by_cases e : k' = k
    · subst e
      exact h.now m (by rw [ht]; exact hm)
    · exact h.old k' (by omega) m hm
  · exact h.zero m hm (fun k' hk' => hn k' (by omega)) (by rw [ht]; exact hn k (by omega))
theorem set_getD (a : List Int) (m m' : Nat) (z : Int) (h : m < a.length) : (a.set m z).getD m' 0 = if m' = m then z else a.getD m' 0 := by
  by_cases e : m' = m
  · subst e
    rw [if_pos rfl, List.getD_eq_getElem?_getD, List.getElem?_set_self h]
    rfl
  · rw [if_neg e, List.getD_eq_getElem?_getD, List.getElem?_set_ne (Ne.symm e), ← List.getD_eq_getElem?_getD]
theorem grp_uniq {nm : Nat → ByteArray × Int} {n : Nat} {gs : List (List Nat)} (h : GP nm n gs) {k k' m : Nat} (hk : k < gs.length) (hk' : k' < gs.length) (h1 : m ∈ grp gs k) (h2 : m ∈ grp gs k') : k = k' :=
  (h.eq k k' hk hk' m h1 m h2).1 rfl
theorem take_mem_lt {g : List Nat} (hp : g.Pairwise (· < ·)) {j : Nat} (hj : j < g.length) : ∀ m ∈ g.take j, m < g[j] := by
  intro m hm
  obtain ⟨i, hi, rfl⟩ := List.mem_iff_getElem.1 hm
  rw [List.length_take] at hi
  rw [List.getElem_take]
  exact List.pairwise_iff_getElem.1 hp i j (by omega) hj (by omega)
theorem grp_none {gs : List (List Nat)} {k : Nat} (h : ¬ k < gs.length) : grp gs k = [] := by
  show gs.getD k [] = []
  rw [List.getD_eq_getElem?_getD, List.getElem?_eq_none (by omega)]
  rfl
theorem ga_zero {nm : Nat → ByteArray × Int} {N : Nat} {gs : List (List Nat)} {k j : Nat} {a : List Int} (hP : GP nm N gs) (h : GA N gs k j a) (hk : k < gs.length) (hj : j < (grp gs k).length) : a.getD (grp gs k)[j] 0 = 0 := by
  have hm : (grp gs k)[j] ∈ grp gs k := List.getElem_mem hj
  refine h.zero _ (hP.lt k hk _ hm).1 (fun k' hk' hx => ?_) (fun hx => ?_)
  · have := grp_uniq hP hk (by omega) hm hx
    omega
  · have := take_mem_lt (hP.asc k hk) hj _ hx
    omega
theorem ga_set {nm : Nat → ByteArray × Int} {N : Nat} {gs : List (List Nat)} {k j : Nat} {a : List Int} (hP : GP nm N gs) (h : GA N gs k j a) (hk : k < gs.length) (hj : j < (grp gs k).length) : GA N gs k (j + 1) (a.set (grp gs k)[j] ((k : Int) + 1)) := by
  have hm : (grp gs k)[j] ∈ grp gs k := List.getElem_mem hj
  have hmN := (hP.lt k hk _ hm).1
  have hl : (grp gs k)[j] < a.length := by rw [h.len]; exact hmN
  have htk : (grp gs k).take (j + 1) = (grp gs k).take j ++ [(grp gs k)[j]] := by rw [List.take_add_one, List.getElem?_eq_getElem hj]; rfl
  refine ⟨by rw [List.length_set]; exact h.len, fun k' hk' m hm' => ?_, fun m hmn hn ht => ?_, fun m hmt => ?_⟩
  · rw [set_getD _ _ _ _ hl, if_neg]
    · exact h.old k' hk' m hm'
    · rintro rfl
      have := grp_uniq hP hk (by omega) hm hm'
      omega
  · rw [htk, List.mem_append, List.mem_singleton] at ht
    rw [set_getD _ _ _ _ hl, if_neg (fun e => ht (Or.inr e))]
    exact h.zero m hmn hn (fun e => ht (Or.inl e))
  · rw [set_getD _ _ _ _ hl]
    rw [htk, List.mem_append, List.mem_singleton] at hmt
    by_cases e : m = (grp gs k)[j]
    · rw [if_pos e]
    · rw [if_neg e]
      rcases hmt with hmt | hmt
      · exact h.now m hmt
      · exact absurd hmt e
/-- All groups have their numbers. -/
theorem ga_end {nm : Nat → ByteArray × Int} {N : Nat} {gs : List (List Nat)} {a : List Int} (hP : GP nm N gs) (h : GA N gs gs.length 0 a) (i : Nat) (hi : i < N) :
    ((nm i).2 = 0 ∧ ∃ k, k < gs.length ∧ i ∈ grp gs k ∧ a.getD i 0 = (k : Int) + 1) ∨ ((nm i).2 ≠ 0 ∧ a.getD i 0 = 0) := by
  by_cases ho : (nm i).2 = 0
  · obtain ⟨k, hk, hm⟩ := hP.cov i hi ho
    exact Or.inl ⟨ho, k, hk, hm, h.old k hk i hm⟩
  · refine Or.inr ⟨ho, h.zero i hi (fun k' hk' hm => ho (hP.lt k' hk' i hm).2) (fun hm => by simp at hm)⟩
/-- Just those of one group are the same. -/
theorem ga_same {nm : Nat → ByteArray × Int} {N : Nat} {gs : List (List Nat)} {a : List Int} (hP : GP nm N gs) (h : GA N gs gs.length 0 a) (i j : Nat) (hi : i < N) (hj : j < N) :
    (decide ((nm i).2 = 0) && (decide ((nm j).2 = 0) && ((nm i).1.toList == (nm j).1.toList))) = (decide (a.getD i 0 > 0) && (a.getD i 0 == a.getD j 0)) := by
  rcases ga_end hP h i hi with ⟨o1, k1, hk1, m1, e1⟩ | ⟨o1, e1⟩
  · rcases ga_end hP h j hj with ⟨o2, k2, hk2, m2, e2⟩ | ⟨o2, e2⟩
    · rw [decide_eq_true o1, decide_eq_true o2, e1, e2, decide_eq_true (show (k1 : Int) + 1 > 0 by omega), Bool.true_and, Bool.true_and, Bool.true_and, Bool.eq_iff_iff, beq_iff_eq, beq_iff_eq]
      have := hP.eq k1 k2 hk1 hk2 i m1 j m2
      constructor
      · intro he
        have h2 : (nm i).1 = (nm j).1 := by
          rw [ByteArray.toList_eq, ByteArray.toList_eq] at he
          exact ByteArray.ext (Array.toList_inj.1 he)
        have := this.1 h2
        omega
      · intro he
        rw [this.2 (by omega)]
    · rw [decide_eq_true o1, decide_eq_false o2, e1, e2, decide_eq_true (show (k1 : Int) + 1 > 0 by omega)]
      have : ((k1 : Int) + 1 == 0) = false := beq_eq_false_iff_ne.mpr (by omega)
      rw [this]
      rfl
  · rw [decide_eq_false o1, e1]
    rfl
def firstG (gs : List (List Nat)) (k : Nat) : Int := if k = 0 then -1 else ((grp gs (k - 1)).headD 0 : Int)
theorem first_lt {nm : Nat → ByteArray × Int} {N : Nat} {gs : List (List Nat)} (hP : GP nm N gs) {k : Nat} (hk : k < gs.length) : firstG gs k < ((grp gs k).headD 0 : Int) := by
  unfold firstG
  by_cases h : k = 0
  · rw [if_pos h]; omega
  · rw [if_neg h]
    have := hP.heads (k - 1) (by omega)
    rw [show k - 1 + 1 = k from by omega] at this
    omega
theorem head_get {g : List Nat} (h : 0 < g.length) : g.headD 0 = g[0] := by
  cases g with
  | nil => simp at h
  | cons a t => rfl
#print axioms ga_same
end Go.Proofs.YtpejnnnkamodbaaDoor
