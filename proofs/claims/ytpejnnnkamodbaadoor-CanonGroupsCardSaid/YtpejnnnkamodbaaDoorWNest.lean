/- Rows of rows of numbers of the call's own: a new empty row, a number more in one of them. -/
import Derived.Test.YtpejnnnkamodbaaDoorWGroupsP
import Derived.Test.YtpejnnnkamodbaaDoorWSome
import Derived.Maps.AppendAt
namespace Go.Proofs.YtpejnnnkamodbaaDoor
open Go Go.RowKit Go.Maps Go.WideMaps Go.Proofs.YtpejnnnkamodbaaDoorW.PrintWords Go.Proofs.YtpejnnnkamodbaaDoorW.PrintLast

def encN (n : Nat) : Value := .int .i64 (n : Int)
def nilV : Value := .slice none 0 0
structure Nest (w : World) (B : Nat) (v : Value) (vs : List Value) (gs : List (List Nat)) : Prop where
  out : w.ownsRow B 30 1 v vs.length vs
  len : vs.length = gs.length
  inn : ∀ k, k < gs.length → w.ownsRow B 3 1 (vs.getD k nilV) (grp gs k).length ((grp gs k).map encN)
  dis : ∀ i j, i < gs.length → j < gs.length → i ≠ j → ∀ b, (vs.getD i nilV).ownBlock = some b → (vs.getD j nilV).ownBlock ≠ some b
theorem nest_nil (w : World) (B : Nat) : Nest w B nilV [] [] := ⟨⟨rfl, .inl ⟨rfl, rfl⟩⟩, rfl, fun k h => (by simp at h), fun i j h => (by simp at h)⟩
theorem own_ne_low {w : World} {B e s n : Nat} {v : Value} {xs : List Value} (h : w.ownsRow B e s v n xs) {row : Option Nat} (hr : ∀ r, row = some r → r < B) : v.ownBlock = none ∨ v.ownBlock ≠ row := by
  cases hv : v.ownBlock with
  | none => exact Or.inl rfl
  | some k =>
    right
    intro e
    have h1 := hr k e.symm
    have h2 := own_base h k hv
    omega
theorem Nest.kept {w w' : World} {B : Nat} {v : Value} {vs : List Value} {gs : List (List Nat)} {row : Option Nat} (h : Nest w B v vs gs) (hg : w.grownBy w' row) (hr : ∀ r, row = some r → r < B) : Nest w' B v vs gs :=
  ⟨h.out.kept hg (own_ne_low h.out hr), h.len, fun k hk => (h.inn k hk).kept hg (own_ne_low (h.inn k hk) hr), h.dis⟩
theorem Nest.below {w w' : World} {B : Nat} {v : Value} {vs : List Value} {gs : List (List Nat)} (h : Nest w B v vs gs) (hb : Below w.heap.size w w') : Nest w' B v vs gs :=
  h.kept (row := none) (grown_below hb) (fun r e => by cases e)
theorem Nest.alloc {w : World} {B : Nat} {v : Value} {vs : List Value} {gs : List (List Nat)} (h : Nest w B v vs gs) (o : Obj) : Nest (w.alloc o) B v vs gs :=
  h.below ((Below.refl _ _).alloc (Nat.le_refl _) o)
theorem Nest.form {w : World} {B : Nat} {v : Value} {vs : List Value} {gs : List (List Nat)} (h : Nest w B v vs gs) : ∃ A c, v = .slice A vs.length c := by
  rcases h.out.2 with ⟨hv, hn⟩ | ⟨g, cap, cur, hv, _⟩
  · refine ⟨none, 0, ?_⟩
    first | rw [hv, hn] | (rw [hn]; exact hv) | (rw [hv]; exact hn)
  · exact ⟨_, _, hv⟩
theorem own_cell {w : World} {B e n G cap : Nat} {xs : List Value} (h : w.ownsRow B e 1 (.slice (some ⟨G, 0, none⟩) n cap) n xs) {j : Nat} {u : Value} (hj : xs[j]? = some u) : w.cell? ⟨G, j, none⟩ = some u := by
  rcases h.2 with ⟨hv, _⟩ | ⟨g, cap', cur, hv, hg, hb, hc, hm, hz, ht⟩
  · cases hv
  · cases hv
    have hl := h.1
    have hjl := (List.getElem?_eq_some_iff.1 hj).1
    rw [cell_row hb, ← Array.getElem?_toList]
    have e1 : cur.toList[j]? = (cur.toList.take (n * 1))[j]? := by rw [List.getElem?_take, if_pos (by omega)]
    rw [e1, ht]
    exact hj
theorem own_frozen {w : World} {B e n G cap : Nat} {xs : List Value} (h : w.ownsRow B e 1 (.slice (some ⟨G, 0, none⟩) n cap) n xs) (j : Nat) : w.frozen? ⟨G, j, none⟩ = false := by
  rcases h.2 with ⟨hv, _⟩ | ⟨g, cap', cur, hv, hg, hb, hc, hm, hz, ht⟩
  · cases hv
  · cases hv
    exact blk_frozen hb j
theorem own_some {w : World} {B e n : Nat} {v : Value} {xs : List Value} (h : w.ownsRow B e 1 v n xs) (hn : 0 < n) : ∃ G cap, v = .slice (some ⟨G, 0, none⟩) n cap ∧ G < w.heap.size ∧ B ≤ G := by
  rcases h.2 with ⟨hv, h0⟩ | ⟨g, cap', cur, hv, hg, hb, hc, hm, hz, ht⟩
  · exfalso; first | omega | (simp_all)
  · exact ⟨g, cap', hv, blk_lt hb, hg⟩
theorem set_grown (w : World) (g i : Nat) (u : Value) : w.grownBy (w.setCell ⟨g, i, none⟩ u) (some g) := by
  refine ⟨rfl, rfl, rfl, by simp [World.setCell], fun k hk hne => ?_⟩
  exact Below.heap_setCell w ⟨g, i, none⟩ u k (fun e => hne (by first | rw [e] | exact congrArg some e | exact congrArg some e.symm))
theorem getD_snoc (vs : List Value) (u : Value) (k : Nat) : (vs ++ [u]).getD k nilV = if k < vs.length then vs.getD k nilV else if k = vs.length then u else nilV := by
  by_cases h : k < vs.length
  · rw [if_pos h, List.getD_eq_getElem?_getD, List.getElem?_append_left h, ← List.getD_eq_getElem?_getD]
  · rw [if_neg h]
    by_cases h2 : k = vs.length
    · subst h2; simp [List.getD]
    · rw [if_neg h2, List.getD_eq_getElem?_getD, List.getElem?_eq_none (by simp; omega)]
      rfl
theorem grp_snoc (gs : List (List Nat)) (k : Nat) : grp (gs ++ [[]]) k = if k < gs.length then grp gs k else [] := by
  show (gs ++ [[]]).getD k [] = _
  by_cases h : k < gs.length
  · rw [if_pos h, List.getD_eq_getElem?_getD, List.getElem?_append_left h, ← List.getD_eq_getElem?_getD]
    rfl
  · rw [if_neg h]
    by_cases h2 : k = gs.length
    · subst h2; simp [List.getD]
    · rw [List.getD_eq_getElem?_getD, List.getElem?_eq_none (by simp; omega)]
      rfl
theorem nest_snoc {w w' : World} {B : Nat} {v v' : Value} {vs : List Value} {gs : List (List Nat)} (h : Nest w B v vs gs) (ho : w'.ownsRow B 30 1 v' (vs.length + 1) (vs ++ [nilV])) (hg : w.grownBy w' v.ownBlock) : Nest w' B v' (vs ++ [nilV]) (gs ++ [[]]) := by
  have hlen := h.len
  refine ⟨by rw [List.length_append, List.length_singleton]; exact ho, by simp [hlen], fun k hk => ?_, fun i j hi hj hij b hb => ?_⟩
  · rw [getD_snoc, grp_snoc, hlen]
    by_cases hkl : k < gs.length
    · rw [if_pos hkl, if_pos hkl]
      exact (h.inn k hkl).kept hg (own_type_ne (h.inn k hkl) h.out (by decide))
    · rw [if_neg hkl, if_neg hkl]
      have : (if k = gs.length then nilV else nilV) = nilV := by split <;> rfl
      rw [this]
      exact ⟨rfl, .inl ⟨rfl, rfl⟩⟩
  · rw [getD_snoc, hlen] at hb ⊢
    rw [List.length_append, List.length_singleton] at hi hj
    by_cases hi' : i < gs.length
    · rw [if_pos hi'] at hb
      by_cases hj' : j < gs.length
      · rw [if_pos hj']; exact h.dis i j hi' hj' hij b hb
      · rw [if_neg hj']
        have : (if j = gs.length then nilV else nilV) = nilV := by split <;> rfl
        rw [this]
        simp [nilV, Value.ownBlock]
    · rw [if_neg hi'] at hb
      have : (if i = gs.length then nilV else nilV) = nilV := by split <;> rfl
      rw [this] at hb
      simp [nilV, Value.ownBlock] at hb
theorem nest_put {w w' : World} {B G cap k n : Nat} {v' : Value} {vs : List Value} {gs : List (List Nat)} (h : Nest w B (.slice (some ⟨G, 0, none⟩) vs.length cap) vs gs) (hk : k < gs.length)
    (ho : w'.ownsRow B 3 1 v' ((grp gs k).length + 1) ((grp gs k).map encN ++ [encN n])) (hg : w.grownBy w' (vs.getD k nilV).ownBlock) (hown : v'.ownBlock = (vs.getD k nilV).ownBlock ∨ v'.ownBlock = some w.heap.size) :
    Nest (w'.setCell ⟨G, k, none⟩ v') B (.slice (some ⟨G, 0, none⟩) vs.length cap) (vs.set k v') (upd gs k n) := by
  have hlen := h.len
  have hout' := h.out.kept hg (own_type_ne h.out (h.inn k hk) (by decide))
  have hsg := set_grown w' G k v'
  have hne3 : ∀ {u : Value} {m : Nat} {xs : List Value}, w'.ownsRow B 3 1 u m xs → u.ownBlock = none ∨ u.ownBlock ≠ some G := fun hu => by
    rcases own_type_ne hu hout' (by decide) with h1 | h1
    · exact Or.inl h1
    · exact Or.inr h1
  have hgs : ∀ j, j ≠ k → (vs.set k v').getD j nilV = vs.getD j nilV := fun j hj => by
    rw [List.getD_eq_getElem?_getD, List.getElem?_set_ne (Ne.symm hj), ← List.getD_eq_getElem?_getD]
  have hgk : (vs.set k v').getD k nilV = v' := by
    rw [List.getD_eq_getElem?_getD, List.getElem?_set_self (by omega)]
    rfl
  refine ⟨by rw [List.length_set]; exact own_put hout' k v', by rw [List.length_set, upd_len, hlen], fun j hj => ?_, fun i j hi hj hij b hb => ?_⟩
  · rw [upd_len] at hj
    by_cases e : j = k
    · subst e
      rw [hgk, upd_same hk, List.length_append, List.length_singleton, List.map_append]
      exact ho.kept hsg (hne3 ho)
    · rw [hgs j e, upd_other e]
      have h1 := (h.inn j hj).kept hg (by
        cases hb : (vs.getD j nilV).ownBlock with
        | none => exact Or.inl rfl
        | some b => exact Or.inr (fun e2 => h.dis j k hj hk e b hb e2.symm))
      exact h1.kept hsg (hne3 h1)
  · rw [upd_len] at hi hj
    by_cases ei : i = k
    · subst ei
      rw [hgk] at hb
      rw [hgs j (Ne.symm hij)]
      rcases hown with e | e
      · rw [e] at hb; exact h.dis i j hi hj hij b hb
      · rw [e] at hb
        cases hb
        intro e2
        have := own_lt (h.inn j hj) _ e2
        omega
    · rw [hgs i ei] at hb
      by_cases ej : j = k
      · subst ej
        rw [hgk]
        rcases hown with e | e
        · rw [e]; exact h.dis i j hi hj hij b hb
        · rw [e]
          intro e2
          cases e2
          have := own_lt (h.inn i hi) _ hb
          omega
      · rw [hgs j ej]; exact h.dis i j hi hj hij b hb
#print axioms nest_put
end Go.Proofs.YtpejnnnkamodbaaDoor
