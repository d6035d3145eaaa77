/- The table of letters with marks, as the program fills it: in whatever order the groups come. No program stands in this file. -/
import Derived.Test.YtpejnnnkamodbaaDoorWPlain
import Derived.Test.YtpejnnnkamodbaaDoorWLaws
namespace Go.Proofs.YtpejnnnkamodbaaDoor
open Go Go.Lib Go.RowKit Go.Maps

/-- The literal's pairs. -/
def gpairs : List (List UInt8 × List UInt8) := [([97], [195, 160, 195, 161, 195, 162, 195, 163]), ([97, 97], [195, 165]), ([97, 101], [195, 164, 195, 166]), ([99], [195, 167]), ([101], [195, 168, 195, 169, 195, 170, 195, 171]), ([105], [195, 172, 195, 173, 195, 174, 195, 175]), ([110], [195, 177]), ([111], [195, 178, 195, 179, 195, 180, 195, 181]), ([111, 101], [195, 182, 195, 184]), ([115, 115], [195, 159]), ([117], [195, 185, 195, 186, 195, 187]), ([117, 101], [195, 188]), ([121], [195, 189, 195, 191]), ([], [39, 226, 128, 153, 46])]
/-- What the literal of 'plain' reads as. -/
def plainD {H : Type} : DataW H := gpairs.foldl (fun D p => D.put (.string p.1) (.lit (.string p.2))) (.map [])
theorem atKey_foldS {H : Type} : ∀ (L : List (List UInt8 × List UInt8)) (D : DataW H), IsMap D → ∀ (l : List UInt8) (zd : DataW H),
    (∃ p ∈ L, p.1 = l ∧ (L.foldl (fun D p => D.put (.string p.1) (.lit (.string p.2))) D).atKey (.string l) zd = .lit (.string p.2)) ∨
    (L.foldl (fun D p => D.put (.string p.1) (.lit (.string p.2))) D).atKey (.string l) zd = D.atKey (.string l) zd
  | [], _, _, _, _ => Or.inr rfl
  | p :: L, D, hD, l, zd => by
    rcases atKey_foldS L (D.put (.string p.1) (.lit (.string p.2))) (hD.put _ _) l zd with ⟨q, hq, h1, h2⟩ | h
    · exact Or.inl ⟨q, List.mem_cons_of_mem _ hq, h1, h2⟩
    · by_cases e : p.1 = l
      · refine Or.inl ⟨p, by simp, e, ?_⟩
        rw [List.foldl_cons, h, ← e]
        exact atKey_put_same hD (k := .string p.1) trivial _ _
      · refine Or.inr ?_
        rw [List.foldl_cons, h]
        exact atKey_put_other (by simpa using fun h' => e h'.symm) _ _
theorem has_foldS {H : Type} : ∀ (L : List (List UInt8 × List UInt8)) (D : DataW H), IsMap D → ∀ l, (∃ p ∈ L, p.1 = l) ∨ has D (.string l) = true → has (L.foldl (fun D p => D.put (.string p.1) (.lit (.string p.2))) D) (.string l) = true
  | [], _, _, _, h => by simpa using h
  | p :: L, D, hD, l, h => by
    rw [List.foldl_cons]
    refine has_foldS L _ (hD.put _ _) l ?_
    by_cases e : p.1 = l
    · refine Or.inr ?_
      rw [← e]
      exact has_put_same hD (k := .string p.1) trivial _
    · rcases h with ⟨q, hq, h1⟩ | h
      · rcases List.mem_cons.1 hq with rfl | hq
        · exact absurd h1 e
        · exact Or.inl ⟨q, hq, h1⟩
      · refine Or.inr ?_
        rw [has_put_other (by simpa using fun h' => e h'.symm)]
        exact h
theorem plain_hit {H : Type} {l c : List UInt8} (h : ∀ zd : DataW H, plainD.atKey (.string l) zd = .lit (.string c)) : (l, c) ∈ gpairs := by
  rcases atKey_foldS gpairs (.map [] : DataW H) isMap_empty l .nil with ⟨p, hp, h1, h2⟩ | h2
  · have := (h .nil).symm.trans h2
    simp only [DataW.lit.injEq, Lit.string.injEq] at this
    rw [← h1, this]
    exact hp
  · have := (h .nil).symm.trans h2
    simp [DataW.atKey] at this
theorem plain_has {H : Type} {l : List UInt8} (h : ∃ p ∈ gpairs, p.1 = l) : has (plainD : DataW H) (.string l) = true := has_foldS gpairs _ isMap_empty l (Or.inl h)

/-- The runes of a text. -/
def runesF : Nat → List UInt8 → List Nat
  | 0, _ => []
  | f + 1, l => if l = [] then [] else (decodeL l).1 :: runesF f (l.drop (decodeL l).2)
def runes (l : List UInt8) : List Nat := runesF l.length l
theorem runesF_fuel : ∀ (f g : Nat) (l : List UInt8), l.length ≤ f → l.length ≤ g → runesF f l = runesF g l
  | 0, 0, _, _, _ => rfl
  | 0, g + 1, l, hf, _ => by
    have : l = [] := List.length_eq_zero_iff.1 (by omega)
    subst this; simp [runesF]
  | f + 1, 0, l, _, hg => by
    have : l = [] := List.length_eq_zero_iff.1 (by omega)
    subst this; simp [runesF]
  | f + 1, g + 1, l, hf, hg => by
    by_cases h : l = []
    · subst h; simp [runesF]
    · simp only [runesF, if_neg h]
      have hp := width_pos l
      rw [runesF_fuel f g _ (by rw [List.length_drop]; omega) (by rw [List.length_drop]; omega)]
theorem runes_cons (l : List UInt8) (h : l ≠ []) : runes l = (decodeL l).1 :: runes (l.drop (decodeL l).2) := by
  have hl : 0 < l.length := List.length_pos_iff.2 h
  obtain ⟨n, hn⟩ : ∃ n, l.length = n + 1 := ⟨l.length - 1, by omega⟩
  have hp := width_pos l
  unfold runes
  rw [hn]
  simp only [runesF, if_neg h]
  rw [runesF_fuel n (l.drop (decodeL l).2).length _ (by rw [List.length_drop]; omega) (Nat.le_refl _)]
/-- The same, read at places. -/
theorem runes_at (s : ByteArray) (pos : Nat) (h : pos < s.size) : runes (s.data.toList.drop pos) = (Utf8.decode s pos).1 :: runes (s.data.toList.drop (pos + (Utf8.decode s pos).2)) := by
  have hl : s.data.toList.length = s.size := by simp
  rw [runes_cons _ (by intro h0; have := congrArg List.length h0; rw [List.length_drop, hl] at this; simp at this; omega), decodeL_drop, List.drop_drop]
theorem runes_end (s : ByteArray) (pos : Nat) (h : ¬ pos < s.size) : runes (s.data.toList.drop pos) = [] := by
  have hl : s.data.toList.length = s.size := by simp
  rw [List.drop_of_length_le (by omega)]; rfl
theorem decode_w (s : ByteArray) (pos : Nat) (h : pos < s.size) : 1 ≤ (Utf8.decode s pos).2 ∧ pos + (Utf8.decode s pos).2 ≤ s.size := by
  have hl : s.data.toList.length = s.size := by simp
  have hne : s.data.toList.drop pos ≠ [] := by intro h0; have := congrArg List.length h0; rw [List.length_drop, hl] at this; simp at this; omega
  have h1 := width_pos (s.data.toList.drop pos)
  have h2 := width_le (s.data.toList.drop pos) hne
  rw [decodeL_drop] at h1 h2
  rw [List.length_drop, hl] at h2
  omega
theorem gpairs_runes : gpairs.map (fun p => (p.1, runes p.2)) = groups := by decide +kernel
theorem gpairs_short : ∀ p ∈ gpairs, p.2.length ≤ 8 := by decide

/-- 'out[r] = to' for each rune of a group. -/
def putR {H : Type} (D : DataW H) (to : List UInt8) (rs : List Nat) : DataW H := rs.foldl (fun D (r : Nat) => D.put (.int .i32 (r : Int)) (.lit (.string to))) D
theorem putR_isMap {H : Type} (to : List UInt8) : ∀ (rs : List Nat) (D : DataW H), IsMap D → IsMap (putR D to rs)
  | [], _, h => h
  | r :: rs, D, h => putR_isMap to rs (D.put (.int .i32 r) (.lit (.string to))) (h.put _ _)
theorem putR_has {H : Type} (to : List UInt8) (q : Nat) : ∀ (rs : List Nat) (D : DataW H), IsMap D → has (putR D to rs) (.int .i32 q) = (rs.contains q || has D (.int .i32 q))
  | [], _, _ => by simp [putR]
  | r :: rs, D, h => by
    have ih := putR_has to q rs (D.put (.int .i32 r) (.lit (.string to))) (h.put _ _)
    have e : putR D to (r :: rs) = putR (D.put (.int .i32 r) (.lit (.string to))) to rs := rfl
    rw [e, ih]
    by_cases e : q = r
    · subst e
      rw [has_put_same h (k := .int .i32 (q : Int)) trivial]
      simp
    · rw [has_put_other (by simp; omega)]
      have : (q == r) = false := by simpa using e
      rw [List.contains_cons, this, Bool.false_or]
theorem putR_at {H : Type} (to : List UInt8) (q : Nat) (z : DataW H) : ∀ (rs : List Nat) (D : DataW H), IsMap D → (putR D to rs).atKey (.int .i32 q) z = if rs.contains q then .lit (.string to) else D.atKey (.int .i32 q) z
  | [], _, _ => by simp [putR]
  | r :: rs, D, h => by
    have ih := putR_at to q z rs (D.put (.int .i32 r) (.lit (.string to))) (h.put _ _)
    have e : putR D to (r :: rs) = putR (D.put (.int .i32 r) (.lit (.string to))) to rs := rfl
    rw [e, ih]
    by_cases e : q = r
    · subst e
      rw [atKey_put_same h (k := .int .i32 (q : Int)) trivial]
      simp
    · rw [atKey_put_other (by simp; omega)]
      have : (q == r) = false := by simpa using e
      rw [List.contains_cons, this, Bool.false_or]

/-- What is there of a rune while some groups are still to come. -/
def lookG (left : Lit → Bool) (q : Nat) : Option (List UInt8) := (groups.find? fun g => g.2.contains q).bind fun g => if left (.string g.1) then none else some g.1
def Good {H : Type} (left : Lit → Bool) (D : DataW H) : Prop := IsMap D ∧ ∀ q : Nat, has D (.int .i32 q) = (lookG left q).isSome ∧ D.atKey (.int .i32 q) (.lit (.string [])) = .lit (.string ((lookG left q).getD []))
theorem groups_key : ∀ g ∈ groups, ∃ p ∈ gpairs, p.1 = g.1 := by decide
theorem groups_one : ∀ g ∈ groups, ∀ g' ∈ groups, g.1 = g'.1 → g = g' := by decide
theorem groups_find : ∀ g ∈ groups, ∀ q ∈ g.2, (groups.find? fun g' => g'.2.contains q) = some g := by decide
theorem good_start {H : Type} : Good (has (plainD : DataW H)) (.map [] : DataW H) := by
  refine ⟨isMap_empty, fun q => ?_⟩
  have e : lookG (has (plainD : DataW H)) q = none := by
    unfold lookG
    rw [Option.bind_eq_none_iff]
    intro g hg
    rw [plain_has (groups_key g (List.mem_of_find?_eq_some hg))]
    rfl
  rw [e]
  exact ⟨rfl, rfl⟩
theorem good_step {H : Type} {left : Lit → Bool} {D : DataW H} (h : Good left D) {l c : List UInt8} (hp : (l, c) ∈ gpairs) : Good (fun z => left z && !z.sameKey (.string l)) (putR D l (runes c)) := by
  obtain ⟨hm, hq⟩ := h
  have hg : (l, runes c) ∈ groups := by
    rw [← gpairs_runes]
    exact List.mem_map.2 ⟨(l, c), hp, rfl⟩
  refine ⟨putR_isMap _ _ _ hm, fun q => ?_⟩
  rw [putR_has _ _ _ _ hm, putR_at _ _ _ _ _ hm]
  by_cases hc : (runes c).contains q = true
  · have hf := groups_find _ hg q (by simpa using hc)
    have e : lookG (fun z => left z && !z.sameKey (.string l)) q = some l := by
      unfold lookG
      rw [hf]
      simp [Lit.sameKey]
    rw [e, hc]
    exact ⟨rfl, rfl⟩
  · have hc' : (runes c).contains q = false := by simpa using hc
    have e : lookG (fun z => left z && !z.sameKey (.string l)) q = lookG left q := by
      unfold lookG
      cases hf : groups.find? fun g => g.2.contains q with
      | none => rfl
      | some g =>
        have hgm := List.mem_of_find?_eq_some hf
        have hgq := List.find?_some hf
        have hne : g.1 ≠ l := by
          intro e1
          have := groups_one g hgm _ hg e1
          rw [this] at hgq
          exact hc hgq
        have : (Lit.string g.1).sameKey (.string l) = false := by simpa [Lit.sameKey] using hne
        simp only [Option.bind_some, this, Bool.not_false, Bool.and_true]
    rw [e, hc', Bool.false_or, (hq q).1, (hq q).2]
    exact ⟨rfl, rfl⟩
theorem good_end {H : Type} {left : Lit → Bool} {D : DataW H} (h : Good left D) (hl : ∀ kl, left kl = false) (q : Nat) : has D (.int .i32 q) = (markedR q).isSome ∧ D.atKey (.int .i32 q) (.lit (.string [])) = .lit (.string ((markedR q).getD [])) := by
  have e : lookG left q = markedR q := by
    unfold lookG markedR
    cases groups.find? fun g => g.2.contains q with
    | none => rfl
    | some g => simp [hl]
  rw [← e]
  exact h.2 q
#print axioms good_end
#print axioms good_step
end Go.Proofs.YtpejnnnkamodbaaDoor
