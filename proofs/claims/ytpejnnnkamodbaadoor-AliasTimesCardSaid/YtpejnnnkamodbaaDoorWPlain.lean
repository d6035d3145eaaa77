/- Plain facts about folded texts: what the fold of a text is, its words, and that folding twice is folding once. No program stands in this file. -/
import Derived.Lib.TrimAscii
import Derived.Lib.Fields
import Derived.Lib.Join
namespace Go.Proofs.YtpejnnnkamodbaaDoor
open Go Go.Lib

def smallR (r : Nat) : Nat := if 65 ≤ r ∧ r ≤ 90 then r + 32 else if 192 ≤ r ∧ r ≤ 221 ∧ r ≠ 215 then r + 32 else r
def letterN (c : Nat) : Bool := decide (97 ≤ c ∧ c ≤ 122) || decide (48 ≤ c ∧ c ≤ 57)
/-- What letters with marks become, by groups. -/
def groups : List (List UInt8 × List Nat) :=
  [([97], [224, 225, 226, 227]), ([97, 97], [229]), ([97, 101], [228, 230]), ([99], [231]), ([101], [232, 233, 234, 235]), ([105], [236, 237, 238, 239]), ([110], [241]),
   ([111], [242, 243, 244, 245]), ([111, 101], [246, 248]), ([115, 115], [223]), ([117], [249, 250, 251]), ([117, 101], [252]), ([121], [253, 255]), ([], [39, 8217, 46])]
def markedR (r : Nat) : Option (List UInt8) := (groups.find? fun g => g.2.contains r).map (·.1)
def foldS (r : Nat) : List UInt8 := match markedR r with | some t => t | none => if r < 128 ∧ letterN r = true then [UInt8.ofNat r] else [32]
def foldR (r : Nat) : List UInt8 := foldS (smallR r)
def letB (b : UInt8) : Bool := letterN b.toNat
/-- A letter or a space. -/
def LS (b : UInt8) : Prop := letB b = true ∨ b = 32
theorem letB_lt {b : UInt8} (h : letB b = true) : b.toNat < 128 := by
  simp only [letB, letterN, Bool.or_eq_true, decide_eq_true_eq] at h
  omega
theorem LS_lt {b : UInt8} (h : LS b) : b.toNat < 128 := by
  rcases h with h | h
  · exact letB_lt h
  · subst h; decide
theorem groups_LS : ∀ g ∈ groups, ∀ b ∈ g.1, letB b = true := by decide
theorem foldR_LS (r : Nat) : ∀ b ∈ foldR r, LS b := by
  intro b hb
  unfold foldR foldS at hb
  generalize smallR r = q at hb
  split at hb
  · rename_i t ht
    unfold markedR at ht
    obtain ⟨g, hg, rfl⟩ := Option.map_eq_some_iff.1 ht
    exact Or.inl (groups_LS g (List.mem_of_find?_eq_some hg) b hb)
  · split at hb
    · rename_i h
      simp only [List.mem_singleton] at hb
      subst hb
      left
      unfold letB
      have e : (UInt8.ofNat q).toNat = q := by simp; omega
      rw [e]
      exact h.2
    · right
      simpa using hb
theorem groups_two : ∀ g ∈ groups, g.1.length ≤ 2 := by decide
theorem foldR_len (r : Nat) : (foldR r).length ≤ 2 := by
  unfold foldR foldS
  generalize smallR r = q
  split
  · rename_i t ht
    unfold markedR at ht
    obtain ⟨g, hg, rfl⟩ := Option.map_eq_some_iff.1 ht
    exact groups_two g (List.mem_of_find?_eq_some hg)
  · split <;> simp
theorem small_letter {r : Nat} (h : letterN r = true) : smallR r = r := by
  simp only [letterN, Bool.or_eq_true, decide_eq_true_eq] at h
  unfold smallR
  rw [if_neg (by omega), if_neg (by omega)]
theorem marked_letter {r : Nat} (h : letterN r = true) : markedR r = none := by
  simp only [letterN, Bool.or_eq_true, decide_eq_true_eq] at h
  unfold markedR
  rw [Option.map_eq_none_iff, List.find?_eq_none]
  intro g hg
  simp only [groups, List.mem_cons, List.not_mem_nil, or_false] at hg
  rcases hg with rfl | rfl | rfl | rfl | rfl | rfl | rfl | rfl | rfl | rfl | rfl | rfl | rfl | rfl <;> simp <;> omega
theorem foldR_letter {b : UInt8} (h : letB b = true) : foldR b.toNat = [b] := by
  unfold letB at h
  unfold foldR
  rw [small_letter h]
  unfold foldS
  rw [marked_letter h]
  have hl : b.toNat < 128 := letB_lt h
  simp only
  rw [if_pos ⟨hl, h⟩]
  simp
theorem foldR_space : foldR 32 = [32] := by decide

/-- One step of the reading: what the rune in front becomes. -/
def piece (l : List UInt8) : List UInt8 := if decodeL l = (65533, 1) then [] else foldR (decodeL l).1
def rawL : Nat → List UInt8 → List UInt8
  | 0, _ => []
  | f + 1, l => if l = [] then [] else piece l ++ rawL f (l.drop (decodeL l).2)
/-- What the runes of a text become, before the words are cut. -/
def raw (l : List UInt8) : List UInt8 := rawL l.length l
theorem decodeN_pos (n b0 b1 b2 b3 : Nat) : 1 ≤ (decodeN n b0 b1 b2 b3).2 := by
  unfold decodeN
  repeat' split
  all_goals (simp only; omega)
theorem decodeN_le (n b0 b1 b2 b3 : Nat) (hn : 1 ≤ n) : (decodeN n b0 b1 b2 b3).2 ≤ n := by
  unfold decodeN
  repeat' split
  all_goals (simp only; omega)
theorem width_pos (l : List UInt8) : 1 ≤ (decodeL l).2 := by rw [decodeL_N]; exact decodeN_pos _ _ _ _ _
theorem width_le (l : List UInt8) (h : l ≠ []) : (decodeL l).2 ≤ l.length := by
  rw [decodeL_N]
  exact decodeN_le _ _ _ _ _ (List.length_pos_iff.2 h)
theorem rawL_fuel : ∀ (f g : Nat) (l : List UInt8), l.length ≤ f → l.length ≤ g → rawL f l = rawL g l
  | 0, 0, _, _, _ => rfl
  | 0, g + 1, l, hf, _ => by
    have : l = [] := List.length_eq_zero_iff.1 (by omega)
    subst this; simp [rawL]
  | f + 1, 0, l, _, hg => by
    have : l = [] := List.length_eq_zero_iff.1 (by omega)
    subst this; simp [rawL]
  | f + 1, g + 1, l, hf, hg => by
    by_cases h : l = []
    · subst h; simp [rawL]
    · simp only [rawL, if_neg h]
      have hp := width_pos l
      rw [rawL_fuel f g _ (by rw [List.length_drop]; omega) (by rw [List.length_drop]; omega)]
theorem raw_nil : raw [] = [] := rfl
theorem raw_cons (l : List UInt8) (h : l ≠ []) : raw l = piece l ++ raw (l.drop (decodeL l).2) := by
  have hl : 0 < l.length := List.length_pos_iff.2 h
  obtain ⟨n, hn⟩ : ∃ n, l.length = n + 1 := ⟨l.length - 1, by omega⟩
  have hp := width_pos l
  unfold raw
  rw [hn]
  simp only [rawL, if_neg h]
  rw [rawL_fuel n (l.drop (decodeL l).2).length _ (by rw [List.length_drop]; omega) (Nat.le_refl _)]
theorem raw_LS (n : Nat) : ∀ l : List UInt8, l.length ≤ n → ∀ b ∈ raw l, LS b := by
  induction n with
  | zero =>
    intro l hl b hb
    have : l = [] := List.length_eq_zero_iff.1 (by omega)
    subst this
    simp [raw_nil] at hb
  | succ n ih =>
    intro l hl b hb
    by_cases h : l = []
    · subst h; simp [raw_nil] at hb
    · rw [raw_cons l h] at hb
      have hp := width_pos l
      rcases List.mem_append.1 hb with hb | hb
      · unfold piece at hb
        split at hb
        · simp at hb
        · exact foldR_LS _ b hb
      · exact ih _ (by rw [List.length_drop]; omega) b hb
theorem raw_len (n : Nat) : ∀ l : List UInt8, l.length ≤ n → (raw l).length ≤ 2 * l.length := by
  induction n with
  | zero =>
    intro l hl
    have : l = [] := List.length_eq_zero_iff.1 (by omega)
    subst this
    simp [raw_nil]
  | succ n ih =>
    intro l hl
    by_cases h : l = []
    · subst h; simp [raw_nil]
    · rw [raw_cons l h, List.length_append]
      have hp := width_pos l
      have hw := width_le l h
      have := ih (l.drop (decodeL l).2) (by rw [List.length_drop]; omega)
      rw [List.length_drop] at this
      have hq : (piece l).length ≤ 2 := by
        unfold piece
        split
        · simp
        · exact foldR_len _
      omega
theorem raw_ls (l : List UInt8) : ∀ b ∈ raw l, LS b := raw_LS l.length l (Nat.le_refl _)
theorem foldR_ascii_le : ∀ r < 128, (foldR r).length ≤ 1 := by decide
theorem piece_ascii (b : UInt8) (t : List UInt8) (h : b.toNat < 128) : piece (b :: t) = foldR b.toNat := by
  unfold piece
  rw [decodeL_ascii b t h, if_neg (by simp; omega)]
theorem raw_ascii (b : UInt8) (t : List UInt8) (h : b.toNat < 128) : raw (b :: t) = foldR b.toNat ++ raw t := by
  rw [raw_cons _ (by simp), piece_ascii b t h, decodeL_ascii b t h]
  simp
theorem raw_letter (b : UInt8) (t : List UInt8) (h : letB b = true) : raw (b :: t) = b :: raw t := by
  rw [raw_ascii b t (letB_lt h), foldR_letter h]; rfl
theorem raw_space (t : List UInt8) : raw (32 :: t) = 32 :: raw t := by
  rw [raw_ascii 32 t (by decide)]
  have : foldR (32 : UInt8).toNat = [32] := by decide
  rw [this]; rfl
theorem raw_id : ∀ l : List UInt8, (∀ b ∈ l, LS b) → raw l = l
  | [], _ => rfl
  | b :: t, h => by
    have ih := raw_id t fun c hc => h c (List.mem_cons_of_mem _ hc)
    rcases h b (by simp) with hb | hb
    · rw [raw_letter b t hb, ih]
    · subst hb; rw [raw_space, ih]

theorem decodeL_sp (a b : List UInt8) (h : a ≠ []) : decodeL (a ++ 32 :: b) = decodeL a := by
  rw [decodeL_N, decodeL_N]
  match a, h with
  | [x], _ =>
    simp only [List.cons_append, List.nil_append, List.length_cons, List.length_nil, List.getD_cons_zero, List.getD_cons_succ, List.getD_nil]
    unfold decodeN
    simp
  | [x, y], _ =>
    simp only [List.cons_append, List.nil_append, List.length_cons, List.length_nil, List.getD_cons_zero, List.getD_cons_succ, List.getD_nil]
    unfold decodeN
    simp
  | [x, y, z], _ =>
    simp only [List.cons_append, List.nil_append, List.length_cons, List.length_nil, List.getD_cons_zero, List.getD_cons_succ, List.getD_nil]
    unfold decodeN
    simp
  | x :: y :: z :: u :: r, _ =>
    simp only [List.cons_append, List.length_append, List.length_cons, List.getD_cons_zero, List.getD_cons_succ]
    unfold decodeN
    simp
theorem raw_append_sp (n : Nat) : ∀ a b : List UInt8, a.length ≤ n → raw (a ++ 32 :: b) = raw a ++ 32 :: raw b := by
  induction n with
  | zero =>
    intro a b ha
    have : a = [] := List.length_eq_zero_iff.1 (by omega)
    subst this
    simpa [raw_nil] using raw_space b
  | succ n ih =>
    intro a b ha
    by_cases h : a = []
    · subst h
      simpa [raw_nil] using raw_space b
    · rw [raw_cons (a ++ 32 :: b) (by simp), raw_cons a h]
      have e := decodeL_sp a b h
      have ep : piece (a ++ 32 :: b) = piece a := by unfold piece; rw [e]
      have hp := width_pos a
      have hw := width_le a h
      rw [ep, e, List.drop_append_of_le_length hw, ih _ b (by rw [List.length_drop]; omega), List.append_assoc]

/-! ### words -/
theorem isSp_let {b : UInt8} (h : letB b = true) : isSp b = false := by
  have h1 : b ≠ 9 := by rintro rfl; revert h; decide
  have h2 : b ≠ 10 := by rintro rfl; revert h; decide
  have h3 : b ≠ 11 := by rintro rfl; revert h; decide
  have h4 : b ≠ 12 := by rintro rfl; revert h; decide
  have h5 : b ≠ 13 := by rintro rfl; revert h; decide
  have h6 : b ≠ 32 := by rintro rfl; revert h; decide
  simp [isSp, h1, h2, h3, h4, h5, h6]
theorem isSp_32 : isSp 32 = true := by decide
/-- A word: letters, at least one. -/
def Word (w : List UInt8) : Prop := w ≠ [] ∧ ∀ b ∈ w, letB b = true
theorem fieldsGo_words : ∀ (l cur : List UInt8), (∀ b ∈ l, LS b) → (∀ b ∈ cur, letB b = true) → ∀ w ∈ fieldsGo cur l, Word w
  | [], cur, _, hc, w, hw => by
    unfold fieldsGo at hw
    cases cur with
    | nil => simp at hw
    | cons c r => simp at hw; subst hw; exact ⟨by simp, hc⟩
  | b :: l, cur, hl, hc, w, hw => by
    have ihl : ∀ c ∈ l, LS c := fun c h => hl c (List.mem_cons_of_mem _ h)
    rcases hl b (by simp) with hb | hb
    · rw [fieldsGo_more cur b l (isSp_let hb)] at hw
      refine fieldsGo_words l (cur ++ [b]) ihl ?_ w hw
      intro c hcm
      rcases List.mem_append.1 hcm with h | h
      · exact hc c h
      · simp at h; subst h; exact hb
    · subst hb
      cases cur with
      | nil => rw [fieldsGo_sp 32 l isSp_32] at hw; exact fieldsGo_words l [] ihl (by simp) w hw
      | cons c r =>
        rw [fieldsGo_end (c :: r) 32 l isSp_32 (by simp)] at hw
        rcases List.mem_cons.1 hw with h | h
        · subst h; exact ⟨by simp, hc⟩
        · exact fieldsGo_words l [] ihl (by simp) w h
theorem fieldsGo_append_sp : ∀ (a cur b : List UInt8), fieldsGo cur (a ++ 32 :: b) = fieldsGo cur a ++ fieldsGo [] b
  | [], cur, b => by
    cases cur with
    | nil => simp [fieldsGo_sp 32 b isSp_32, fieldsGo]
    | cons c r => simp [fieldsGo_end (c :: r) 32 b isSp_32 (by simp), fieldsGo]
  | x :: a, cur, b => by
    rw [List.cons_append]
    cases hx : isSp x
    · rw [fieldsGo_more cur x _ hx, fieldsGo_more cur x _ hx]
      exact fieldsGo_append_sp a (cur ++ [x]) b
    · cases cur with
      | nil => rw [fieldsGo_sp x _ hx, fieldsGo_sp x _ hx]; exact fieldsGo_append_sp a [] b
      | cons c r => rw [fieldsGo_end (c :: r) x _ hx (by simp), fieldsGo_end (c :: r) x _ hx (by simp), fieldsGo_append_sp a [] b]; rfl
theorem fieldsGo_word : ∀ (w cur : List UInt8), (∀ b ∈ w, letB b = true) → cur ++ w ≠ [] → fieldsGo cur w = [cur ++ w]
  | [], cur, _, h => by
    cases cur with
    | nil => simp at h
    | cons c r => simp [fieldsGo]
  | b :: w, cur, hl, _ => by
    rw [fieldsGo_more cur b w (isSp_let (hl b (by simp))), fieldsGo_word w (cur ++ [b]) (fun c h => hl c (List.mem_cons_of_mem _ h)) (by simp)]
    simp
/-- The words of a text. -/
def splitT (l : List UInt8) : List (List UInt8) := fields (raw l)
/-- The folded text. -/
def foldT (l : List UInt8) : List UInt8 := join (splitT l) [32]
theorem split_words (l : List UInt8) : ∀ w ∈ splitT l, Word w := fieldsGo_words (raw l) [] (raw_ls l) (by simp)
theorem join_cons2 (w v : List UInt8) (r : List (List UInt8)) : join (w :: v :: r) [32] = w ++ 32 :: join (v :: r) [32] := by
  rw [join_cons, join_cons]
  simp [joinTail]
theorem join_LS : ∀ ws : List (List UInt8), (∀ w ∈ ws, Word w) → ∀ b ∈ join ws [32], LS b
  | [], _, b, hb => by simp [join_nil] at hb
  | [w], h, b, hb => by
    rw [join_one] at hb
    exact Or.inl ((h w (by simp)).2 b hb)
  | w :: v :: r, h, b, hb => by
    rw [join_cons2] at hb
    rcases List.mem_append.1 hb with hb | hb
    · exact Or.inl ((h w (by simp)).2 b hb)
    · rcases List.mem_cons.1 hb with hb | hb
      · exact Or.inr hb
      · exact join_LS (v :: r) (fun x hx => h x (List.mem_cons_of_mem _ hx)) b hb
theorem fields_join : ∀ ws : List (List UInt8), (∀ w ∈ ws, Word w) → fields (join ws [32]) = ws
  | [], _ => rfl
  | [w], h => by
    rw [join_one]
    have := fieldsGo_word w [] (h w (by simp)).2 (by simpa using (h w (by simp)).1)
    simpa [fields] using this
  | w :: v :: r, h => by
    rw [join_cons2]
    unfold fields
    rw [fieldsGo_append_sp]
    have h1 := fieldsGo_word w [] (h w (by simp)).2 (by simpa using (h w (by simp)).1)
    have h2 := fields_join (v :: r) (fun x hx => h x (List.mem_cons_of_mem _ hx))
    unfold fields at h2
    rw [h1, h2]
    simp
theorem split_join (ws : List (List UInt8)) (h : ∀ w ∈ ws, Word w) : splitT (join ws [32]) = ws := by
  unfold splitT
  rw [raw_id _ (join_LS ws h)]
  exact fields_join ws h
theorem fold_fold (l : List UInt8) : foldT (foldT l) = foldT l := by
  show join (splitT (join (splitT l) [32])) [32] = join (splitT l) [32]
  rw [split_join _ (split_words l)]
theorem fold_LS (l : List UInt8) : ∀ b ∈ foldT l, LS b := join_LS _ (split_words l)
theorem split_parts (a b : List UInt8) : splitT (a ++ 32 :: b) = splitT a ++ splitT b := by
  unfold splitT fields
  rw [raw_append_sp a.length a b (Nat.le_refl _), fieldsGo_append_sp]
theorem fold_word (w : List UInt8) (h : Word w) : foldT w = w := by
  have : splitT (join [w] [32]) = [w] := split_join [w] (by simpa using h)
  rw [join_one] at this
  unfold foldT
  rw [this, join_one]
/-- Where a space stands in words that are joined. -/
theorem join_spaces : ∀ (ws : List (List UInt8)), (∀ w ∈ ws, Word w) → ∀ u v, join ws [32] = u ++ 32 :: v → u ≠ [] ∧ v ≠ [] ∧ u.getLast? ≠ some 32
  | [], _, u, v, e => by simp [join_nil] at e
  | [w], h, u, v, e => by
    rw [join_one] at e
    have := (h w (by simp)).2 32 (by rw [e]; simp)
    exact absurd this (by decide)
  | w :: x :: r, h, u, v, e => by
    rw [join_cons2] at e
    have hw := h w (by simp)
    have hr : ∀ y ∈ x :: r, Word y := fun y hy => h y (List.mem_cons_of_mem _ hy)
    rcases List.append_eq_append_iff.1 e with ⟨as, e1, e2⟩ | ⟨as, e1, e2⟩
    · cases as with
      | nil =>
        simp only [List.nil_append, List.cons.injEq, true_and, List.append_nil] at e1 e2
        subst e1
        refine ⟨hw.1, ?_, ?_⟩
        · rw [← e2]
          have hx := (hr x (by simp)).1
          rw [join_cons]
          intro h0
          exact hx (List.append_eq_nil_iff.1 h0).1
        · intro hl
          have := hw.2 32 (List.mem_of_getLast? hl)
          exact absurd this (by decide)
      | cons c as =>
        simp only [List.cons_append, List.cons.injEq] at e2
        obtain ⟨rfl, e2⟩ := e2
        obtain ⟨h1, h2, h3⟩ := join_spaces (x :: r) hr as v e2
        refine ⟨by rw [e1]; simp, h2, ?_⟩
        rw [e1]
        cases as with
        | nil => exact absurd rfl h1
        | cons d as => simpa [List.getLast?_append, List.getLast?_cons] using h3
    · cases as with
      | nil =>
        simp only [List.nil_append, List.cons.injEq, true_and, List.append_nil] at e1 e2
        subst e1
        refine ⟨hw.1, ?_, ?_⟩
        · rw [e2]
          have hx := (hr x (by simp)).1
          rw [join_cons]
          intro h0
          exact hx (List.append_eq_nil_iff.1 h0).1
        · intro hl
          have := hw.2 32 (List.mem_of_getLast? hl)
          exact absurd this (by decide)
      | cons c as =>
        simp only [List.cons_append, List.cons.injEq] at e2
        have := hw.2 32 (by rw [e1, e2.1]; simp)
        exact absurd this (by decide)
theorem fieldsGo_len : ∀ (l cur : List UInt8), lens (fieldsGo cur l) + (fieldsGo cur l).length ≤ cur.length + l.length + 1
  | [], cur => by cases cur <;> simp [fieldsGo, lens]
  | b :: l, cur => by
    cases hb : isSp b
    · have ih := fieldsGo_len l (cur ++ [b])
      rw [fieldsGo_more cur b l hb]
      simp at ih ⊢
      omega
    · cases cur with
      | nil =>
        rw [fieldsGo_sp b l hb]
        have ih := fieldsGo_len l []
        simp at ih ⊢
        omega
      | cons c r =>
        rw [fieldsGo_end (c :: r) b l hb (by simp)]
        have ih := fieldsGo_len l []
        simp [lens] at ih ⊢
        omega
theorem join_len : ∀ ws : List (List UInt8), (join ws [32]).length ≤ lens ws + (ws.length - 1)
  | [] => by simp [join_nil]
  | w :: r => by rw [join_length]; simp; omega
theorem fold_len (l : List UInt8) : (foldT l).length ≤ 2 * l.length := by
  have h1 := join_len (splitT l)
  have h2 := fieldsGo_len (raw l) []
  have h3 := raw_len l.length l (Nat.le_refl _)
  unfold foldT
  unfold splitT fields at h1 ⊢
  rw [List.length_nil] at h2
  generalize fieldsGo [] (raw l) = ws at h1 h2 ⊢
  cases ws with
  | nil => simp [join_nil]
  | cons w r =>
    simp only [List.length_cons] at h1 h2
    omega
theorem split_len (l : List UInt8) : (splitT l).length ≤ 2 * l.length + 1 := by
  have h2 := fieldsGo_len (raw l) []
  have h3 := raw_len l.length l (Nat.le_refl _)
  unfold splitT fields
  rw [List.length_nil] at h2
  omega
#print axioms join_spaces
#print axioms fold_fold
end Go.Proofs.YtpejnnnkamodbaaDoor
