/- Merged texts: WPlain, WLaws, WTable, WFold, WBuilder, WSplit, WText, WAwake. -/
import Derived.Lib.TrimAscii
import Derived.Lib.Fields
import Derived.Lib.Join
import Derived.WalkKit
import Derived.WalkSpells
import Derived.Maps.OwnSet
import Derived.Maps.RangeWalk
import Derived.Maps.StringElems
import Derived.Test.YtpejnnnkamodbaaDoorProg
import Derived.Lib.OthersKept
import Derived.BigCall
import Derived.Lib.Hide
import Derived.Test.YtpejnnnkamodbaaDoorShelf
import Derived.Shelf.Strings.BuilderK
import Derived.Shelf.Strings.Builder1
import Derived.WalkLawsBesides
/- Plain facts about folded texts: what the fold of a text is, its words, and that folding twice is folding once. No program stands in this file. -/
namespace Go.Proofs.YtpejnnnkamodbaaDoor
open Go Go.Lib

def smallR (r : Nat) : Nat := if 65 ≤ r ∧ r ≤ 90 then r + 32 else if 192 ≤ r ∧ r ≤ 221 ∧ r ≠ 215 then r + 32 else r
def letterN (c : Nat) : Bool := decide (97 ≤ c ∧ c ≤ 122) || decide (48 ≤ c ∧ c ≤ 57)
/-- What letters with marks become, by groups. -/
def groups : List (List UInt8 × List Nat) :=
  [([97], [224, 225, 226, 227]), ([97, 97], [229]), ([97, 101], [228, 230]), ([99], [231]), ([101], [232, 233, 234, 235]), ([105], [236, 237, 238, 239]), ([110], [241]),
   ([111], [242, 243, 244, 245]), ([111, 101], [246, 248]), ([115, 115], [223]), ([117], [249, 250, 251]), ([117, 101], [252]), ([121], [253, 255]), ([], [39, 8217, 46])]
def markedR (r : Nat) : Option (List UInt8) := (groups.find? fun g => g.2.contains r).map (·.1)
def foldS (r : Nat) : List UInt8 := match markedR r with | some t => t | none => if r < 128 ∧ letterN r = true then [UInt8.ofNat r] else [32]
def foldR (r : Nat) : List UInt8 := foldS (smallR r)
def letB (b : UInt8) : Bool := letterN b.toNat
/-- A letter or a space. -/
def LS (b : UInt8) : Prop := letB b = true ∨ b = 32
theorem letB_lt {b : UInt8} (h : letB b = true) : b.toNat < 128 := by
  simp only [letB, letterN, Bool.or_eq_true, decide_eq_true_eq] at h
  omega
theorem LS_lt {b : UInt8} (h : LS b) : b.toNat < 128 := by
  rcases h with h | h
  · exact letB_lt h
  · subst h; decide
theorem groups_LS : ∀ g ∈ groups, ∀ b ∈ g.1, letB b = true := by decide
theorem foldR_LS (r : Nat) : ∀ b ∈ foldR r, LS b := by
  intro b hb
  unfold foldR foldS at hb
  generalize smallR r = q at hb
  split at hb
  · rename_i t ht
    unfold markedR at ht
    obtain ⟨g, hg, rfl⟩ := Option.map_eq_some_iff.1 ht
    exact Or.inl (groups_LS g (List.mem_of_find?_eq_some hg) b hb)
  · split at hb
    · rename_i h
      simp only [List.mem_singleton] at hb
      subst hb
      left
      unfold letB
      have e : (UInt8.ofNat q).toNat = q := by simp; omega
      rw [e]
      exact h.2
    · right
      simpa using hb
theorem groups_two : ∀ g ∈ groups, g.1.length ≤ 2 := by decide
theorem foldR_len (r : Nat) : (foldR r).length ≤ 2 := by
  unfold foldR foldS
  generalize smallR r = q
  split
  · rename_i t ht
    unfold markedR at ht
    obtain ⟨g, hg, rfl⟩ := Option.map_eq_some_iff.1 ht
    exact groups_two g (List.mem_of_find?_eq_some hg)
  · split <;> simp
theorem small_letter {r : Nat} (h : letterN r = true) : smallR r = r := by
  simp only [letterN, Bool.or_eq_true, decide_eq_true_eq] at h
  unfold smallR
  rw [if_neg (by omega), if_neg (by omega)]
theorem marked_letter {r : Nat} (h : letterN r = true) : markedR r = none := by
  simp only [letterN, Bool.or_eq_true, decide_eq_true_eq] at h
  unfold markedR
  rw [Option.map_eq_none_iff, List.find?_eq_none]
  intro g hg
  simp only [groups, List.mem_cons, List.not_mem_nil, or_false] at hg
  rcases hg with rfl | rfl | rfl | rfl | rfl | rfl | rfl | rfl | rfl | rfl | rfl | rfl | rfl | rfl <;> simp <;> omega
theorem foldR_letter {b : UInt8} (h : letB b = true) : foldR b.toNat = [b] := by
  unfold letB at h
  unfold foldR
  rw [small_letter h]
  unfold foldS
  rw [marked_letter h]
  have hl : b.toNat < 128 := letB_lt h
  simp only
  rw [if_pos ⟨hl, h⟩]
  simp
theorem foldR_space : foldR 32 = [32] := by decide

/-- One step of the reading: what the rune in front becomes. -/
def piece (l : List UInt8) : List UInt8 := if decodeL l = (65533, 1) then [] else foldR (decodeL l).1
def rawL : Nat → List UInt8 → List UInt8
  | 0, _ => []
  | f + 1, l => if l = [] then [] else piece l ++ rawL f (l.drop (decodeL l).2)
/-- What the runes of a text become, before the words are cut. -/
def raw (l : List UInt8) : List UInt8 := rawL l.length l
theorem decodeN_pos (n b0 b1 b2 b3 : Nat) : 1 ≤ (decodeN n b0 b1 b2 b3).2 := by
  unfold decodeN
  repeat' split
  all_goals (simp only; omega)
theorem decodeN_le (n b0 b1 b2 b3 : Nat) (hn : 1 ≤ n) : (decodeN n b0 b1 b2 b3).2 ≤ n := by
  unfold decodeN
  repeat' split
  all_goals (simp only; omega)
theorem width_pos (l : List UInt8) : 1 ≤ (decodeL l).2 := by rw [decodeL_N]; exact decodeN_pos _ _ _ _ _
theorem width_le (l : List UInt8) (h : l ≠ []) : (decodeL l).2 ≤ l.length := by
  rw [decodeL_N]
  exact decodeN_le _ _ _ _ _ (List.length_pos_iff.2 h)
theorem rawL_fuel : ∀ (f g : Nat) (l : List UInt8), l.length ≤ f → l.length ≤ g → rawL f l = rawL g l
  | 0, 0, _, _, _ => rfl
  | 0, g + 1, l, hf, _ => by
    have : l = [] := List.length_eq_zero_iff.1 (by omega)
    subst this; simp [rawL]
  | f + 1, 0, l, _, hg => by
    have : l = [] := List.length_eq_zero_iff.1 (by omega)
    subst this; simp [rawL]
  | f + 1, g + 1, l, hf, hg => by
    by_cases h : l = []
    · subst h; simp [rawL]
    · simp only [rawL, if_neg h]
      have hp := width_pos l
      rw [rawL_fuel f g _ (by rw [List.length_drop]; omega) (by rw [List.length_drop]; omega)]
theorem raw_nil : raw [] = [] := rfl
theorem raw_cons (l : List UInt8) (h : l ≠ []) : raw l = piece l ++ raw (l.drop (decodeL l).2) := by
  have hl : 0 < l.length := List.length_pos_iff.2 h
  obtain ⟨n, hn⟩ : ∃ n, l.length = n + 1 := ⟨l.length - 1, by omega⟩
  have hp := width_pos l
  unfold raw
  rw [hn]
  simp only [rawL, if_neg h]
  rw [rawL_fuel n (l.drop (decodeL l).2).length _ (by rw [List.length_drop]; omega) (Nat.le_refl _)]
theorem raw_LS (n : Nat) : ∀ l : List UInt8, l.length ≤ n → ∀ b ∈ raw l, LS b := by
  induction n with
  | zero =>
    intro l hl b hb
    have : l = [] := List.length_eq_zero_iff.1 (by omega)
    subst this
    simp [raw_nil] at hb
  | succ n ih =>
    intro l hl b hb
    by_cases h : l = []
    · subst h; simp [raw_nil] at hb
    · rw [raw_cons l h] at hb
      have hp := width_pos l
      rcases List.mem_append.1 hb with hb | hb
      · unfold piece at hb
        split at hb
        · simp at hb
        · exact foldR_LS _ b hb
      · exact ih _ (by rw [List.length_drop]; omega) b hb
theorem raw_len (n : Nat) : ∀ l : List UInt8, l.length ≤ n → (raw l).length ≤ 2 * l.length := by
  induction n with
  | zero =>
    intro l hl
    have : l = [] := List.length_eq_zero_iff.1 (by omega)
    subst this
    simp [raw_nil]
  | succ n ih =>
    intro l hl
    by_cases h : l = []
    · subst h; simp [raw_nil]
    · rw [raw_cons l h, List.length_append]
      have hp := width_pos l
      have hw := width_le l h
      have := ih (l.drop (decodeL l).2) (by rw [List.length_drop]; omega)
      rw [List.length_drop] at this
      have hq : (piece l).length ≤ 2 := by
        unfold piece
        split
        · simp
        · exact foldR_len _
      omega
theorem raw_ls (l : List UInt8) : ∀ b ∈ raw l, LS b := raw_LS l.length l (Nat.le_refl _)
theorem foldR_ascii_le : ∀ r < 128, (foldR r).length ≤ 1 := by decide
theorem piece_ascii (b : UInt8) (t : List UInt8) (h : b.toNat < 128) : piece (b :: t) = foldR b.toNat := by
  unfold piece
  rw [decodeL_ascii b t h, if_neg (by simp; omega)]
theorem raw_ascii (b : UInt8) (t : List UInt8) (h : b.toNat < 128) : raw (b :: t) = foldR b.toNat ++ raw t := by
  rw [raw_cons _ (by simp), piece_ascii b t h, decodeL_ascii b t h]
  simp
theorem raw_letter (b : UInt8) (t : List UInt8) (h : letB b = true) : raw (b :: t) = b :: raw t := by
  rw [raw_ascii b t (letB_lt h), foldR_letter h]; rfl
theorem raw_space (t : List UInt8) : raw (32 :: t) = 32 :: raw t := by
  rw [raw_ascii 32 t (by decide)]
  have : foldR (32 : UInt8).toNat = [32] := by decide
  rw [this]; rfl
theorem raw_id : ∀ l : List UInt8, (∀ b ∈ l, LS b) → raw l = l
  | [], _ => rfl
  | b :: t, h => by
    have ih := raw_id t fun c hc => h c (List.mem_cons_of_mem _ hc)
    rcases h b (by simp) with hb | hb
    · rw [raw_letter b t hb, ih]
    · subst hb; rw [raw_space, ih]

theorem decodeL_sp (a b : List UInt8) (h : a ≠ []) : decodeL (a ++ 32 :: b) = decodeL a := by
  rw [decodeL_N, decodeL_N]
  match a, h with
  | [x], _ =>
    simp only [List.cons_append, List.nil_append, List.length_cons, List.length_nil, List.getD_cons_zero, List.getD_cons_succ, List.getD_nil]
    unfold decodeN
    simp
  | [x, y], _ =>
    simp only [List.cons_append, List.nil_append, List.length_cons, List.length_nil, List.getD_cons_zero, List.getD_cons_succ, List.getD_nil]
    unfold decodeN
    simp
  | [x, y, z], _ =>
    simp only [List.cons_append, List.nil_append, List.length_cons, List.length_nil, List.getD_cons_zero, List.getD_cons_succ, List.getD_nil]
    unfold decodeN
    simp
  | x :: y :: z :: u :: r, _ =>
    simp only [List.cons_append, List.length_append, List.length_cons, List.getD_cons_zero, List.getD_cons_succ]
    unfold decodeN
    simp
theorem raw_append_sp (n : Nat) : ∀ a b : List UInt8, a.length ≤ n → raw (a ++ 32 :: b) = raw a ++ 32 :: raw b := by
  induction n with
  | zero =>
    intro a b ha
    have : a = [] := List.length_eq_zero_iff.1 (by omega)
    subst this
    simpa [raw_nil] using raw_space b
  | succ n ih =>
    intro a b ha
    by_cases h : a = []
    · subst h
      simpa [raw_nil] using raw_space b
    · rw [raw_cons (a ++ 32 :: b) (by simp), raw_cons a h]
      have e := decodeL_sp a b h
      have ep : piece (a ++ 32 :: b) = piece a := by unfold piece; rw [e]
      have hp := width_pos a
      have hw := width_le a h
      rw [ep, e, List.drop_append_of_le_length hw, ih _ b (by rw [List.length_drop]; omega), List.append_assoc]

/-! ### words -/
theorem isSp_let {b : UInt8} (h : letB b = true) : isSp b = false := by
  have h1 : b ≠ 9 := by rintro rfl; revert h; decide
  have h2 : b ≠ 10 := by rintro rfl; revert h; decide
  have h3 : b ≠ 11 := by rintro rfl; revert h; decide
  have h4 : b ≠ 12 := by rintro rfl; revert h; decide
  have h5 : b ≠ 13 := by rintro rfl; revert h; decide
  have h6 : b ≠ 32 := by rintro rfl; revert h; decide
  simp [isSp, h1, h2, h3, h4, h5, h6]
theorem isSp_32 : isSp 32 = true := by decide
/-- A word: letters, at least one. -/
def Word (w : List UInt8) : Prop := w ≠ [] ∧ ∀ b ∈ w, letB b = true
theorem fieldsGo_words : ∀ (l cur : List UInt8), (∀ b ∈ l, LS b) → (∀ b ∈ cur, letB b = true) → ∀ w ∈ fieldsGo cur l, Word w
  | [], cur, _, hc, w, hw => by
    unfold fieldsGo at hw
    cases cur with
    | nil => simp at hw
    | cons c r => simp at hw; subst hw; exact ⟨by simp, hc⟩
  | b :: l, cur, hl, hc, w, hw => by
    have ihl : ∀ c ∈ l, LS c := fun c h => hl c (List.mem_cons_of_mem _ h)
    rcases hl b (by simp) with hb | hb
    · rw [fieldsGo_more cur b l (isSp_let hb)] at hw
      refine fieldsGo_words l (cur ++ [b]) ihl ?_ w hw
      intro c hcm
      rcases List.mem_append.1 hcm with h | h
      · exact hc c h
      · simp at h; subst h; exact hb
    · subst hb
      cases cur with
      | nil => rw [fieldsGo_sp 32 l isSp_32] at hw; exact fieldsGo_words l [] ihl (by simp) w hw
      | cons c r =>
        rw [fieldsGo_end (c :: r) 32 l isSp_32 (by simp)] at hw
        rcases List.mem_cons.1 hw with h | h
        · subst h; exact ⟨by simp, hc⟩
        · exact fieldsGo_words l [] ihl (by simp) w h
theorem fieldsGo_append_sp : ∀ (a cur b : List UInt8), fieldsGo cur (a ++ 32 :: b) = fieldsGo cur a ++ fieldsGo [] b
  | [], cur, b => by
    cases cur with
    | nil => simp [fieldsGo_sp 32 b isSp_32, fieldsGo]
    | cons c r => simp [fieldsGo_end (c :: r) 32 b isSp_32 (by simp), fieldsGo]
  | x :: a, cur, b => by
    rw [List.cons_append]
    cases hx : isSp x
    · rw [fieldsGo_more cur x _ hx, fieldsGo_more cur x _ hx]
      exact fieldsGo_append_sp a (cur ++ [x]) b
    · cases cur with
      | nil => rw [fieldsGo_sp x _ hx, fieldsGo_sp x _ hx]; exact fieldsGo_append_sp a [] b
      | cons c r => rw [fieldsGo_end (c :: r) x _ hx (by simp), fieldsGo_end (c :: r) x _ hx (by simp), fieldsGo_append_sp a [] b]; rfl
theorem fieldsGo_word : ∀ (w cur : List UInt8), (∀ b ∈ w, letB b = true) → cur ++ w ≠ [] → fieldsGo cur w = [cur ++ w]
  | [], cur, _, h => by
    cases cur with
    | nil => simp at h
    | cons c r => simp [fieldsGo]
  | b :: w, cur, hl, _ => by
    rw [fieldsGo_more cur b w (isSp_let (hl b (by simp))), fieldsGo_word w (cur ++ [b]) (fun c h => hl c (List.mem_cons_of_mem _ h)) (by simp)]
    simp
/-- The words of a text. -/
def splitT (l : List UInt8) : List (List UInt8) := fields (raw l)
/-- The folded text. -/
def foldT (l : List UInt8) : List UInt8 := join (splitT l) [32]
theorem split_words (l : List UInt8) : ∀ w ∈ splitT l, Word w := fieldsGo_words (raw l) [] (raw_ls l) (by simp)
theorem join_cons2 (w v : List UInt8) (r : List (List UInt8)) : join (w :: v :: r) [32] = w ++ 32 :: join (v :: r) [32] := by
  rw [join_cons, join_cons]
  simp [joinTail]
theorem join_LS : ∀ ws : List (List UInt8), (∀ w ∈ ws, Word w) → ∀ b ∈ join ws [32], LS b
  | [], _, b, hb => by simp [join_nil] at hb
  | [w], h, b, hb => by
    rw [join_one] at hb
    exact Or.inl ((h w (by simp)).2 b hb)
  | w :: v :: r, h, b, hb => by
    rw [join_cons2] at hb
    rcases List.mem_append.1 hb with hb | hb
    · exact Or.inl ((h w (by simp)).2 b hb)
    · rcases List.mem_cons.1 hb with hb | hb
      · exact Or.inr hb
      · exact join_LS (v :: r) (fun x hx => h x (List.mem_cons_of_mem _ hx)) b hb
theorem fields_join : ∀ ws : List (List UInt8), (∀ w ∈ ws, Word w) → fields (join ws [32]) = ws
  | [], _ => rfl
  | [w], h => by
    rw [join_one]
    have := fieldsGo_word w [] (h w (by simp)).2 (by simpa using (h w (by simp)).1)
    simpa [fields] using this
  | w :: v :: r, h => by
    rw [join_cons2]
    unfold fields
    rw [fieldsGo_append_sp]
    have h1 := fieldsGo_word w [] (h w (by simp)).2 (by simpa using (h w (by simp)).1)
    have h2 := fields_join (v :: r) (fun x hx => h x (List.mem_cons_of_mem _ hx))
    unfold fields at h2
    rw [h1, h2]
    simp
theorem split_join (ws : List (List UInt8)) (h : ∀ w ∈ ws, Word w) : splitT (join ws [32]) = ws := by
  unfold splitT
  rw [raw_id _ (join_LS ws h)]
  exact fields_join ws h
theorem fold_fold (l : List UInt8) : foldT (foldT l) = foldT l := by
  show join (splitT (join (splitT l) [32])) [32] = join (splitT l) [32]
  rw [split_join _ (split_words l)]
theorem fold_LS (l : List UInt8) : ∀ b ∈ foldT l, LS b := join_LS _ (split_words l)
theorem split_parts (a b : List UInt8) : splitT (a ++ 32 :: b) = splitT a ++ splitT b := by
  unfold splitT fields
  rw [raw_append_sp a.length a b (Nat.le_refl _), fieldsGo_append_sp]
theorem fold_word (w : List UInt8) (h : Word w) : foldT w = w := by
  have : splitT (join [w] [32]) = [w] := split_join [w] (by simpa using h)
  rw [join_one] at this
  unfold foldT
  rw [this, join_one]
/-- Where a space stands in words that are joined. -/
theorem join_spaces : ∀ (ws : List (List UInt8)), (∀ w ∈ ws, Word w) → ∀ u v, join ws [32] = u ++ 32 :: v → u ≠ [] ∧ v ≠ [] ∧ u.getLast? ≠ some 32
  | [], _, u, v, e => by simp [join_nil] at e
  | [w], h, u, v, e => by
    rw [join_one] at e
    have := (h w (by simp)).2 32 (by rw [e]; simp)
    exact absurd this (by decide)
  | w :: x :: r, h, u, v, e => by
    rw [join_cons2] at e
    have hw := h w (by simp)
    have hr : ∀ y ∈ x :: r, Word y := fun y hy => h y (List.mem_cons_of_mem _ hy)
    rcases List.append_eq_append_iff.1 e with ⟨as_, e1, e2⟩ | ⟨as_, e1, e2⟩
    · cases as_ with
      | nil =>
        simp only [List.nil_append, List.cons.injEq, true_and, List.append_nil] at e1 e2
        subst e1
        refine ⟨hw.1, ?_, ?_⟩
        · rw [← e2]
          have hx := (hr x (by simp)).1
          rw [join_cons]
          intro h0
          exact hx (List.append_eq_nil_iff.1 h0).1
        · intro hl
          have := hw.2 32 (List.mem_of_getLast? hl)
          exact absurd this (by decide)
      | cons c as_ =>
        simp only [List.cons_append, List.cons.injEq] at e2
        obtain ⟨rfl, e2⟩ := e2
        obtain ⟨h1, h2, h3⟩ := join_spaces (x :: r) hr as_ v e2
        refine ⟨by rw [e1]; simp, h2, ?_⟩
        rw [e1]
        cases as_ with
        | nil => exact absurd rfl h1
        | cons d as_ => simpa [List.getLast?_append, List.getLast?_cons] using h3
    · cases as_ with
      | nil =>
        simp only [List.nil_append, List.cons.injEq, true_and, List.append_nil] at e1 e2
        subst e1
        refine ⟨hw.1, ?_, ?_⟩
        · rw [e2]
          have hx := (hr x (by simp)).1
          rw [join_cons]
          intro h0
          exact hx (List.append_eq_nil_iff.1 h0).1
        · intro hl
          have := hw.2 32 (List.mem_of_getLast? hl)
          exact absurd this (by decide)
      | cons c as_ =>
        simp only [List.cons_append, List.cons.injEq] at e2
        have := hw.2 32 (by rw [e1, e2.1]; simp)
        exact absurd this (by decide)
theorem fieldsGo_len : ∀ (l cur : List UInt8), lens (fieldsGo cur l) + (fieldsGo cur l).length ≤ cur.length + l.length + 1
  | [], cur => by cases cur <;> simp [fieldsGo, lens]
  | b :: l, cur => by
    cases hb : isSp b
    · have ih := fieldsGo_len l (cur ++ [b])
      rw [fieldsGo_more cur b l hb]
      simp at ih ⊢
      omega
    · cases cur with
      | nil =>
        rw [fieldsGo_sp b l hb]
        have ih := fieldsGo_len l []
        simp at ih ⊢
        omega
      | cons c r =>
        rw [fieldsGo_end (c :: r) b l hb (by simp)]
        have ih := fieldsGo_len l []
        simp [lens] at ih ⊢
        omega
theorem join_len : ∀ ws : List (List UInt8), (join ws [32]).length ≤ lens ws + (ws.length - 1)
  | [] => by simp [join_nil]
  | w :: r => by rw [join_length]; simp; omega
theorem fold_len (l : List UInt8) : (foldT l).length ≤ 2 * l.length := by
  have h1 := join_len (splitT l)
  have h2 := fieldsGo_len (raw l) []
  have h3 := raw_len l.length l (Nat.le_refl _)
  unfold foldT
  unfold splitT fields at h1 ⊢
  rw [List.length_nil] at h2
  generalize fieldsGo [] (raw l) = ws at h1 h2 ⊢
  cases ws with
  | nil => simp [join_nil]
  | cons w r =>
    simp only [List.length_cons] at h1 h2
    omega
theorem split_len (l : List UInt8) : (splitT l).length ≤ 2 * l.length + 1 := by
  have h2 := fieldsGo_len (raw l) []
  have h3 := raw_len l.length l (Nat.le_refl _)
  unfold splitT fields
  rw [List.length_nil] at h2
  omega
#print axioms join_spaces
#print axioms fold_fold
end Go.Proofs.YtpejnnnkamodbaaDoor
/- Laws for the walk on maps whose keys or elements are strings or bools: a literal's insert, the look-up with ok, the range's step. No program stands in this file. -/
namespace Go.Proofs.YtpejnnnkamodbaaDoor
open Go Go.RowKit Go.Maps

section
variable {H : Type} {P : Program} (w : World) {ops : Array Oper} {rest : List Oper} {o : Oper} {a : Act} {Q : Exit → Act → World → Prop}

/-- A map literal's entry. -/
theorem wpList_insert_own (hg : o.guard = none) (m x v : Operand) (t : TypeId) (hop : o.op = Op.insert t m x v)
    (k e : TypeId) (K : Keyed P k) (ht : P.underlying t = some (.map k e)) (R : Value → Option (DataW H × List MemPlace)) (b n : Nat) (D : DataW H)
    (hm : a.eval m = .map (some b)) (hown : w.ownsMap P k R b n D) (hn : n < maxLen) (key val : Value) (kl : Lit) (hx : a.eval x = key) (hv : a.eval v = val) (hkey : keyOf P k key = some kl)
    (d : DataW H) (ps : List MemPlace) (hval : R val = some (d, ps))
    (hK : ∀ w', w'.ownsMap P k R b (n + 1) (D.put kl d) → w.grownBy w' (some b) → wpList P ops Q rest (a.put o.dst undef) w') :
    wpList P ops Q (o :: rest) a w := by
  refine wpList_plain hg fun K' hK' => ?_
  obtain ⟨w', hrun, r1, r2⟩ := hown.update K ht hn hkey hval
  unfold Oper.wp
  simp [execOp, hop, hm, hx, hv, hrun, Result.andThen]
  exact hK' _ _ (hK w' r1 r2)

/-- 'v, ok := m[k]' at string elements. -/
theorem wpList_lookup_own_ok_string (hg : o.guard = none) (m x : Operand) (t : TypeId) (hop : o.op = Op.lookup t m x true)
    (k e : TypeId) (K : Keyed P k) (ht : P.underlying t = some (.map k e)) (he : P.underlying e = some .string) (hz : (zeroValue e).run P w = .ok (.string ByteArray.empty) w) (b n : Nat) (D : DataW H)
    (hm : a.eval m = .map (some b)) (hown : w.ownsMap P k (plainElem P e) b n D) (key : Value) (kl : Lit) (hx : a.eval x = key) (hkey : keyOf P k key = some kl)
    (hK : ∀ c : ByteArray, D.atKey kl (.lit (.string [])) = .lit (.string c.data.toList) → c.size ≤ maxLen → wpList P ops Q rest (a.put o.dst (.tuple #[.string c, .bool (Maps.has D kl)])) w) :
    wpList P ops Q (o :: rest) a w :=
  wpList_lookup_own_ok w hg m x t hop k e K ht (plainElem P e) hz (.lit (.string [])) [] (plainElem_string (s := ByteArray.empty) he (by decide)) b n D hm hown key kl hx hkey (fun v ps hv => by
    obtain ⟨c, rfl, hc, hwc⟩ := plainElem_string_inv he hv
    exact hK c (congrArg Prod.fst hc) hwc)

/-- 'm[k]' at bool elements. -/
theorem wpList_lookup_own_bool (hg : o.guard = none) (m x : Operand) (t : TypeId) (hop : o.op = Op.lookup t m x false)
    (k e : TypeId) (K : Keyed P k) (ht : P.underlying t = some (.map k e)) (he : P.underlying e = some .bool) (hz : (zeroValue e).run P w = .ok (.bool false) w) (b n : Nat) (D : DataW H)
    (hm : a.eval m = .map (some b)) (hown : w.ownsMap P k (plainElem P e) b n D) (key : Value) (kl : Lit) (hx : a.eval x = key) (hkey : keyOf P k key = some kl)
    (hK : ∀ c : Bool, D.atKey kl (.lit (.bool false)) = .lit (.bool c) → wpList P ops Q rest (a.put o.dst (.bool c)) w) :
    wpList P ops Q (o :: rest) a w := by
  refine wpList_plain hg fun K' hK' => ?_
  obtain ⟨v, ps, hrun, hv⟩ := hown.lookup K ht hz (plainElem_bool he false) hkey
  obtain ⟨c, rfl, hc⟩ : ∃ c, v = .bool c ∧ D.atKey kl (.lit (.bool false)) = .lit (.bool c) := by
    unfold plainElem at hv
    rw [he] at hv
    cases v <;> simp at hv
    exact ⟨_, rfl, hv.1.symm⟩
  unfold Oper.wp
  simp [execOp, hop, hm, hx, hrun, Result.andThen]
  exact hK' _ _ (hK c hc)

theorem keyOf_string_inv {k : TypeId} (hk : P.underlying k = some .string) {key : Value} {kl : Lit} (h : keyOf P k key = some kl) : ∃ x : ByteArray, key = .string x ∧ kl = .string x.data.toList ∧ x.size ≤ maxLen := by
  cases key <;> simp [keyOf, hk, mapKey] at h
  exact ⟨_, rfl, h.2.symm, h.1⟩

/-- The range's step, string keys, string elements. -/
theorem wpList_next_ranges_ss (hg : o.guard = none) (it : Operand) (hop : o.op = Op.next it false) (k e : TypeId) (K : Keyed P k) (hk : P.underlying k = some .string) (he : P.underlying e = some .string)
    (b r n : Nat) (D : DataW H) (left : Lit → Bool) (cnt : Nat) (hit : a.eval it = .pointer (some ⟨r, 0, none⟩)) (h : w.ranges P k (plainElem P e) b r n D left cnt)
    (hDone : cnt = 0 → (∀ kl, left kl = false) → wpList P ops Q rest (a.put o.dst (.tuple #[.bool false])) w)
    (hMore : ∀ (x c : ByteArray) (w' : World) (cnt' : Nat), x.size ≤ maxLen → c.size ≤ maxLen → left (.string x.data.toList) = true → (∀ zd, D.atKey (.string x.data.toList) zd = .lit (.string c.data.toList)) → w'.ranges P k (plainElem P e) b r n D (fun z => left z && !z.sameKey (.string x.data.toList)) cnt' → cnt' < cnt →
      w.grownBy w' (some r) → w'.heap.size = w.heap.size → (Instr.entry (.pointer (some ⟨r, 0, none⟩))).run P w' = .ok (.tuple #[.string x, .string c]) w' → wpList P ops Q rest (a.put o.dst (.tuple #[.bool true, .string x, .string c])) w') :
    wpList P ops Q (o :: rest) a w :=
  wpList_next_ranges w hg it hop k K (plainElem P e) Value.string Value.string (fun key kl hkey => by obtain ⟨x, rfl, _⟩ := keyOf_string_inv hk hkey; exact ⟨x, rfl⟩) (fun v y hv => by obtain ⟨c, rfl, _⟩ := plainElem_string_inv he hv; exact ⟨c, rfl⟩)
    b r n D left cnt hit h hDone (fun x c kl y w' cnt' hkey hlk hv hat hrg hlt hgr hsz hen => by
      obtain ⟨x', ex, rfl, hwx⟩ := keyOf_string_inv hk hkey
      cases ex
      obtain ⟨c', ec, rfl, hwc⟩ := plainElem_string_inv he hv
      cases ec
      exact hMore x c w' cnt' hwx hwc hlk hat hrg hlt hgr hsz hen)
end
#print axioms wpList_next_ranges_ss
#print axioms wpList_lookup_own_bool
end Go.Proofs.YtpejnnnkamodbaaDoor
/- The table of letters with marks, as the program fills it: in whatever order the groups come. No program stands in this file. -/
namespace Go.Proofs.YtpejnnnkamodbaaDoor
open Go Go.Lib Go.RowKit Go.Maps

/-- The literal's pairs. -/
def gpairs : List (List UInt8 × List UInt8) := [([97], [195, 160, 195, 161, 195, 162, 195, 163]), ([97, 97], [195, 165]), ([97, 101], [195, 164, 195, 166]), ([99], [195, 167]), ([101], [195, 168, 195, 169, 195, 170, 195, 171]), ([105], [195, 172, 195, 173, 195, 174, 195, 175]), ([110], [195, 177]), ([111], [195, 178, 195, 179, 195, 180, 195, 181]), ([111, 101], [195, 182, 195, 184]), ([115, 115], [195, 159]), ([117], [195, 185, 195, 186, 195, 187]), ([117, 101], [195, 188]), ([121], [195, 189, 195, 191]), ([], [39, 226, 128, 153, 46])]
/-- What the literal of 'plain' reads as. -/
def plainD {H : Type} : DataW H := gpairs.foldl (fun D p => D.put (.string p.1) (.lit (.string p.2))) (.map [])
theorem atKey_foldS {H : Type} : ∀ (L : List (List UInt8 × List UInt8)) (D : DataW H), IsMap D → ∀ (l : List UInt8) (zd : DataW H),
    (∃ p ∈ L, p.1 = l ∧ (L.foldl (fun D p => D.put (.string p.1) (.lit (.string p.2))) D).atKey (.string l) zd = .lit (.string p.2)) ∨
    (L.foldl (fun D p => D.put (.string p.1) (.lit (.string p.2))) D).atKey (.string l) zd = D.atKey (.string l) zd
  | [], _, _, _, _ => Or.inr rfl
  | p :: L, D, hD, l, zd => by
    rcases atKey_foldS L (D.put (.string p.1) (.lit (.string p.2))) (hD.put _ _) l zd with ⟨q, hq, h1, h2⟩ | h
    · exact Or.inl ⟨q, List.mem_cons_of_mem _ hq, h1, h2⟩
    · by_cases e : p.1 = l
      · refine Or.inl ⟨p, by simp, e, ?_⟩
        rw [List.foldl_cons, h, ← e]
        exact atKey_put_same hD (k := .string p.1) trivial _ _
      · refine Or.inr ?_
        rw [List.foldl_cons, h]
        exact atKey_put_other (by simpa using fun h' => e h'.symm) _ _
theorem has_foldS {H : Type} : ∀ (L : List (List UInt8 × List UInt8)) (D : DataW H), IsMap D → ∀ l, (∃ p ∈ L, p.1 = l) ∨ has D (.string l) = true → has (L.foldl (fun D p => D.put (.string p.1) (.lit (.string p.2))) D) (.string l) = true
  | [], _, _, _, h => by simpa using h
  | p :: L, D, hD, l, h => by
    rw [List.foldl_cons]
    refine has_foldS L _ (hD.put _ _) l ?_
    by_cases e : p.1 = l
    · refine Or.inr ?_
      rw [← e]
      exact has_put_same hD (k := .string p.1) trivial _
    · rcases h with ⟨q, hq, h1⟩ | h
      · rcases List.mem_cons.1 hq with rfl | hq
        · exact absurd h1 e
        · exact Or.inl ⟨q, hq, h1⟩
      · refine Or.inr ?_
        rw [has_put_other (by simpa using fun h' => e h'.symm)]
        exact h
theorem plain_hit {H : Type} {l c : List UInt8} (h : ∀ zd : DataW H, plainD.atKey (.string l) zd = .lit (.string c)) : (l, c) ∈ gpairs := by
  rcases atKey_foldS gpairs (.map [] : DataW H) isMap_empty l .nil with ⟨p, hp, h1, h2⟩ | h2
  · have := (h .nil).symm.trans h2
    simp only [DataW.lit.injEq, Lit.string.injEq] at this
    rw [← h1, this]
    exact hp
  · have := (h .nil).symm.trans h2
    simp [DataW.atKey] at this
theorem plain_has {H : Type} {l : List UInt8} (h : ∃ p ∈ gpairs, p.1 = l) : has (plainD : DataW H) (.string l) = true := has_foldS gpairs _ isMap_empty l (Or.inl h)

/-- The runes of a text. -/
def runesF : Nat → List UInt8 → List Nat
  | 0, _ => []
  | f + 1, l => if l = [] then [] else (decodeL l).1 :: runesF f (l.drop (decodeL l).2)
def runes (l : List UInt8) : List Nat := runesF l.length l
theorem runesF_fuel : ∀ (f g : Nat) (l : List UInt8), l.length ≤ f → l.length ≤ g → runesF f l = runesF g l
  | 0, 0, _, _, _ => rfl
  | 0, g + 1, l, hf, _ => by
    have : l = [] := List.length_eq_zero_iff.1 (by omega)
    subst this; simp [runesF]
  | f + 1, 0, l, _, hg => by
    have : l = [] := List.length_eq_zero_iff.1 (by omega)
    subst this; simp [runesF]
  | f + 1, g + 1, l, hf, hg => by
    by_cases h : l = []
    · subst h; simp [runesF]
    · simp only [runesF, if_neg h]
      have hp := width_pos l
      rw [runesF_fuel f g _ (by rw [List.length_drop]; omega) (by rw [List.length_drop]; omega)]
theorem runes_cons (l : List UInt8) (h : l ≠ []) : runes l = (decodeL l).1 :: runes (l.drop (decodeL l).2) := by
  have hl : 0 < l.length := List.length_pos_iff.2 h
  obtain ⟨n, hn⟩ : ∃ n, l.length = n + 1 := ⟨l.length - 1, by omega⟩
  have hp := width_pos l
  unfold runes
  rw [hn]
  simp only [runesF, if_neg h]
  rw [runesF_fuel n (l.drop (decodeL l).2).length _ (by rw [List.length_drop]; omega) (Nat.le_refl _)]
/-- The same, read at places. -/
theorem runes_at (s : ByteArray) (pos : Nat) (h : pos < s.size) : runes (s.data.toList.drop pos) = (Utf8.decode s pos).1 :: runes (s.data.toList.drop (pos + (Utf8.decode s pos).2)) := by
  have hl : s.data.toList.length = s.size := by simp
  rw [runes_cons _ (by intro h0; have := congrArg List.length h0; rw [List.length_drop, hl] at this; simp at this; omega), decodeL_drop, List.drop_drop]
theorem runes_end (s : ByteArray) (pos : Nat) (h : ¬ pos < s.size) : runes (s.data.toList.drop pos) = [] := by
  have hl : s.data.toList.length = s.size := by simp
  rw [List.drop_of_length_le (by omega)]; rfl
theorem decode_w (s : ByteArray) (pos : Nat) (h : pos < s.size) : 1 ≤ (Utf8.decode s pos).2 ∧ pos + (Utf8.decode s pos).2 ≤ s.size := by
  have hl : s.data.toList.length = s.size := by simp
  have hne : s.data.toList.drop pos ≠ [] := by intro h0; have := congrArg List.length h0; rw [List.length_drop, hl] at this; simp at this; omega
  have h1 := width_pos (s.data.toList.drop pos)
  have h2 := width_le (s.data.toList.drop pos) hne
  rw [decodeL_drop] at h1 h2
  rw [List.length_drop, hl] at h2
  omega
theorem gpairs_runes : gpairs.map (fun p => (p.1, runes p.2)) = groups := by decide +kernel
theorem gpairs_short : ∀ p ∈ gpairs, p.2.length ≤ 8 := by decide

/-- 'out[r] = to' for each rune of a group. -/
def putR {H : Type} (D : DataW H) (to_ : List UInt8) (rs : List Nat) : DataW H := rs.foldl (fun D (r : Nat) => D.put (.int .i32 (r : Int)) (.lit (.string to_))) D
theorem putR_isMap {H : Type} (to_ : List UInt8) : ∀ (rs : List Nat) (D : DataW H), IsMap D → IsMap (putR D to_ rs)
  | [], _, h => h
  | r :: rs, D, h => putR_isMap to_ rs (D.put (.int .i32 r) (.lit (.string to_))) (h.put _ _)
theorem putR_has {H : Type} (to_ : List UInt8) (q : Nat) : ∀ (rs : List Nat) (D : DataW H), IsMap D → has (putR D to_ rs) (.int .i32 q) = (rs.contains q || has D (.int .i32 q))
  | [], _, _ => by simp [putR]
  | r :: rs, D, h => by
    have ih := putR_has to_ q rs (D.put (.int .i32 r) (.lit (.string to_))) (h.put _ _)
    have e : putR D to_ (r :: rs) = putR (D.put (.int .i32 r) (.lit (.string to_))) to_ rs := rfl
    rw [e, ih]
    by_cases e : q = r
    · subst e
      rw [has_put_same h (k := .int .i32 (q : Int)) trivial]
      simp
    · rw [has_put_other (by simp; omega)]
      have : (q == r) = false := by simpa using e
      rw [List.contains_cons, this, Bool.false_or]
theorem putR_at {H : Type} (to_ : List UInt8) (q : Nat) (z : DataW H) : ∀ (rs : List Nat) (D : DataW H), IsMap D → (putR D to_ rs).atKey (.int .i32 q) z = if rs.contains q then .lit (.string to_) else D.atKey (.int .i32 q) z
  | [], _, _ => by simp [putR]
  | r :: rs, D, h => by
    have ih := putR_at to_ q z rs (D.put (.int .i32 r) (.lit (.string to_))) (h.put _ _)
    have e : putR D to_ (r :: rs) = putR (D.put (.int .i32 r) (.lit (.string to_))) to_ rs := rfl
    rw [e, ih]
    by_cases e : q = r
    · subst e
      rw [atKey_put_same h (k := .int .i32 (q : Int)) trivial]
      simp
    · rw [atKey_put_other (by simp; omega)]
      have : (q == r) = false := by simpa using e
      rw [List.contains_cons, this, Bool.false_or]

/-- What is there of a rune while some groups are still to come. -/
def lookG (left : Lit → Bool) (q : Nat) : Option (List UInt8) := (groups.find? fun g => g.2.contains q).bind fun g => if left (.string g.1) then none else some g.1
def Good {H : Type} (left : Lit → Bool) (D : DataW H) : Prop := IsMap D ∧ ∀ q : Nat, has D (.int .i32 q) = (lookG left q).isSome ∧ D.atKey (.int .i32 q) (.lit (.string [])) = .lit (.string ((lookG left q).getD []))
theorem groups_key : ∀ g ∈ groups, ∃ p ∈ gpairs, p.1 = g.1 := by decide
theorem groups_one : ∀ g ∈ groups, ∀ g' ∈ groups, g.1 = g'.1 → g = g' := by decide
theorem groups_find : ∀ g ∈ groups, ∀ q ∈ g.2, (groups.find? fun g' => g'.2.contains q) = some g := by decide
theorem good_start {H : Type} : Good (has (plainD : DataW H)) (.map [] : DataW H) := by
  refine ⟨isMap_empty, fun q => ?_⟩
  have e : lookG (has (plainD : DataW H)) q = none := by
    unfold lookG
    rw [Option.bind_eq_none_iff]
    intro g hg
    rw [plain_has (groups_key g (List.mem_of_find?_eq_some hg))]
    rfl
  rw [e]
  exact ⟨rfl, rfl⟩
theorem good_step {H : Type} {left : Lit → Bool} {D : DataW H} (h : Good left D) {l c : List UInt8} (hp : (l, c) ∈ gpairs) : Good (fun z => left z && !z.sameKey (.string l)) (putR D l (runes c)) := by
  obtain ⟨hm, hq⟩ := h
  have hg : (l, runes c) ∈ groups := by
    rw [← gpairs_runes]
    exact List.mem_map.2 ⟨(l, c), hp, rfl⟩
  refine ⟨putR_isMap _ _ _ hm, fun q => ?_⟩
  rw [putR_has _ _ _ _ hm, putR_at _ _ _ _ _ hm]
  by_cases hc : (runes c).contains q = true
  · have hf := groups_find _ hg q (by simpa using hc)
    have e : lookG (fun z => left z && !z.sameKey (.string l)) q = some l := by
      unfold lookG
      rw [hf]
      simp [Lit.sameKey]
    rw [e, hc]
    exact ⟨rfl, rfl⟩
  · have hc' : (runes c).contains q = false := by simpa using hc
    have e : lookG (fun z => left z && !z.sameKey (.string l)) q = lookG left q := by
      unfold lookG
      cases hf : groups.find? fun g => g.2.contains q with
      | none => rfl
      | some g =>
        have hgm := List.mem_of_find?_eq_some hf
        have hgq := List.find?_some hf
        have hne : g.1 ≠ l := by
          intro e1
          have := groups_one g hgm _ hg e1
          rw [this] at hgq
          exact hc hgq
        have : (Lit.string g.1).sameKey (.string l) = false := by simpa [Lit.sameKey] using hne
        simp only [Option.bind_some, this, Bool.not_false, Bool.and_true]
    rw [e, hc', Bool.false_or, (hq q).1, (hq q).2]
    exact ⟨rfl, rfl⟩
theorem good_end {H : Type} {left : Lit → Bool} {D : DataW H} (h : Good left D) (hl : ∀ kl, left kl = false) (q : Nat) : has D (.int .i32 q) = (markedR q).isSome ∧ D.atKey (.int .i32 q) (.lit (.string [])) = .lit (.string ((markedR q).getD [])) := by
  have e : lookG left q = markedR q := by
    unfold lookG markedR
    cases groups.find? fun g => g.2.contains q with
    | none => rfl
    | some g => simp [hl]
  rw [← e]
  exact h.2 q
#print axioms good_end
#print axioms good_step
end Go.Proofs.YtpejnnnkamodbaaDoor
/- What the program's words package computes, function by function: the table of letters with marks, small, Letter, fold. -/
namespace Go.Proofs.YtpejnnnkamodbaaDoor
open Go Go.RowKit Go.Maps Go.WideMaps Go.WideElems

theorem kstr : Keyed Tryd.prog 9 := string_keyed Tryd.underlying9
theorem krune : Keyed Tryd.prog 21 := int_keyed Tryd.underlying21

set_option maxHeartbeats 1000000 in
set_option maxRecDepth 100000 in
theorem plain_any {H : Type} (w : World) : Calls Tryd.prog 106 #[] w fun e w' => e = .returned (.map (some w.heap.size)) ∧ w'.ownsMap (H := H) Tryd.prog 9 (plainElem Tryd.prog 9) w.heap.size 14 plainD ∧ Below w.heap.size w w' := by
  have hmm := @run_makeMap Tryd.prog
  have hown := World.ownsMap_made (H := H) w Tryd.prog 9 (plainElem Tryd.prog 9)
  have hb : Below w.heap.size w (w.alloc (.map #[] 0)) := (Below.refl _ w).alloc (Nat.le_refl _) _
  go_enter Tryd.func106, Tryd.ntmps106
  go_wp2_with (refine wpList_insert_own _ rfl _ _ _ 144 rfl 9 9 kstr Tryd.underlying144 (plainElem Tryd.prog 9) w.heap.size _ _ rfl hown (by unfold maxLen; omega) _ _ _ rfl rfl (keyOf_string_mk Tryd.underlying9 (by decide)) _ [] (plainElem_string Tryd.underlying9 (by decide)) ?_; intro w1 hown1 hg1; replace hb := hb.grown hg1 hb.size (fun j hj => by cases hj; exact Nat.le_refl _); replace hown := hown1; clear hown1 hg1)
  go_ret
  exact ⟨rfl, hown, hb⟩

theorem ownsMap_below {H : Type} {P : Program} {k : TypeId} {R : Value → Option (DataW H × List MemPlace)} {w w' : World} {b n B : Nat} {D : DataW H} (h : w.ownsMap P k R b n D) (hb : Below B w w') (hB : b < B) : w'.ownsMap P k R b n D := by
  obtain ⟨es, clock, h1, h2⟩ := h
  exact ⟨es, clock, (hb.block b hB).trans h1, h2⟩
/-- What the table's call leaves. -/
def TabPost (H : Type) (w w' : World) : Prop := ∃ n, ∃ D : DataW H, w'.ownsMap Tryd.prog 21 (plainElem Tryd.prog 9) w.heap.size n D ∧ ∀ q : Nat, Maps.has D (.int .i32 q) = (markedR q).isSome ∧ D.atKey (.int .i32 q) (.lit (.string [])) = .lit (.string ((markedR q).getD []))
theorem grown_iterAt (w : World) (k : Nat) (s : ByteArray) (pos : Nat) : w.grownBy (w.iterAt k s pos) (some k) :=
  ⟨rfl, rfl, rfl, by rw [Lib.iterAt_size]; exact Nat.le_refl _, fun i _ hne => Lib.iterAt_other w k i s pos (fun e => hne (by rw [e]))⟩

set_option maxHeartbeats 1000000 in
set_option maxRecDepth 100000 in
theorem table_any {H : Type} (w : World) : Calls Tryd.prog 87 #[] w fun e w' => e = .returned (.map (some w.heap.size)) ∧ TabPost H w w' ∧ Below w.heap.size w w' := by
  have hmm := @run_makeMap Tryd.prog
  go_enter Tryd.func87, Tryd.ntmps87
  have hout0 := World.ownsMap_made (H := H) w Tryd.prog 21 (plainElem Tryd.prog 9)
  have hb0 : Below w.heap.size w (w.alloc (.map #[] 0)) := (Below.refl _ w).alloc (Nat.le_refl _) _
  go_wp2_with (first | (go_at_call 106; refine (plain_any (H := H) _).mono ?_; rintro e w1 ⟨rfl, hp, hb1⟩; rw [World.size_alloc] at hp hb1) | (at_range; refine wpList_range_own _ rfl _ 144 rfl 9 9 kstr Tryd.underlying144 _ _ 14 plainD rfl hp ?_; intro w2 hrg hg2 hs2))
  go_frame
  have hout2 := (ownsMap_below hout0 hb1 (by omega)).kept hg2 (by simp)
  have hb2 : Below w.heap.size w w2 := ((hb0.trans (hb1.mono (by omega))).grown hg2 (by have := hb1.size; rw [World.size_alloc] at this; omega) (fun j hj => by cases hj))
  have h1sz : w.heap.size + 1 < w1.heap.size := hp.lt
  have hsz14 : Maps.size (plainD : DataW H) ≤ 14 := hp.size_le
  obtain ⟨r, hr⟩ : ∃ r, r = w1.heap.size := ⟨_, rfl⟩
  rw [← hr] at hrg h1sz
  rw [← hr]
  clear hr hg2 hs2 hb0 hout0
  go_loopw [] (fun wr => ∃ left cnt n, ∃ D : DataW H, wr.ranges Tryd.prog 9 (plainElem Tryd.prog 9) (w.heap.size + 1) r 14 plainD left cnt ∧ wr.ownsMap Tryd.prog 21 (plainElem Tryd.prog 9) w.heap.size n D ∧ Good left D ∧ n + 8 * cnt ≤ 112 ∧ Below w.heap.size w wr) (fun wr => wr.rangeLeft (w.heap.size + 1) r)
  case atStart => exact ⟨_, _, 0, _, hrg, hout2, good_start, by omega, hb2⟩
  case round =>
    obtain ⟨left, cnt, n, D, hrg, hown, hgood, hn, hbw⟩ := hrel
    clear hout2 hb2
    obtain ⟨wo, rfl⟩ : ∃ wo : World, wo = wr := ⟨_, rfl⟩
    go_wp2_with (at_next; refine wpList_next_ranges_ss _ rfl _ rfl 9 9 kstr Tryd.underlying9 Tryd.underlying9 _ r 14 plainD left cnt rfl hrg ?_ ?_)
    · intro _ hl0
      go_wp2
      go_ret
      exact ⟨rfl, ⟨n, D, hown, good_end hgood hl0⟩, hbw⟩
    · intro x c w3 cnt3 hwx hwc hlx hat hrg3 hlt hg3 hs3 hen
      have hpr := plain_hit hat
      have hc8 : c.size ≤ 8 := by have := gpairs_short _ hpr; simpa using this
      have hkr : r < wo.heap.size := hrg.lt
      have hit0 : (w3.iter c 0).heap[wo.heap.size]? = some (.stringIter c 0) := by rw [← hs3]; exact World.iter_heap w3 c 0
      have hrgI : (w3.iter c 0).ranges Tryd.prog 9 (plainElem Tryd.prog 9) (w.heap.size + 1) r 14 plainD (fun z : Lit => left z && !z.sameKey (Lit.string x.data.toList)) cnt3 := hrg3.alloc _
      have hownI : (w3.iter c 0).ownsMap Tryd.prog 21 (plainElem Tryd.prog 9) w.heap.size n D := (hown.kept hg3 (by simp; omega)).alloc _
      have hbI : Below w.heap.size w (w3.iter c 0) := (hbw.grown hg3 hbw.size (fun j hj => by cases hj; omega)).alloc (Nat.le_trans hbw.size (Nat.le_of_eq hs3.symm)) _
      have hgs := good_step hgood hpr
      have hwB : w.heap.size ≤ wo.heap.size := hbw.size
      have hl0 := Lib.hid hrg.left_eq
      clear hat hlx hgood hrg hown hbw hrg3
      go_wp2
      generalize (fun z : Lit => left z && !z.sameKey (Lit.string x.data.toList)) = left1 at hrgI hgs
      clear hen hs3 hg3
      generalize w3.iter c 0 = wi0 at hit0 hrgI hownI hbI
      have hin0 : putR D x.data.toList (runes (c.data.toList.drop 0)) = putR D x.data.toList (runes c.data.toList) := by rw [List.drop_zero]
      obtain ⟨Dend, hDend⟩ : ∃ Dend, Dend = putR D x.data.toList (runes c.data.toList) := ⟨_, rfl⟩
      rw [← hDend] at hgs hin0
      clear hDend
      go_loopw [] (fun wi => ∃ (pos m : Nat) (D' : DataW H), pos ≤ c.size ∧ wi.heap[wo.heap.size]? = some (.stringIter c pos) ∧ wi.ranges Tryd.prog 9 (plainElem Tryd.prog 9) (w.heap.size + 1) r 14 plainD left1 cnt3 ∧ wi.ownsMap Tryd.prog 21 (plainElem Tryd.prog 9) w.heap.size m D' ∧ m ≤ n + pos ∧ putR D' x.data.toList (runes (c.data.toList.drop pos)) = Dend ∧ Below w.heap.size w wi) (fun wi => c.size - wi.iterPos wo.heap.size)
      case atStart => exact ⟨0, n, D, by omega, hit0, hrgI, hownI, by omega, hin0, hbI⟩
      case round =>
        clear hit0 hrgI hownI hbI hin0
        obtain ⟨pos, m, D', hpc, hit, hrgi, howni, hm, hput, hbi⟩ := hrel
        have hsl : wo.heap.size < wr.heap.size := (Array.getElem?_eq_some_iff.1 hit).1
        by_cases hp : pos < c.size
        · have hnx : ∀ ty, (Instr.next (.pointer (some ⟨wo.heap.size, 0, none⟩)) true ty).run Tryd.prog wr = _ := fun ty => Lib.run_next_any_at wr wo.heap.size c pos ty hit hp
          have hd1 := decode_le c pos
          obtain ⟨hd2, hd3⟩ := decode_w c pos hp
          have hru := runes_at c pos hp
          have hit2 := Lib.iterAt_heap wr wo.heap.size c pos (pos + (Utf8.decode c pos).2) hit
          have hrg2 := hrgi.kept (grown_iterAt wr wo.heap.size c (pos + (Utf8.decode c pos).2)) (by simp; omega) (by simp; omega)
          have hown2 := howni.kept (grown_iterAt wr wo.heap.size c (pos + (Utf8.decode c pos).2)) (by simp; omega)
          have hb2 := Lib.below_iterAt hbi (k := wo.heap.size) (by omega) c (pos + (Utf8.decode c pos).2)
          rw [hru] at hput
          clear hru hrgi howni hbi
          have hwfr : (Lit.int .i32 ((Utf8.decode c pos).1 : Int)).wf = true := WalkArith.wf_i32 ⟨by omega, by omega⟩
          go_wp2_with (at_mapUpdate; refine wpList_mapUpdate_own _ rfl _ _ _ 104 rfl 21 9 krune Tryd.underlying104 _ _ m _ rfl hown2 (by unfold maxLen; omega) _ _ _ rfl rfl (keyOf_int_mk Tryd.underlying21 hwfr) _ [] (plainElem_string Tryd.underlying9 hwx) ?_; intro w5 hown5 hg5; go_frame)
          have hit5 : w5.heap[wo.heap.size]? = some (.stringIter c (pos + (Utf8.decode c pos).2)) := (hg5.block wo.heap.size (by rw [Lib.iterAt_size]; exact hsl) (by simp; omega)).trans hit2
          have hrg5 := hrg2.kept hg5 (by simp) (by simp; omega)
          have hb5 : Below w.heap.size w w5 := hb2.grown hg5 (by rw [Lib.iterAt_size]; omega) (fun j hj => by cases hj; exact Nat.le_refl _)
          go_roundw
          case rel => exact ⟨pos + (Utf8.decode c pos).2, m + 1, _, hd3, hit5, hrg5, hown5, by omega, hput, hb5⟩
          case measure =>
            simp only [World.iterPos, hit5, hit]
            omega
        · have hnx : ∀ ty, (Instr.next (.pointer (some ⟨wo.heap.size, 0, none⟩)) true ty).run Tryd.prog wr = _ := fun ty => Lib.run_next_end_at wr wo.heap.size c pos ty hit hp
          rw [runes_end c pos hp] at hput
          have hput' : D' = Dend := hput
          subst hput'
          have hlw := hrgi.left_eq
          go_wp2
          go_roundw
          case rel => exact ⟨left1, cnt3, m, D', hrgi, howni, hgs, by omega, hbi⟩
          case measure =>
            rw [hlw, hl0.out]
            exact hlt

theorem ret_int {k : IntKind} {a b : Int} (h : a = b) : Ending.returned (.int k a) = .returned (.int k b) := by rw [h]
theorem ret_bool {a b : Bool} (h : a = b) : Ending.returned (.bool a) = .returned (.bool b) := by rw [h]
theorem ret_str {a b : ByteArray} (h : a = b) : Ending.returned (.string a) = .returned (.string b) := by rw [h]

set_option maxHeartbeats 1000000 in
set_option maxRecDepth 100000 in
theorem small_any (r : Nat) (hr : r ≤ 2147483647) (w : World) : Calls Tryd.prog 73 #[.int .i32 r] w fun e w' => e = .returned (.int .i32 (smallR r)) ∧ w = w' := by
  unfold smallR
  split
  · go_enter Tryd.func73, Tryd.ntmps73
    go_wp2
    go_ret
    exact ⟨ret_int (by omega), rfl⟩
  · split
    · go_enter Tryd.func73, Tryd.ntmps73
      go_wp2
      go_ret
      exact ⟨ret_int (by omega), rfl⟩
    · by_cases e : r = 215
      · subst e
        go_enter Tryd.func73, Tryd.ntmps73
        go_wp2
        go_ret
        exact ⟨ret_int (by omega), rfl⟩
      · have hne : ((r : Int) != 215) = true := by simp; omega
        go_enter Tryd.func73, Tryd.ntmps73
        go_wp2
        all_goals (go_ret; exact ⟨ret_int (by omega), rfl⟩)

set_option maxHeartbeats 1000000 in
set_option maxRecDepth 100000 in
theorem letter_any (c : Nat) (hc : c ≤ 255) (w : World) : Calls Tryd.prog 19 #[.int .u8 c] w fun e w' => e = .returned (.bool (letterN c)) ∧ w = w' := by
  go_enter Tryd.func19, Tryd.ntmps19
  go_wp2
  all_goals (go_ret; exact ⟨ret_bool (by rw [Bool.eq_iff_iff]; simp [letterN]; omega), rfl⟩)

set_option maxHeartbeats 1000000 in
theorem letters_any {H : Type} (w : World) : Calls Tryd.prog 74 #[] w fun e w' => e = .returned (.map (some w.heap.size)) ∧ TabPost H w w' ∧ Below w.heap.size w w' := by
  go_enter Tryd.func74, Tryd.ntmps74
  go_wp2_with (go_at_call 87; refine (table_any (H := H) _).mono ?_; rintro e w1 ⟨rfl, hp, hb1⟩)
  go_ret
  exact ⟨rfl, hp, hb1⟩

theorem enc_low (q : Nat) (h : q < 128) : Utf8.encode (q : Int) = ⟨[UInt8.ofNat q].toArray⟩ := by
  have hv : Utf8.valid (q : Int) = true := by simp [Utf8.valid]; omega
  unfold Utf8.encode
  rw [hv]
  simp only [if_true, Int.toNat_natCast]
  rw [if_pos (by omega)]
theorem zero9 (w : World) : (zeroValue 9).run Tryd.prog w = .ok (.string ByteArray.empty) w := by kernel_rfl
set_option maxHeartbeats 1000000 in
set_option maxRecDepth 100000 in
theorem fold_any (r : Nat) (hr : r ≤ 1114111) (w : World) : Calls Tryd.prog 48 #[.int .i32 r] w fun e w' => e = .returned (.string ⟨(foldR r).toArray⟩) ∧ Below w.heap.size w w' := by
  have hsm : smallR r ≤ 1114200 := by unfold smallR; split; omega; split <;> omega
  unfold foldR
  have cs := small_any r (by omega)
  generalize smallR r = q at cs hsm
  have Hs := Lib.hid cs
  clear cs
  have hwf : (Lit.int .i32 (q : Int)).wf = true := WalkArith.wf_i32 ⟨by omega, by omega⟩
  cases hm : markedR q with
  | some t =>
    have hf : foldS q = t := by unfold foldS; rw [hm]
    rw [hf]
    have Hm := Lib.hid hm
    clear hm hf
    go_enter Tryd.func48, Tryd.ntmps48
    go_wp2_with (first | (go_at_call 73; refine (Hs.out _).mono ?_; rintro e w1 ⟨rfl, rfl⟩) | (go_at_call 74; refine (letters_any (H := Unit) _).mono ?_; rintro e w1 ⟨rfl, ⟨n, D, hown, hq⟩, hb1⟩; obtain ⟨h1, h2⟩ := hq q; rw [Hm.out] at h1 h2; replace h2 := Lib.hid h2; clear hq) | (at_lookup; refine wpList_lookup_own_ok_string _ rfl _ _ 104 rfl 21 9 krune Tryd.underlying104 Tryd.underlying9 (zero9 _) _ n D rfl hown _ _ rfl (keyOf_int_mk Tryd.underlying21 hwf) ?_; intro c hat hcs; replace hat := Lib.hid hat))
    go_ret
    have e1 := hat.out.symm.trans h2.out
    simp only [Option.getD_some, DataW.lit.injEq, Lit.string.injEq] at e1
    exact ⟨ret_str (by rw [← e1]), hb1⟩
  | none =>
    have Hm := Lib.hid hm
    by_cases hl : q < 128 ∧ letterN q = true
    · have hf : foldS q = [UInt8.ofNat q] := by unfold foldS; rw [hm]; simp only; rw [if_pos hl]
      rw [hf]
      clear hm hf
      obtain ⟨hq1, hq2⟩ := hl
      have hq3 : ((q : Int) < 128) := by omega
      have HL : ∀ w, Calls Tryd.prog 19 #[.int .u8 q] w fun e w' => e = .returned (.bool true) ∧ w = w' := fun w => by have := letter_any q (by omega) w; rw [hq2] at this; exact this
      clear hq2
      replace HL := Lib.hid HL
      go_enter Tryd.func48, Tryd.ntmps48
      go_wp2_with (first | (go_at_call 73; refine (Hs.out _).mono ?_; rintro e w1 ⟨rfl, rfl⟩) | (go_at_call 74; refine (letters_any (H := Unit) _).mono ?_; rintro e w1 ⟨rfl, ⟨n, D, hown, hq⟩, hb1⟩; obtain ⟨h1, h2⟩ := hq q; rw [Hm.out] at h1 h2; clear h2 hq) | (at_lookup; refine wpList_lookup_own_ok_string _ rfl _ _ 104 rfl 21 9 krune Tryd.underlying104 Tryd.underlying9 (zero9 _) _ n D rfl hown _ _ rfl (keyOf_int_mk Tryd.underlying21 hwf) ?_; intro c hat hcs; clear hat) | (go_at_call 19; refine (HL.out _).mono ?_; rintro e w2 ⟨rfl, rfl⟩))
      go_ret
      exact ⟨ret_str (enc_low q (by omega)), hb1⟩
    · have hf : foldS q = [32] := by unfold foldS; rw [hm]; simp only; rw [if_neg hl]
      rw [hf]
      clear hm hf
      have HL : ∀ w, q < 128 → Calls Tryd.prog 19 #[.int .u8 q] w fun e w' => e = .returned (.bool false) ∧ w = w' := fun w h => by
        have := letter_any q (by omega) w
        have e : letterN q = false := by cases h0 : letterN q; rfl; exact absurd ⟨h, h0⟩ hl
        rw [e] at this
        exact this
      clear hl
      replace HL := Lib.hid HL
      go_enter Tryd.func48, Tryd.ntmps48
      go_wp2_with (first | (go_at_call 73; refine (Hs.out _).mono ?_; rintro e w1 ⟨rfl, rfl⟩) | (go_at_call 74; refine (letters_any (H := Unit) _).mono ?_; rintro e w1 ⟨rfl, ⟨n, D, hown, hq⟩, hb1⟩; obtain ⟨h1, h2⟩ := hq q; rw [Hm.out] at h1 h2; clear h2 hq) | (at_lookup; refine wpList_lookup_own_ok_string _ rfl _ _ 104 rfl 21 9 krune Tryd.underlying104 Tryd.underlying9 (zero9 _) _ n D rfl hown _ _ rfl (keyOf_int_mk Tryd.underlying21 hwf) ?_; intro c hat hcs; clear hat) | (go_at_call 19; refine (HL.out _ (by omega)).mono ?_; rintro e w2 ⟨rfl, rfl⟩))
      all_goals (go_ret; exact ⟨rfl, hb1⟩)
#print axioms fold_any
end Go.Proofs.YtpejnnnkamodbaaDoor
/- strings.Builder in this program: copyCheck, WriteString, String, at a builder that the call itself has made. -/
namespace Go.Proofs.YtpejnnnkamodbaaDoor
open Go Go.RowKit

theorem sizeB : (Tryd.prog.info? 70).map (·.size) = some 2 := by kernel_rfl
theorem liesB : liesAt Tryd.prog Tryd.prog.depth 70 (2 / Tryd.prog.cellsOf 70) 0 70 1 = true := by kernel_rfl
theorem info5 : (Tryd.prog.info? 5).map (fun i => (i.zero, i.size, i.bytes)) = some (some (.int .u8 0), 1, 1) := by kernel_rfl
set_option maxHeartbeats 1000000 in
set_option maxRecDepth 100000 in
theorem copy_used (b : Nat) (w : World) (h0 : w.cell? ⟨b, 0, none⟩ = some (.pointer (some ⟨b, 0, none⟩))) :
    Calls Tryd.prog 72 #[.pointer (some ⟨b, 0, none⟩)] w fun e w' => e = .returned (.tuple #[]) ∧ w' = w := by
  obtain ⟨j, hj, _⟩ := Option.map_eq_some_iff.1 sizeB
  go_enter Tryd.func72, Tryd.ntmps72
  go_wp2
  rw [Lib.run_neq_ptr_same w _ Tryd.underlying68 hj]
  go_wp2
  go_end0
  exact ⟨rfl, rfl⟩
set_option maxHeartbeats 1000000 in
set_option maxRecDepth 100000 in
theorem copy_fresh (b : Nat) (w : World) (h0 : w.cell? ⟨b, 0, none⟩ = some (.pointer none)) (hsh : w.shape? b = some (70, 2)) (hfz : w.frozen? ⟨b, 0, none⟩ = false) :
    Calls Tryd.prog 72 #[.pointer (some ⟨b, 0, none⟩)] w fun e w' => e = .returned (.tuple #[]) ∧ w' = w.setCell ⟨b, 0, none⟩ (.pointer (some ⟨b, 0, none⟩)) := by
  obtain ⟨j, hj, hjs⟩ := Option.map_eq_some_iff.1 sizeB
  go_enter Tryd.func72, Tryd.ntmps72
  go_wp2
  rw [Lib.run_to_unsafe w ⟨b, 0, none⟩ Tryd.underlying68 Tryd.underlying122 hj (by rw [hjs]; decide) hsh (Nat.zero_lt_succ 1)]
  simp only [Result.andThen]
  rw [Oper.upon_value]
  go_wp2
  rw [run_callFunc_extern Tryd.func86 (by kernel_rfl) (by kernel_rfl) (by kernel_rfl) (e := Extern.AbiNoEscape.same) (by kernel_rfl)]
  rw [Lib.run_noEscape]
  simp only [Result.andThen]
  rw [Oper.upon_value]
  go_wp2
  rw [Lib.run_from_unsafe w ⟨b, 0, none⟩ Tryd.underlying122 Tryd.underlying68 hj hsh liesB]
  simp only [Result.andThen]
  rw [Oper.upon_value]
  go_wp2
  go_end0
  exact ⟨rfl, rfl⟩
theorem copy_any (B b : Nat) (bs : List Value) (w : World) (h : Lib.IsBuilderF 70 5 B b bs w) :
    Calls Tryd.prog 72 #[.pointer (some ⟨b, 0, none⟩)] w fun e w' => e = .returned (.tuple #[]) ∧ (Lib.BuilderAtF 70 5 B b (.pointer (some ⟨b, 0, none⟩)) bs w' ∧ Below B w w' ∧ Lib.OthersKept 5 (some b) w w') := by
  rcases h with h | h
  · refine (copy_fresh b w h.cell0 h.shape h.frozen0).mono ?_
    rintro e w' ⟨rfl, rfl⟩
    exact ⟨rfl, h.used _, (Below.refl B w).setCell (p := ⟨b, 0, none⟩) h.1 _, (Lib.OthersKept.refl _ _ w).setCell ⟨b, 0, none⟩ rfl _⟩
  · refine (copy_used b w h.cell0).mono ?_
    rintro e w' ⟨rfl, rfl⟩
    exact ⟨rfl, h, Below.refl B _, Lib.OthersKept.refl _ _ _⟩
set_option maxHeartbeats 2000000 in
set_option maxRecDepth 100000 in
theorem write_any (B b : Nat) (bs : List Value) (s : ByteArray) (w : World) (h : Lib.IsBuilderF 70 5 B b bs w) (hlen : bs.length + s.size ≤ 140737488355328) (hBw : B ≤ w.heap.size) :
    Calls Tryd.prog 47 #[.pointer (some ⟨b, 0, none⟩), .string s] w fun e w' => e = .returned (.tuple #[.int .i64 s.size, .nilIface]) ∧ (Lib.BuilderAtF 70 5 B b (.pointer (some ⟨b, 0, none⟩)) (bs ++ Lib.strCells s) w' ∧ Below B w w' ∧ Lib.OthersKept 5 (some b) w w') := by
  obtain ⟨i0, hi, hz0, hz1, hz2⟩ := info_parts info5
  go_enter Tryd.func47, Tryd.ntmps47
  go_wp2_with (go_at_call 72; refine (copy_any B b bs _ h).mono ?_)
  rintro e w1 ⟨rfl, h1, hb1, hk1⟩
  obtain ⟨hB, v, hbk, hown, hne⟩ := h1
  have c0 : w1.cell? ⟨b, 0, none⟩ = some (.pointer (some ⟨b, 0, none⟩)) := by rw [Lib.cell_of_heap hbk]; rfl
  have c1 : w1.cell? ⟨b, 1, none⟩ = some v := by rw [Lib.cell_of_heap hbk]; rfl
  go_wp2_with (at_builtin; refine Lib.wpList_append_own_stringF _ rfl _ _ 35 9 rfl B 5 i0 Tryd.underlying35 Tryd.underlying9 hi hz0 hz1 hz2 _ _ _ rfl hown s rfl ?c3 ?c4 ?c5 ?_)
  case c3 => unfold maxLen; omega
  case c4 => omega
  case c5 => have := hb1.size; omega
  intro v' w2 hown' hgrow _
  have hlt : b < w1.heap.size := (Array.getElem?_eq_some_iff.1 hbk).1
  have hb2 : w2.heap[b]? = some (.cells #[.pointer (some ⟨b, 0, none⟩), v] 70 (0, 0)) := by
    rw [hgrow.block b hlt (fun e => hne e.symm)]
    exact hbk
  have d0 : w2.cell? ⟨b, 0, none⟩ = some (.pointer (some ⟨b, 0, none⟩)) := by rw [Lib.cell_of_heap hb2]; rfl
  have d1 : w2.cell? ⟨b, 1, none⟩ = some v := by rw [Lib.cell_of_heap hb2]; rfl
  have f1 : w2.frozen? ⟨b, 1, none⟩ = false := Lib.frozen_of_heap hb2 1
  obtain ⟨ao, n', cap, rfl⟩ : ∃ ao n' cap, v' = .slice ao n' cap := by
    rcases hown'.2 with ⟨hv, _⟩ | ⟨g, cap, cur, fz, hv, _⟩
    · exact ⟨_, _, _, hv⟩
    · exact ⟨_, _, _, hv⟩
  go_wp2
  go_ret2
  refine ⟨rfl, ?_, ?_, (hk1.grown hgrow (Lib.ownsRowF_kind hown)).setCell ⟨b, 1, none⟩ rfl _⟩
  · exact Lib.BuilderAtF.put (T := 70) (e := 5) hB hb2 (bs' := bs ++ Lib.strCells s) (by simpa [Lib.strCells_length] using hown') (by decide)
  · exact (hb1.grown hgrow (by have := hb1.size; omega) (fun k hk => (hown.lt k hk).1)).setCell (p := ⟨b, 1, none⟩) hB _
#print axioms write_any
end Go.Proofs.YtpejnnnkamodbaaDoor
/- words.Split, Join, Fold, Plain of this program: what they compute, for every text that is not too long. -/
namespace Go.Proofs.YtpejnnnkamodbaaDoor
open Go Go.RowKit

/-- The library's tables lie as their initialisers lay them; the package-level variables' blocks come first. -/
def Tabs (w : World) : Prop := Lib.TabIs Tryd.prog w "strings.asciiSpace" .u8 Lib.asciiSpaceTab ∧ Lib.Utf8Tabs 1 2 w ∧ 3 ≤ w.heap.size
theorem gAscii : Tryd.prog.globalNamed "strings.asciiSpace" = some 0 := by kernel_rfl
theorem Tabs.below {B : Nat} {w w' : World} (h : Tabs w) (hb : Below B w w') (hB : 3 ≤ B) : Tabs w' := by
  obtain ⟨h1, ⟨h2, h3⟩, h4⟩ := h
  refine ⟨var?_below hb gAscii (by omega) h1, ⟨fun c hc => ?_, fun i hi => ?_⟩, Nat.le_trans h4 hb.size⟩
  · rw [hb.cell (p := ⟨1, c, none⟩) (show 1 < B by omega)]
    exact h2 c hc
  · rw [hb.cell (p := ⟨2, 2 * i, none⟩) (show 2 < B by omega), hb.cell (p := ⟨2, 2 * i + 1, none⟩) (show 2 < B by omega)]
    exact h3 i hi
theorem Tabs.six {w : World} (h : Tabs w) : 3 ≤ w.heap.size := h.2.2

/-- Where the rune at a place is read again behind the place. -/
theorem decode_again (s : ByteArray) (pos : Nat) (h : pos < s.size) : Lib.decodeGo (s.extract pos s.size) = Utf8.decode s pos := by
  unfold Lib.decodeGo
  have hl : s.data.toList.length = s.size := by simp
  have e : (s.extract pos s.size).data.toList = s.data.toList.drop pos := by
    rw [Lib.extract_data]
    exact List.take_of_length_le (by rw [List.length_drop]; omega)
  rw [if_neg (by simp; omega), ← Lib.decodeL_drop, ← Lib.decodeL_drop, List.drop_zero, e]
theorem raw_at (s : ByteArray) (pos : Nat) (h : pos < s.size) : raw (s.data.toList.drop pos) = (if Utf8.decode s pos = (65533, 1) then [] else foldR (Utf8.decode s pos).1) ++ raw (s.data.toList.drop (pos + (Utf8.decode s pos).2)) := by
  have hl : s.data.toList.length = s.size := by simp
  rw [raw_cons _ (by intro h0; have := congrArg List.length h0; rw [List.length_drop, hl] at this; simp at this; omega)]
  unfold piece
  rw [Lib.decodeL_drop, List.drop_drop]
theorem raw_end (s : ByteArray) (pos : Nat) (h : ¬ pos < s.size) : raw (s.data.toList.drop pos) = [] := by
  have hl : s.data.toList.length = s.size := by simp
  rw [List.drop_of_length_le (by omega)]; rfl

theorem grown_below {w w' : World} (h : Below w.heap.size w w') : w.grownBy w' none := ⟨h.os, h.tape, h.output, h.size, fun i hi _ => h.block i hi⟩
theorem isB_below {T e : TypeId} {B b : Nat} {bs : List Value} {w w' : World} (h : Lib.IsBuilderF T e B b bs w) (hb : Below w.heap.size w w') : Lib.IsBuilderF T e B b bs w' := by
  have key : ∀ p, Lib.BuilderAtF T e B b p bs w → Lib.BuilderAtF T e B b p bs w' := fun p h => by
    have hlt := h.lt
    obtain ⟨hB, v, hbk, hown, hne⟩ := h
    exact ⟨hB, v, (hb.block b hlt).trans hbk, hown.kept (grown_below hb) (by cases hv : v.ownBlock <;> simp), hne⟩
  exact h.elim (fun h => Or.inl (key _ h)) (fun h => Or.inr (key _ h))

/-- What Split's call leaves. -/
def SplitPost (s : ByteArray) (w : World) (e : Ending) (w' : World) : Prop :=
  ∃ A, e = .returned (.slice (some ⟨A, 0, none⟩) (splitT s.data.toList).length (splitT s.data.toList).length) ∧ w.heap.size ≤ A ∧ w'.heap[A]? = some (.cells ((splitT s.data.toList).map fun l => Value.string ⟨l.toArray⟩).toArray 9 (0, 0)) ∧ Below w.heap.size w w'

set_option maxHeartbeats 4000000 in
set_option maxRecDepth 1000000 in
theorem split_any (s : ByteArray) (w : World) (hs : s.size ≤ 1000000000) (hT : Tabs w) : Calls Tryd.prog 22 #[.string s] w (SplitPost s w) := by
  have h6 := hT.six
  go_enter Tryd.func22, Tryd.ntmps22
  go_wp2
  go_loopw [] (fun wr => ∃ (pos : Nat) (acc : List UInt8), pos ≤ s.size ∧ Lib.IsBuilderF 70 5 w.heap.size w.heap.size (Lib.byteCells acc) wr ∧ wr.heap[w.heap.size + 1]? = some (.stringIter s pos) ∧ Below w.heap.size w wr ∧ acc ++ raw (s.data.toList.drop pos) = raw s.data.toList ∧ acc.length ≤ 2 * pos) (fun wr => s.size - wr.iterPos (w.heap.size + 1))
  case atStart =>
    refine ⟨0, [], by omega, (Lib.IsBuilderF.of (Lib.fresh_isBuilder 70 5 w)).alloc _, ?_, ((Below.refl _ w).alloc (Nat.le_refl _) _).alloc (by simp) _, by simp, by simp⟩
    have := World.iter_heap (w.alloc (.cells #[.pointer none, .slice none 0 0] 70)) s 0
    simpa using this
  case round =>
    obtain ⟨pos, acc, hps, hI, hit, hbw, hacc, hal⟩ := hrel
    have hsz : w.heap.size + 1 < wr.heap.size := (Array.getElem?_eq_some_iff.1 hit).1
    by_cases hp : pos < s.size
    · have hnx : ∀ ty, (Instr.next (.pointer (some ⟨w.heap.size + 1, 0, none⟩)) true ty).run Tryd.prog wr = _ := fun ty => Lib.run_next_any_at wr (w.heap.size + 1) s pos ty hit hp
      have hd1 := decode_le s pos
      obtain ⟨hd2, hd3⟩ := decode_w s pos hp
      have hI2 := hI.iterAt hit (pos + (Utf8.decode s pos).2)
      have hit2 := Lib.iterAt_heap wr (w.heap.size + 1) s pos (pos + (Utf8.decode s pos).2) hit
      have hbw2 := Lib.below_iterAt hbw (k := w.heap.size + 1) (by omega) s (pos + (Utf8.decode s pos).2)
      have hsz2 : w.heap.size ≤ (wr.iterAt (w.heap.size + 1) s (pos + (Utf8.decode s pos).2)).heap.size := by rw [Lib.iterAt_size]; omega
      have hra := raw_at s pos hp
      have hag := decode_again s pos hp
      have hrl := Lib.rune_le s pos
      rw [hra] at hacc
      clear hra hd1
      obtain ⟨d, hd⟩ : ∃ d, d = Utf8.decode s pos := ⟨_, rfl⟩
      rw [← hd] at hd2 hd3 hI2 hit2 hbw2 hsz2 hacc hag hrl hnx
      clear hd
      obtain ⟨r, wd⟩ := d
      simp only at hd2 hd3 hI2 hit2 hbw2 hsz2 hrl hnx
      have hTn := hT.below hbw2 h6
      generalize hwn : wr.iterAt (w.heap.size + 1) s (pos + wd) = wn at hnx hI2 hit2 hbw2 hsz2 hTn
      clear hwn
      have hsn : w.heap.size + 1 < wn.heap.size := (Array.getElem?_eq_some_iff.1 hit2).1
      by_cases hr : r = 65533
      · subst hr
        by_cases hw1 : wd = 1
        · subst hw1
          have hacc' : acc ++ raw (s.data.toList.drop (pos + 1)) = raw s.data.toList := by simpa using hacc
          clear hacc
          replace hacc' := Lib.hid hacc'
          replace hag := Lib.hid hag
          go_wp2_with (go_at_call 46; refine (Tryd.utf8_DecodeRuneInString _ _ hTn.2.1).mono ?_; rintro e W1 ⟨rfl, hb1⟩; rw [hag.out])
          go_roundw
          case rel => exact ⟨pos + 1, acc, hd3, isB_below hI2 hb1, (hb1.block _ hsn).trans hit2, hbw2.trans (hb1.mono hsz2), hacc'.out, by omega⟩
          case measure =>
            simp only [World.iterPos, (hb1.block _ hsn).trans hit2, hit]
            omega
        · have hacc' : acc ++ foldR 65533 ++ raw (s.data.toList.drop (pos + wd)) = raw s.data.toList := by rw [if_neg (by simpa using hw1)] at hacc; simpa using hacc
          clear hacc
          replace hacc' := Lib.hid hacc'
          replace hag := Lib.hid hag
          have hw1' : ((wd : Int) == 1) = false := by simp; omega
          have hfl := foldR_len 65533
          have hal2 : (Lib.byteCells acc).length + (⟨(foldR 65533).toArray⟩ : ByteArray).size ≤ 140737488355328 := by rw [Lib.byteCells_length]; show _ + (foldR 65533).toArray.size ≤ _; simp; omega
          have cf := fold_any 65533 (by omega)
          generalize foldR 65533 = f5 at cf hal2 hfl hacc'
          replace cf := Lib.hid cf
          go_wp2_with (first | (go_at_call 46; refine (Tryd.utf8_DecodeRuneInString _ _ hTn.2.1).mono ?_; rintro e W0 ⟨rfl, hb0⟩; rw [hag.out]) | (go_at_call 48; refine (cf.out _).mono ?_; rintro e W1 ⟨rfl, hb1⟩))
          have hI4 := isB_below (isB_below hI2 hb0) hb1
          have hit4 := (hb1.block _ (Nat.lt_of_lt_of_le hsn hb0.size)).trans ((hb0.block _ hsn).trans hit2)
          have hbw4 := (hbw2.trans (hb0.mono hsz2)).trans (hb1.mono (Nat.le_trans hsz2 hb0.size))
          have hsz4 : w.heap.size ≤ W1.heap.size := Nat.le_trans hsz2 (Nat.le_trans hb0.size hb1.size)
          go_wp2_with (go_at_call 47; refine (write_any w.heap.size w.heap.size _ _ W1 hI4 hal2 hsz4).mono ?_; rintro e W2 ⟨rfl, h2, hb2, hk2⟩)
          go_roundw
          case rel =>
            refine ⟨pos + wd, acc ++ f5, hd3, ?_, hk2.iter hit4 (by omega), hbw4.trans hb2, hacc'.out, by simp; omega⟩
            rw [Lib.byteCells_append]
            exact Or.inr h2
          case measure =>
            simp only [World.iterPos, hk2.iter hit4 (by omega), hit]
            omega
      · have hacc' : acc ++ foldR r ++ raw (s.data.toList.drop (pos + wd)) = raw s.data.toList := by rw [if_neg (by simp [hr])] at hacc; simpa using hacc
        clear hacc
        replace hacc' := Lib.hid hacc'
        have hr' : ((r : Int) == 65533) = false := by simp; omega
        have hfl := foldR_len r
        have hal2 : (Lib.byteCells acc).length + (⟨(foldR r).toArray⟩ : ByteArray).size ≤ 140737488355328 := by rw [Lib.byteCells_length]; show _ + (foldR r).toArray.size ≤ _; simp; omega
        go_wp2_with (go_at_call 48; refine (fold_any r hrl _).mono ?_; rintro e W1 ⟨rfl, hb1⟩)
        go_wp2_with (go_at_call 47; refine (write_any w.heap.size w.heap.size _ _ W1 (isB_below hI2 hb1) hal2 (Nat.le_trans hsz2 hb1.size)).mono ?_; rintro e W2 ⟨rfl, h2, hb2, hk2⟩)
        go_roundw
        case rel =>
          refine ⟨pos + wd, acc ++ foldR r, hd3, ?_, hk2.iter ((hb1.block _ hsn).trans hit2) (by omega), (hbw2.trans (hb1.mono hsz2)).trans hb2, hacc'.out, by simp; omega⟩
          rw [Lib.byteCells_append]
          exact Or.inr h2
        case measure =>
          simp only [World.iterPos, hk2.iter ((hb1.block _ hsn).trans hit2) (by omega), hit]
          omega
    · have hnx : ∀ ty, (Instr.next (.pointer (some ⟨w.heap.size + 1, 0, none⟩)) true ty).run Tryd.prog wr = _ := fun ty => Lib.run_next_end_at wr (w.heap.size + 1) s pos ty hit hp
      have hra := raw_end s pos hp
      rw [hra, List.append_nil] at hacc
      subst hacc
      have hTw := hT.below hbw h6
      have hrl := raw_len s.data.toList.length s.data.toList (Nat.le_refl _)
      have hls := raw_ls s.data.toList
      have hl : s.data.toList.length = s.size := by simp
      rw [hl] at hrl
      have hTs : Lib.TabIs Tryd.prog wr "strings.asciiSpace" .u8 Lib.asciiSpaceTab := hTw.1
      go_wp2_with (go_at_call 50; refine (Tryd.Builder_String_any_k w.heap.size w.heap.size _ _ hI (by omega)).mono ?_)
      rintro e W1 ⟨rfl, _, b1, _⟩
      have hTf := (hTw.below b1 h6).1
      have hs1 : (⟨(raw s.data.toList).toArray⟩ : ByteArray).size < 4294967281 := by show (raw s.data.toList).toArray.size < _; simp; omega
      have ha1 : ∀ (j : Nat) (b : UInt8), (⟨(raw s.data.toList).toArray⟩ : ByteArray).data.toList[j]? = some b → b.toNat < 128 := fun j b hb => LS_lt (hls b (List.mem_of_getElem? (by simpa using hb)))
      clear hTs hls hl hra hrl
      go_wp2_with (go_at_call 49; refine (Tryd.strings_Fields _ _ hs1 ha1 hTf).mono ?_; rintro e W2 ⟨rfl, rfl⟩)
      go_ret
      have hz : (W1.alloc (Obj.cells ((splitT s.data.toList).map fun l => Value.string ⟨l.toArray⟩).toArray 9)).heap[W1.heap.size]? = _ := (MapKept.heap_alloc W1 _).1
      exact ⟨W1.heap.size, rfl, Nat.le_trans hbw.size b1.size, hz, (hbw.trans b1).alloc (Nat.le_trans hbw.size b1.size) _⟩
#print axioms split_any
end Go.Proofs.YtpejnnnkamodbaaDoor
/- words.Join, Fold, Plain of this program. -/
namespace Go.Proofs.YtpejnnnkamodbaaDoor
open Go Go.RowKit

set_option maxHeartbeats 1000000 in
theorem join_any (bk o c : Nat) (xs : List ByteArray) (w : World) (hcells : ∀ (j : Nat) (x : ByteArray), xs[j]? = some x → w.cell? ⟨bk, o + j, none⟩ = some (.string x)) (hbk : bk < w.heap.size) (hN : xs.length ≤ 1000000000000) (hcap : xs.length ≤ c)
    (hlen : (Lib.join (xs.map fun x => x.data.toList) [32]).length ≤ 100000000000000) :
    Calls Tryd.prog 21 #[.slice (some ⟨bk, o, none⟩) xs.length c] w fun e w' => e = .returned (.string ⟨(Lib.join (xs.map fun x => x.data.toList) [32]).toArray⟩) ∧ Below w.heap.size w w' := by
  have cj := Lib.hid (Tryd.strings_Join bk o c xs ⟨#[32]⟩ w hcells hbk (by omega) hcap (by show (Lib.join _ [32]).length ≤ _; omega))
  clear hcells
  go_enter Tryd.func21, Tryd.ntmps21
  go_wp2_with (go_at_call 45; refine cj.out.mono ?_; rintro e w1 ⟨rfl, hb1⟩)
  go_ret
  exact ⟨rfl, hb1⟩
/-- An empty list has no words. -/
theorem cell_row {w : World} {A : Nat} {cs : Array Value} {T : TypeId} {fz : Nat × Nat} (h : w.heap[A]? = some (.cells cs T fz)) (j : Nat) : w.cell? ⟨A, j, none⟩ = cs[j]? := by
  simp [World.cell?, h]
theorem join_row (l : List UInt8) (A : Nat) (w1 : World) (hl : l.length ≤ 1000000000) (hrow : w1.heap[A]? = some (.cells ((splitT l).map fun l => Value.string ⟨l.toArray⟩).toArray 9 (0, 0))) :
    Calls Tryd.prog 21 #[.slice (some ⟨A, 0, none⟩) (splitT l).length (splitT l).length] w1 fun e w' => e = .returned (.string ⟨(foldT l).toArray⟩) ∧ Below w1.heap.size w1 w' := by
  have h1 := fold_len l
  have h2 := split_len l
  have hlt : A < w1.heap.size := (Array.getElem?_eq_some_iff.1 hrow).1
  have cj := join_any A 0 (splitT l).length ((splitT l).map fun l => ⟨l.toArray⟩) w1 (fun j x hx => by
    rw [cell_row hrow]
    simp only [List.getElem?_map, Option.map_eq_some_iff] at hx
    obtain ⟨l, hl, rfl⟩ := hx
    simp [hl]) hlt (by rw [List.length_map]; omega) (by rw [List.length_map]; omega) (by
      rw [List.map_map]
      have : ((fun x : ByteArray => x.data.toList) ∘ fun l : List UInt8 => (⟨l.toArray⟩ : ByteArray)) = id := by funext l; simp
      rw [this, List.map_id]
      unfold foldT at h1
      omega)
  rw [List.length_map, List.map_map] at cj
  have e1 : ((fun x : ByteArray => x.data.toList) ∘ fun l : List UInt8 => (⟨l.toArray⟩ : ByteArray)) = id := by funext l; simp
  rw [e1, List.map_id] at cj
  exact cj
set_option maxHeartbeats 1000000 in
theorem foldtext_any (s : ByteArray) (w : World) (hs : s.size ≤ 1000000000) (hT : Tabs w) : Calls Tryd.prog 18 #[.string s] w fun e w' => e = .returned (.string ⟨(foldT s.data.toList).toArray⟩) ∧ Below w.heap.size w w' := by
  have cs := Lib.hid (split_any s w hs hT)
  have hl : s.data.toList.length = s.size := by simp
  go_enter Tryd.func18, Tryd.ntmps18
  go_wp2_with (go_at_call 22; refine cs.out.mono ?_; rintro e w1 ⟨A, rfl, hA, hrow, hb1⟩)
  have cj := Lib.hid (join_row s.data.toList A w1 (by omega) hrow)
  clear hl
  go_wp2_with (go_at_call 21; refine cj.out.mono ?_; rintro e w2 ⟨rfl, hb2⟩)
  go_ret
  exact ⟨rfl, hb1.trans (hb2.mono hb1.size)⟩
def plainT (l : List UInt8) : Bool := foldT l == l
set_option maxHeartbeats 1000000 in
theorem plaintext_any (s : ByteArray) (w : World) (hs : s.size ≤ 1000000000) (hT : Tabs w) : Calls Tryd.prog 20 #[.string s] w fun e w' => e = .returned (.bool (plainT s.data.toList)) ∧ Below w.heap.size w w' := by
  have cs := Lib.hid (foldtext_any s w hs hT)
  go_enter Tryd.func20, Tryd.ntmps20
  go_wp2_with (go_at_call 18; refine cs.out.mono ?_; rintro e w1 ⟨rfl, hb1⟩)
  go_ret
  exact ⟨ret_bool (by rw [ByteArray.toList_eq]; rfl), hb1⟩
#print axioms plaintext_any
end Go.Proofs.YtpejnnnkamodbaaDoor
/- The sanity check of the statements of layer 11: it holds. -/
namespace Go.Proofs.YtpejnnnkamodbaaDoor
open Go Go.RowKit

theorem aw1 : foldT [79, 39, 66, 114, 105, 101, 110, 45, 77, 195, 188, 108, 108, 101, 114] = [111, 98, 114, 105, 101, 110, 32, 109, 117, 101, 108, 108, 101, 114] := by decide +kernel
theorem aw2 : plainT [97, 32, 98] = true := by decide +kernel
theorem aw3 : plainT [65] = false := by decide +kernel
theorem awf (w : World) (hT : Tabs w) : Calls Tryd.prog 18 #[.string ⟨#[79, 39, 66, 114, 105, 101, 110, 45, 77, 195, 188, 108, 108, 101, 114]⟩] w fun e w' => e = .returned (.string ⟨#[111, 98, 114, 105, 101, 110, 32, 109, 117, 101, 108, 108, 101, 114]⟩) ∧ Below w.heap.size w w' := by
  have := foldtext_any ⟨#[79, 39, 66, 114, 105, 101, 110, 45, 77, 195, 188, 108, 108, 101, 114]⟩ w (by decide) hT
  rw [show (⟨#[79, 39, 66, 114, 105, 101, 110, 45, 77, 195, 188, 108, 108, 101, 114]⟩ : ByteArray).data.toList = [79, 39, 66, 114, 105, 101, 110, 45, 77, 195, 188, 108, 108, 101, 114] from rfl, aw1] at this
  exact this
theorem awp (w : World) (hT : Tabs w) : Calls Tryd.prog 20 #[.string ⟨#[97, 32, 98]⟩] w fun e w' => e = .returned (.bool true) ∧ Below w.heap.size w w' := by
  have := plaintext_any ⟨#[97, 32, 98]⟩ w (by decide) hT
  rw [show (⟨#[97, 32, 98]⟩ : ByteArray).data.toList = [97, 32, 98] from rfl, aw2] at this
  exact this
theorem awq (w : World) (hT : Tabs w) : Calls Tryd.prog 20 #[.string ⟨#[65]⟩] w fun e w' => e = .returned (.bool false) ∧ Below w.heap.size w w' := by
  have := plaintext_any ⟨#[65]⟩ w (by decide) hT
  rw [show (⟨#[65]⟩ : ByteArray).data.toList = [65] from rfl, aw3] at this
  exact this
set_option maxHeartbeats 1000000 in
set_option maxRecDepth 100000 in
theorem awake_any (w : World) (hT : Tabs w) : Calls Tryd.prog 17 #[] w fun e w' => e = .returned (.bool true) ∧ Below w.heap.size w w' := by
  have h6 := hT.six
  go_enter Tryd.func17, Tryd.ntmps17
  go_wp2_with fail
  refine (awf _ hT).mono ?_
  rintro e w1 ⟨rfl, hb1⟩
  have hT1 := hT.below hb1 h6
  go_wp2_with fail
  refine (awp _ hT1).mono ?_
  rintro e w2 ⟨rfl, hb2⟩
  have hT2 := hT1.below hb2 hT1.six
  go_wp2_with fail
  refine (awq _ hT2).mono ?_
  rintro e w3 ⟨rfl, hb3⟩
  have hT3 := hT2.below hb3 hT2.six
  go_wp2_with fail
  refine (letter_any 97 (by omega) _).mono ?_
  rintro e w4 ⟨rfl, rfl⟩
  go_wp2_with fail
  refine (letter_any 32 (by omega) _).mono ?_
  rintro e w4 ⟨rfl, rfl⟩
  go_wp2
  go_ret
  exact ⟨rfl, (hb1.trans (hb2.mono hb1.size)).trans (hb3.mono (Nat.le_trans hb1.size hb2.size))⟩
#print axioms awake_any
end Go.Proofs.YtpejnnnkamodbaaDoor
