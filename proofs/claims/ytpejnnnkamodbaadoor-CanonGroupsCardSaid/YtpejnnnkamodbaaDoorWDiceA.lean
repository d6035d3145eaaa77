/- Merged texts: WDice, WInts, WDict. -/
import Derived.Test.YtpejnnnkamodbaaDoorPCanonEqualx1
import Derived.Test.YtpejnnnkamodbaaDoorWWordsA
import Derived.Maps.Views
import Derived.Maps.Ext
import Derived.Deep.LoopGhost
import Derived.StringKeys
import Derived.WalkSpells
/- The dice of the kit: what a draw gives is some number below the bound; which one is left open. -/
namespace Go.Proofs.YtpejnnnkamodbaaDoor
open Go Go.RowKit Go.Proofs.YtpejnnnkamodbaaDoorW.PrintWords
open PCanonEqual (IsS80)

/-- Dice at block g; what they read, and all that was there in w0, is as it was in w0. -/
def DiceOk (w0 w : World) (g : Nat) : Prop := ∃ (l : List Int) (at' : Nat), l.length ≤ 500 ∧ at' ≤ l.length ∧ IsS80 w0 w g l at' ∧ Below w0.heap.size w0 w
theorem DiceOk.low {w0 w : World} {g : Nat} (h : DiceOk w0 w g) : Below w0.heap.size w0 w := by
  obtain ⟨l, at', h1, h2, h3, h4⟩ := h
  exact h4
theorem DiceOk.lt {w0 w : World} {g : Nat} (h : DiceOk w0 w g) : g < w.heap.size := by
  obtain ⟨l, at', h1, h2, h3, h4⟩ := h
  exact h3.lt
theorem DiceOk.ge {w0 w : World} {g : Nat} (h : DiceOk w0 w g) : w0.heap.size ≤ g := by
  obtain ⟨l, at', h1, h2, h3, h4⟩ := h
  exact h3.ge
theorem DiceOk.grown {w0 w w' : World} {g : Nat} {row : Option Nat} (h : DiceOk w0 w g) (hg : w.grownBy w' row) (hne : some g ≠ row) (hlow : ∀ k, row = some k → w0.heap.size ≤ k) : DiceOk w0 w' g := by
  obtain ⟨l, at', h1, h2, h3, h4⟩ := h
  exact ⟨l, at', h1, h2, h3.grown hg hne, h4.grown hg h4.size hlow⟩
theorem DiceOk.below {w0 w w' : World} {g : Nat} (h : DiceOk w0 w g) (hb : Below w.heap.size w w') : DiceOk w0 w' g := by
  obtain ⟨l, at', h1, h2, h3, h4⟩ := h
  exact ⟨l, at', h1, h2, h3.below hb, h4.trans (hb.mono h4.size)⟩
theorem DiceOk.alloc {w0 w : World} {g : Nat} (h : DiceOk w0 w g) (o : Obj) : DiceOk w0 (w.alloc o) g := h.below ((Below.refl _ _).alloc (Nat.le_refl _) o)
theorem DiceOk.drewN {w0 w : World} {g : Nat} (h : DiceOk w0 w g) (n : Nat) : DiceOk w0 (w.drewN n) g := by
  obtain ⟨l, at', h1, h2, h3, h4⟩ := h
  exact ⟨l, at', h1, h2, h3.drewN n, pw_below_drewN h4 n⟩

theorem light_any (A : Option Addr) (c : Nat) (l : List Int) (w : World) (h : Kd.C (Kd.int .i64) w A l.length l) (hc : l.length ≤ c) :
    Calls Tryd.prog 23 #[.slice A l.length c] w fun e w' => e = .returned (.bool (decide ((l.length : Int) ≤ 500))) ∧ Drawn0 w w' :=
  PCanonEqual.reportescrowkit_Light.calls A c l _ w h hc rfl
theorem roll_any (A : Option Addr) (c : Nat) (l : List Int) (w0 w : World) (hB : Below w0.heap.size w0 w) (h : Kd.C (Kd.int .i64) w0 A l.length l) (hc : l.length ≤ c) (hl : l.length ≤ 500) :
    Calls Tryd.prog 24 #[.slice A l.length c] w fun e w' => ∃ g, e = .returned (.pointer (some ⟨g, 0, none⟩)) ∧ DiceOk w0 w' g ∧ Below w.heap.size w w' :=
  (PCanonEqual.reportescrowkit_Roll.calls A c l _ _ w0 w hB h hc rfl).mono fun _ _ ⟨g, he, hI, hb, hb'⟩ => ⟨g, he, ⟨l, 0, hl, Nat.zero_le _, hI, hb⟩, hb'⟩
theorem mod_range (x m : Int) (hm : 1 ≤ m) (hm2 : m ≤ 1000000) : 0 ≤ Int.tmod (wrap64 (Int.tmod x m + m)) m ∧ Int.tmod (wrap64 (Int.tmod x m + m)) m < m := by
  have h1 : -m < Int.tmod x m := by
    have h := Int.tmod_lt_of_pos (-x) (b := m) (by omega)
    rw [Int.neg_tmod] at h
    omega
  have h2 : Int.tmod x m < m := Int.tmod_lt_of_pos x (by omega)
  have h3 : wrap64 (Int.tmod x m + m) = Int.tmod x m + m := by
    unfold wrap64
    omega
  rw [h3]
  exact ⟨Int.tmod_nonneg _ (by omega), Int.tmod_lt_of_pos _ (by omega)⟩
/-- What Next computes: some number below n, and the place moves on by at most one. -/
theorem next_f (l : List Int) (at' : Nat) (n : Int) (hl : l.length ≤ 500) (ha : at' ≤ l.length) (hn : 1 ≤ n) (hn2 : n ≤ 1000000) :
    ∃ k at2 : Nat, (k : Int) < n ∧ at2 ≤ l.length ∧ PCanonEqual.reportescrowkit_Dice_Next.f l at' n = some ((k : Int), (at2 : Int)) := by
  unfold PCanonEqual.reportescrowkit_Dice_Next.f PCanonEqual.reportescrowkit_Mod.f
  by_cases h : (at' : Int) ≥ (l.length : Int)
  · rw [if_pos h]
    exact ⟨0, at', by omega, ha, rfl⟩
  · rw [if_neg h]
    have e1 : wrap64 ((at' : Int) + 1) = ((at' + 1 : Nat) : Int) := by unfold wrap64; omega
    have e2 : wrap64 (((at' + 1 : Nat) : Int) - 1) = (at' : Int) := by unfold wrap64; omega
    rw [e1, e2, if_pos (by omega), if_pos (by omega), if_neg (by omega), if_neg (by omega)]
    have hr := mod_range (rd l at') n hn hn2
    refine ⟨(Int.tmod (wrap64 (Int.tmod (rd l at') n + n)) n).toNat, at' + 1, by omega, by omega, ?_⟩
    rw [Int.toNat_of_nonneg hr.1]
    rfl
theorem next_any (w0 : World) (g : Nat) (n : Int) (w : World) (h : DiceOk w0 w g) (hn : 1 ≤ n) (hn2 : n ≤ 1000000) :
    Calls Tryd.prog 25 #[.pointer (some ⟨g, 0, none⟩), .int .i64 n] w fun e w' => ∃ k : Nat, (k : Int) < n ∧ e = .returned (.int .i64 k) ∧ DiceOk w0 w' g ∧ KeepBut w w' g none := by
  obtain ⟨l, at', h1, h2, h3, h4⟩ := h
  obtain ⟨k, at2, e1, e2, e3⟩ := next_f l at' n h1 h2 hn hn2
  exact (PCanonEqual.reportescrowkit_Dice_Next.calls g l at' n k at2 w0 w h3 h4 e3).mono fun _ _ ⟨he, hI, hb, hk⟩ => ⟨k, e1, he, ⟨l, at2, h1, e2, hI, hb⟩, hk⟩
theorem word_f (l : List Int) (at' : Nat) (ss : List ByteArray) (hl : l.length ≤ 500) (ha : at' ≤ l.length) (hn : 1 ≤ ss.length) (hn2 : ss.length ≤ 1000) :
    ∃ s ∈ ss, ∃ at2 : Nat, at2 ≤ l.length ∧ PCanonEqual.reportescrowkit_Dice_Word.f l at' ss = some (s, (at2 : Int)) := by
  obtain ⟨k, at2, e1, e2, e3⟩ := next_f l at' ss.length hl ha (by omega) (by omega)
  unfold PCanonEqual.reportescrowkit_Dice_Word.f
  rw [e3]
  have hk : k < ss.length := by omega
  refine ⟨ss[k], List.getElem_mem hk, at2, e2, ?_⟩
  rw [Option.bind_some]
  simp only []
  rw [if_pos (by omega), if_pos (by simpa using hk)]
  simp [rdOf, List.getD, hk]
theorem word_any (w0 : World) (g : Nat) (A : Option Addr) (c : Nat) (ss : List ByteArray) (w : World) (h : DiceOk w0 w g) (hr : Kd.C Kd.string w A ss.length ss) (hc : ss.length ≤ c) (hf : ∀ ad, A = some ad → ad.block ≠ g) (hn : 1 ≤ ss.length) (hn2 : ss.length ≤ 1000) :
    Calls Tryd.prog 30 #[.pointer (some ⟨g, 0, none⟩), .slice A ss.length c] w fun e w' => ∃ s ∈ ss, e = .returned (.string s) ∧ DiceOk w0 w' g ∧ KeepBut w w' g none := by
  obtain ⟨l, at', h1, h2, h3, h4⟩ := h
  obtain ⟨s, hs, at2, e2, e3⟩ := word_f l at' ss h1 h2 hn hn2
  exact (PCanonEqual.reportescrowkit_Dice_Word.calls g l at' A c ss s at2 w0 w h3 h4 hr hc (fun ad he _ => hf ad he) e3).mono fun _ _ ⟨he, hI, hb, hk⟩ => ⟨s, hs, he, ⟨l, at2, h1, e2, hI, hb⟩, hk⟩
theorem name_any (w0 : World) (g : Nat) (w : World) (h : DiceOk w0 w g) :
    Calls Tryd.prog 37 #[.pointer (some ⟨g, 0, none⟩)] w fun e w' => ∃ s : ByteArray, s.size ≤ 15 ∧ e = .returned (.string s) ∧ DiceOk w0 w' g ∧ KeepBut w w' g none := by
  obtain ⟨l, at', h1, h2, h3, h4⟩ := h
  have hw := fun ss hn hn2 => word_f l at' ss h1 h2 hn hn2
  have hc := fun s at2 hh => PCanonEqual.reportescrowkit_Name.calls g l at' s at2 w0 w h3 h4 hh
  unfold PCanonEqual.reportescrowkit_Name.f at hc
  obtain ⟨s, hs, at2, e2, e3⟩ := hw [(⟨#[82, 111, 98, 101, 114, 116]⟩ : ByteArray), (⟨#[114, 111, 98, 101, 114, 116]⟩ : ByteArray), (⟨#[66, 111, 98]⟩ : ByteArray), (⟨#[68, 114, 46, 32, 82, 111, 98, 101, 114, 116]⟩ : ByteArray), (⟨#[79, 39, 66, 114, 105, 101, 110, 45, 77, 195, 188, 108, 108, 101, 114]⟩ : ByteArray), (⟨#[111, 98, 114, 105, 101, 110, 32, 109, 117, 101, 108, 108, 101, 114]⟩ : ByteArray), (⟨#[74, 79, 83, 69, 80, 72, 32, 32, 106, 114]⟩ : ByteArray), (⟨#[106, 111, 115, 101, 102]⟩ : ByteArray), (⟨#[65, 110, 110]⟩ : ByteArray), (⟨#[97, 110, 110]⟩ : ByteArray), (⟨#[195, 132, 110, 110, 99, 104, 101, 110]⟩ : ByteArray), (⟨#[120]⟩ : ByteArray), (⟨#[]⟩ : ByteArray), (⟨#[97, 97, 97, 97]⟩ : ByteArray), (⟨#[112, 104, 112, 104]⟩ : ByteArray), (⟨#[97, 32, 98, 32, 97, 32, 98]⟩ : ByteArray), (⟨#[32]⟩ : ByteArray)] (by decide) (by decide)
  have hsz : s.size ≤ 15 := by
    simp only [List.mem_cons, List.not_mem_nil, or_false] at hs
    rcases hs with rfl | rfl | rfl | rfl | rfl | rfl | rfl | rfl | rfl | rfl | rfl | rfl | rfl | rfl | rfl | rfl | rfl <;> decide
  exact (hc s at2 (by rw [e3]; rfl)).mono fun _ _ ⟨he, hI, hb, hk⟩ => ⟨s, hsz, he, ⟨l, at2, h1, e2, hI, hb⟩, hk⟩
#print axioms name_any
end Go.Proofs.YtpejnnnkamodbaaDoor
/- A parameter []int, as a row's opening tells it, is a row of numbers that is read. -/
namespace Go.Proofs.YtpejnnnkamodbaaDoor
open Go Go.RowKit Go.Proofs.YtpejnnnkamodbaaDoorW.PrintWords

def IsRow (k : IntKind) (w : World) (a : Option Addr) (len cap : Nat) (zs : List Int) : Prop :=
  (a = none ∧ len = 0 ∧ cap = 0 ∧ zs = []) ∨
  ∃ x, a = some x ∧ len ≤ cap ∧ cap ≤ maxLen ∧ zs.length = cap ∧ (∀ i, i < zs.length → w.cell? (x.add i) = some (.int k (zs.getD i 0))) ∧ ∀ n ∈ zs, (Lit.int k n).wf = true
theorem IsRow.reads {k : IntKind} {w : World} {a : Option Addr} {len cap : Nat} {zs : List Int} (h : IsRow k w a len cap zs) :
    ∃ l : List Int, len = l.length ∧ l.length ≤ cap ∧ Kd.C (Kd.int k) w a l.length l := by
  rcases h with ⟨rfl, rfl, rfl, rfl⟩ | ⟨x, rfl, h1, h2, h3, h4, h5⟩
  · exact ⟨[], rfl, Nat.le_refl _, rfl, by decide, fun h => absurd h (by simp)⟩
  · have hl : (zs.take len).length = len := by rw [List.length_take]; omega
    refine ⟨zs.take len, hl.symm, by omega, rfl, by unfold maxLen at h2; omega, fun _ => ⟨x, rfl, fun j p hj => ?_⟩⟩
    have hjl := (List.getElem?_eq_some_iff.1 hj).1
    have hp : zs[j]? = some p := by
      rw [List.getElem?_take] at hj
      split at hj
      · exact hj
      · cases hj
    refine ⟨[.int k p], rfl, rfl, fun i u hi => ?_⟩
    have e := h4 j (by omega)
    rw [List.getD_eq_getElem?_getD, hp] at e
    rcases i with _ | i
    · simp only [List.getElem?_cons_zero, Option.some.injEq] at hi
      subst hi
      show w.cell? (x.add (j * 1 + 0)) = _
      simpa using e
    · simp at hi
end Go.Proofs.YtpejnnnkamodbaaDoor
/- Maps from strings to values of any shape, as functions: a new one, a store, a deletion, the look-up, the range. No program stands in this file. -/
namespace Go.Proofs.YtpejnnnkamodbaaDoor
open Go Go.RowKit Go.Maps Go.WideMaps

section
variable {α : Type} (enc : α → Value)
open Classical in
/-- What a value of the map reads as. -/
noncomputable def encR (v : Value) : Option (DataW α × List MemPlace) := if h : ∃ x, enc x = v then some (.held h.choose, []) else none
theorem encR_enc (hinj : ∀ x y, enc x = enc y → x = y) (x : α) : encR enc (enc x) = some (.held x, []) := by
  have h : ∃ y, enc y = enc x := ⟨x, rfl⟩
  unfold encR
  rw [dif_pos h, hinj _ _ h.choose_spec]
theorem encR_inv {v : Value} {d : DataW α} {ps : List MemPlace} (h : encR enc v = some (d, ps)) : ∃ x, v = enc x ∧ d = .held x := by
  unfold encR at h
  split at h
  · rename_i hx
    cases h
    exact ⟨_, hx.choose_spec.symm, rfl⟩
  · cases h
/-- The map at block b, of at most n entries, is the function f. -/
def Dict (P : Program) (k : TypeId) (w : World) (b n : Nat) (f : ByteArray → Option α) : Prop :=
  ∃ D, w.ownsMap P k (encR enc) b n D ∧ IsMap D ∧ ∀ s : ByteArray, has D (.string s.data.toList) = (f s).isSome ∧ ∀ x, f s = some x → ∀ z, D.atKey (.string s.data.toList) z = .held x
end

section
variable {α : Type} {enc : α → Value} {P : Program} {k : TypeId} {w : World} {b n : Nat} {f : ByteArray → Option α}
theorem str_key_ne {s t : ByteArray} (h : s ≠ t) : Lit.string s.data.toList ≠ Lit.string t.data.toList := fun e => h (ByteArray.ext (Array.toList_inj.1 (by simpa using e)))
theorem str_isKey (l : List UInt8) : WideAt.IsKeyLit (.string l) := trivial
theorem Dict.lt (h : Dict enc P k w b n f) : b < w.heap.size := by
  obtain ⟨D, h1, _⟩ := h
  exact h1.lt
theorem Dict.made (w : World) : Dict enc P k (w.alloc (.map #[] 0)) w.heap.size 0 (fun _ => none) :=
  ⟨.map [], World.ownsMap_made w P k _, isMap_empty, fun s => ⟨rfl, fun x hx => by cases hx⟩⟩
theorem Dict.kept {w' : World} {row : Option Nat} (h : Dict enc P k w b n f) (hg : w.grownBy w' row) (hne : some b ≠ row) : Dict enc P k w' b n f := by
  obtain ⟨D, h1, h2⟩ := h
  exact ⟨D, h1.kept hg hne, h2⟩
theorem Dict.below {w' : World} (h : Dict enc P k w b n f) (hb : Below w.heap.size w w') : Dict enc P k w' b n f :=
  h.kept (row := none) ⟨hb.os, hb.tape, hb.output, hb.size, fun i hi _ => hb.block i hi⟩ (by simp)
theorem Dict.congr {g : ByteArray → Option α} (h : Dict enc P k w b n f) (hg : ∀ s, f s = g s) : Dict enc P k w b n g := by
  obtain rfl : f = g := funext hg
  exact h
theorem Dict.unowned {D : DataW α} {w' : World} {m : Nat} (h1 : w'.ownsMap P k (encR enc) b m D) (hm : IsMap D) (h2 : ∀ s : ByteArray, has D (.string s.data.toList) = (f s).isSome ∧ ∀ x, f s = some x → ∀ z, D.atKey (.string s.data.toList) z = .held x) : Dict enc P k w' b m f := ⟨D, h1, hm, h2⟩
theorem Dict.put_fun {D : DataW α} (hm : IsMap D) (h2 : ∀ s : ByteArray, has D (.string s.data.toList) = (f s).isSome ∧ ∀ x, f s = some x → ∀ z, D.atKey (.string s.data.toList) z = .held x) (q : ByteArray) (x : α) :
    ∀ s : ByteArray, has (D.put (.string q.data.toList) (.held x)) (.string s.data.toList) = (if s = q then some x else f s).isSome ∧ ∀ y, (if s = q then some x else f s) = some y → ∀ z, (D.put (.string q.data.toList) (.held x)).atKey (.string s.data.toList) z = .held y := by
  intro s
  by_cases hs : s = q
  · subst hs
    rw [if_pos rfl]
    exact ⟨has_put_same hm (str_isKey _) _, fun y hy z => by cases hy; exact atKey_put_same hm (str_isKey _) _ _⟩
  · rw [if_neg hs]
    exact ⟨(has_put_other (str_key_ne hs) _).trans (h2 s).1, fun y hy z => (atKey_put_other (str_key_ne hs) _ _).trans ((h2 s).2 y hy z)⟩
theorem Dict.del_fun {D : DataW α} (h2 : ∀ s : ByteArray, has D (.string s.data.toList) = (f s).isSome ∧ ∀ x, f s = some x → ∀ z, D.atKey (.string s.data.toList) z = .held x) (q : ByteArray) :
    ∀ s : ByteArray, has (D.del (.string q.data.toList)) (.string s.data.toList) = (if s = q then none else f s).isSome ∧ ∀ y, (if s = q then none else f s) = some y → ∀ z, (D.del (.string q.data.toList)).atKey (.string s.data.toList) z = .held y := by
  intro s
  by_cases hs : s = q
  · subst hs
    rw [if_pos rfl]
    exact ⟨has_del_same, fun y hy z => by cases hy⟩
  · rw [if_neg hs]
    exact ⟨(has_del_other (str_key_ne hs)).trans (h2 s).1, fun y hy z => (atKey_del_other (str_key_ne hs) _).trans ((h2 s).2 y hy z)⟩
end

section
variable {α : Type} {enc : α → Value} {P : Program} (w : World) {ops : Array Oper} {rest : List Oper} {o : Oper} {a : Act} {Q : Exit → Act → World → Prop}
/-- 'm[s] = x'. -/
theorem wpList_dict_put (hg : o.guard = none) (m x v : Operand) (t : TypeId) (hop : o.op = Op.mapUpdate t m x v) (k e : TypeId) (hk : P.underlying k = some .string) (ht : P.underlying t = some (.map k e))
    (hinj : ∀ x y, enc x = enc y → x = y) (b n : Nat) (f : ByteArray → Option α) (hm : a.eval m = .map (some b)) (hown : Dict enc P k w b n f) (hn : n < maxLen) (q : ByteArray) (y : α) (hx : a.eval x = .string q) (hv : a.eval v = enc y) (hq : q.size ≤ maxLen)
    (hK : ∀ w', Dict enc P k w' b (n + 1) (fun s => if s = q then some y else f s) → w.grownBy w' (some b) → wpList P ops Q rest (a.put o.dst undef) w') : wpList P ops Q (o :: rest) a w := by
  obtain ⟨D, h1, hmp, h2⟩ := hown
  exact wpList_mapUpdate_own w hg m x v t hop k e (string_keyed hk) ht (encR enc) b n D hm h1 hn (.string q) (enc y) (.string q.data.toList) hx hv (keyOf_string_mk hk hq) (.held y) [] (encR_enc enc hinj y)
    (fun w' hw' hg' => hK w' ⟨_, hw', hmp.put _ _, Dict.put_fun hmp h2 q y⟩ hg')
/-- 'm[s] = x', in a region that draws its order. -/
theorem wp_dict_put {oi : Oper} {K : Act → World → Prop} {ops' : Array Oper} (hw : Region.wanted oi (yielded ops' a.tmps) = true) (hN : oi.dst = none) (m x v : Operand) (t : TypeId) (hop : oi.op = Op.mapUpdate t m x v) (k e : TypeId) (hk : P.underlying k = some .string) (ht : P.underlying t = some (.map k e))
    (hinj : ∀ x y, enc x = enc y → x = y) (b n : Nat) (f : ByteArray → Option α) (hm : a.eval m = .map (some b)) (hown : Dict enc P k w b n f) (hn : n < maxLen) (q : ByteArray) (y : α) (hx : a.eval x = .string q) (hv : a.eval v = enc y) (hq : q.size ≤ maxLen)
    (hK : ∀ w', Dict enc P k w' b (n + 1) (fun s => if s = q then some y else f s) → w.grownBy w' (some b) → K (a.put none undef) w') : if Region.wanted oi (yielded ops' a.tmps) = true then Oper.wp P oi a w K Q else K (a.put none undef) w := by
  obtain ⟨D, h1, hmp, h2⟩ := hown
  obtain ⟨w', hrun, r1, r2⟩ := h1.update (string_keyed hk) ht hn (key := .string q) (keyOf_string_mk hk hq) (encR_enc enc hinj y)
  rw [if_pos hw]
  unfold Oper.wp
  simp [execOp, hop, hm, hx, hv, hrun, Result.andThen]
  show K (a.put oi.dst undef) w'
  rw [hN]
  exact hK w' ⟨_, r1, hmp.put _ _, Dict.put_fun hmp h2 q y⟩ r2
/-- 'delete(m, s)'. -/
theorem wpList_dict_del (hg : o.guard = none) (m x : Operand) (t k : TypeId) (hop : o.op = Op.call { callee := Callee.builtin Builtin.delete, args := #[m, x], argTypes := #[t, k] }) (e : TypeId) (hk : P.underlying k = some .string) (ht : P.underlying t = some (.map k e))
    (b n : Nat) (f : ByteArray → Option α) (hm : a.eval m = .map (some b)) (hown : Dict enc P k w b n f) (q : ByteArray) (hx : a.eval x = .string q) (hq : q.size ≤ maxLen)
    (hK : ∀ w', Dict enc P k w' b n (fun s => if s = q then none else f s) → w.grownBy w' (some b) → wpList P ops Q rest (a.put o.dst (.tuple #[])) w') : wpList P ops Q (o :: rest) a w := by
  obtain ⟨D, h1, hmp, h2⟩ := hown
  exact wpList_delete_own w hg m x t k hop e (string_keyed hk) ht (encR enc) b n D hm h1 (.string q) (.string q.data.toList) hx (keyOf_string_mk hk hq)
    (fun w' hw' hg' => hK w' ⟨_, hw', hmp.del _, Dict.del_fun h2 q⟩ hg'.grown)
/-- 'x, ok := m[s]'. -/
theorem wpList_dict_ok (hg : o.guard = none) (m x : Operand) (t : TypeId) (hop : o.op = Op.lookup t m x true) (k e : TypeId) (hk : P.underlying k = some .string) (ht : P.underlying t = some (.map k e))
    (hinj : ∀ x y, enc x = enc y → x = y) (z : α) (hz : (zeroValue e).run P w = .ok (enc z) w) (b n : Nat) (f : ByteArray → Option α) (hm : a.eval m = .map (some b)) (hown : Dict enc P k w b n f) (q : ByteArray) (hx : a.eval x = .string q) (hq : q.size ≤ maxLen)
    (hK : wpList P ops Q rest (a.put o.dst (.tuple #[enc ((f q).getD z), .bool (f q).isSome])) w) : wpList P ops Q (o :: rest) a w := by
  obtain ⟨D, h1, hmp, h2⟩ := hown
  refine wpList_lookup_own_ok w hg m x t hop k e (string_keyed hk) ht (encR enc) hz (.held z) [] (encR_enc enc hinj z) b n D hm h1 (.string q) (.string q.data.toList) hx (keyOf_string_mk hk hq) (fun v ps hv => ?_)
  obtain ⟨y, rfl, hd⟩ := encR_inv enc hv
  rw [(h2 q).1]
  have e1 : y = (f q).getD z := by
    cases hf : f q with
    | none =>
      have : has D (.string q.data.toList) = false := by rw [(h2 q).1, hf]; rfl
      rw [atKey_of_not_has this] at hd
      cases hd
      rfl
    | some u =>
      rw [(h2 q).2 u hf] at hd
      cases hd
      rfl
  rw [e1]
  exact hK
/-- 'm[s]'. -/
theorem wpList_dict_get (hg : o.guard = none) (m x : Operand) (t : TypeId) (hop : o.op = Op.lookup t m x false) (k e : TypeId) (hk : P.underlying k = some .string) (ht : P.underlying t = some (.map k e))
    (hinj : ∀ x y, enc x = enc y → x = y) (z : α) (hz : (zeroValue e).run P w = .ok (enc z) w) (b n : Nat) (f : ByteArray → Option α) (hm : a.eval m = .map (some b)) (hown : Dict enc P k w b n f) (q : ByteArray) (hx : a.eval x = .string q) (hq : q.size ≤ maxLen)
    (hK : wpList P ops Q rest (a.put o.dst (enc ((f q).getD z))) w) : wpList P ops Q (o :: rest) a w := by
  obtain ⟨D, h1, hmp, h2⟩ := hown
  refine wpList_plain hg fun K' hK' => ?_
  obtain ⟨v, ps, hrun, hv⟩ := h1.lookup (string_keyed hk) ht hz (encR_enc enc hinj z) (key := .string q) (keyOf_string_mk hk hq)
  obtain ⟨y, rfl, hd⟩ := encR_inv enc hv
  have e1 : y = (f q).getD z := by
    cases hf : f q with
    | none =>
      have : has D (.string q.data.toList) = false := by rw [(h2 q).1, hf]; rfl
      rw [atKey_of_not_has this] at hd
      cases hd
      rfl
    | some u =>
      rw [(h2 q).2 u hf] at hd
      cases hd
      rfl
  unfold Oper.wp
  simp [execOp, hop, hm, hx, hrun, Result.andThen]
  exact hK' _ _ (by rw [← e1] at hK; exact hK)
end
#print axioms wpList_dict_get
end Go.Proofs.YtpejnnnkamodbaaDoor
