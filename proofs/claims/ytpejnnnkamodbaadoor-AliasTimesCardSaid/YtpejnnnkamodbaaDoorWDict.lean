/- Maps from strings to values of any shape, as functions: a new one, a store, a deletion, the look-up, the range. No program stands in this file. -/
import Derived.Test.YtpejnnnkamodbaaDoorWLaws
import Derived.Maps.Views
import Derived.Maps.Ext
import Derived.Deep.LoopGhost
import Derived.StringKeys
import Derived.WalkSpells
namespace Go.Proofs.YtpejnnnkamodbaaDoor
open Go Go.RowKit Go.Maps Go.WideMaps

section
variable {α : Type} (enc : α → Value)
open Classical in
/-- What a value of the map reads as. -/
noncomputable def encR (v : Value) : Option (DataW α × List MemPlace) := if h : ∃ x, enc x = v then some (.held h.choose, []) else none
theorem encR_enc (hinj : ∀ x y, enc x = enc y → x = y) (x : α) : encR enc (enc x) = some (.held x, []) := by
  have h : ∃ y, enc y = enc x := ⟨x, rfl⟩
  unfold encR
  rw [dif_pos h, hinj _ _ h.choose_spec]
theorem encR_inv {v : Value} {d : DataW α} {ps : List MemPlace} (h : encR enc v = some (d, ps)) : ∃ x, v = enc x ∧ d = .held x := by
  unfold encR at h
  split at h
  · rename_i hx
    cases h
    exact ⟨_, hx.choose_spec.symm, rfl⟩
  · cases h
/-- The map at block b, of at most n entries, is the function f. -/
def Dict (P : Program) (k : TypeId) (w : World) (b n : Nat) (f : ByteArray → Option α) : Prop :=
  ∃ D, w.ownsMap P k (encR enc) b n D ∧ IsMap D ∧ ∀ s : ByteArray, has D (.string s.data.toList) = (f s).isSome ∧ ∀ x, f s = some x → ∀ z, D.atKey (.string s.data.toList) z = .held x
end

section
variable {α : Type} {enc : α → Value} {P : Program} {k : TypeId} {w : World} {b n : Nat} {f : ByteArray → Option α}
theorem str_key_ne {s t : ByteArray} (h : s ≠ t) : Lit.string s.data.toList ≠ Lit.string t.data.toList := fun e => h (ByteArray.ext (Array.toList_inj.1 (by simpa using e)))
theorem str_isKey (l : List UInt8) : WideAt.IsKeyLit (.string l) := trivial
theorem Dict.lt (h : Dict enc P k w b n f) : b < w.heap.size := by
  obtain ⟨D, h1, _⟩ := h
  exact h1.lt
theorem Dict.made (w : World) : Dict enc P k (w.alloc (.map #[] 0)) w.heap.size 0 (fun _ => none) :=
  ⟨.map [], World.ownsMap_made w P k _, isMap_empty, fun s => ⟨rfl, fun x hx => by cases hx⟩⟩
theorem Dict.kept {w' : World} {row : Option Nat} (h : Dict enc P k w b n f) (hg : w.grownBy w' row) (hne : some b ≠ row) : Dict enc P k w' b n f := by
  obtain ⟨D, h1, h2⟩ := h
  exact ⟨D, h1.kept hg hne, h2⟩
theorem Dict.below {w' : World} (h : Dict enc P k w b n f) (hb : Below w.heap.size w w') : Dict enc P k w' b n f :=
  h.kept (row := none) ⟨hb.os, hb.tape, hb.output, hb.size, fun i hi _ => hb.block i hi⟩ (by simp)
theorem Dict.congr {g : ByteArray → Option α} (h : Dict enc P k w b n f) (hg : ∀ s, f s = g s) : Dict enc P k w b n g := by
  obtain rfl : f = g := funext hg
  exact h
theorem Dict.unowned {D : DataW α} {w' : World} {m : Nat} (h1 : w'.ownsMap P k (encR enc) b m D) (hm : IsMap D) (h2 : ∀ s : ByteArray, has D (.string s.data.toList) = (f s).isSome ∧ ∀ x, f s = some x → ∀ z, D.atKey (.string s.data.toList) z = .held x) : Dict enc P k w' b m f := ⟨D, h1, hm, h2⟩
theorem Dict.put_fun {D : DataW α} (hm : IsMap D) (h2 : ∀ s : ByteArray, has D (.string s.data.toList) = (f s).isSome ∧ ∀ x, f s = some x → ∀ z, D.atKey (.string s.data.toList) z = .held x) (q : ByteArray) (x : α) :
    ∀ s : ByteArray, has (D.put (.string q.data.toList) (.held x)) (.string s.data.toList) = (if s = q then some x else f s).isSome ∧ ∀ y, (if s = q then some x else f s) = some y → ∀ z, (D.put (.string q.data.toList) (.held x)).atKey (.string s.data.toList) z = .held y := by
  intro s
  by_cases hs : s = q
  · subst hs
    rw [if_pos rfl]
    exact ⟨has_put_same hm (str_isKey _) _, fun y hy z => by cases hy; exact atKey_put_same hm (str_isKey _) _ _⟩
  · rw [if_neg hs]
    exact ⟨(has_put_other (str_key_ne hs) _).trans (h2 s).1, fun y hy z => (atKey_put_other (str_key_ne hs) _ _).trans ((h2 s).2 y hy z)⟩
theorem Dict.del_fun {D : DataW α} (h2 : ∀ s : ByteArray, has D (.string s.data.toList) = (f s).isSome ∧ ∀ x, f s = some x → ∀ z, D.atKey (.string s.data.toList) z = .held x) (q : ByteArray) :
    ∀ s : ByteArray, has (D.del (.string q.data.toList)) (.string s.data.toList) = (if s = q then none else f s).isSome ∧ ∀ y, (if s = q then none else f s) = some y → ∀ z, (D.del (.string q.data.toList)).atKey (.string s.data.toList) z = .held y := by
  intro s
  by_cases hs : s = q
  · subst hs
    rw [if_pos rfl]
    exact ⟨has_del_same, fun y hy z => by cases hy⟩
  · rw [if_neg hs]
    exact ⟨(has_del_other (str_key_ne hs)).trans (h2 s).1, fun y hy z => (atKey_del_other (str_key_ne hs) _).trans ((h2 s).2 y hy z)⟩
end

section
variable {α : Type} {enc : α → Value} {P : Program} (w : World) {ops : Array Oper} {rest : List Oper} {o : Oper} {a : Act} {Q : Exit → Act → World → Prop}
/-- 'm[s] = x'. -/
theorem wpList_dict_put (hg : o.guard = none) (m x v : Operand) (t : TypeId) (hop : o.op = Op.mapUpdate t m x v) (k e : TypeId) (hk : P.underlying k = some .string) (ht : P.underlying t = some (.map k e))
    (hinj : ∀ x y, enc x = enc y → x = y) (b n : Nat) (f : ByteArray → Option α) (hm : a.eval m = .map (some b)) (hown : Dict enc P k w b n f) (hn : n < maxLen) (q : ByteArray) (y : α) (hx : a.eval x = .string q) (hv : a.eval v = enc y) (hq : q.size ≤ maxLen)
    (hK : ∀ w', Dict enc P k w' b (n + 1) (fun s => if s = q then some y else f s) → w.grownBy w' (some b) → wpList P ops Q rest (a.put o.dst undef) w') : wpList P ops Q (o :: rest) a w := by
  obtain ⟨D, h1, hmp, h2⟩ := hown
  exact wpList_mapUpdate_own w hg m x v t hop k e (string_keyed hk) ht (encR enc) b n D hm h1 hn (.string q) (enc y) (.string q.data.toList) hx hv (keyOf_string_mk hk hq) (.held y) [] (encR_enc enc hinj y)
    (fun w' hw' hg' => hK w' ⟨_, hw', hmp.put _ _, Dict.put_fun hmp h2 q y⟩ hg')
/-- 'm[s] = x', in a region that draws its order. -/
theorem wp_dict_put {oi : Oper} {K : Act → World → Prop} {ops' : Array Oper} (hw : Region.wanted oi (yielded ops' a.tmps) = true) (hN : oi.dst = none) (m x v : Operand) (t : TypeId) (hop : oi.op = Op.mapUpdate t m x v) (k e : TypeId) (hk : P.underlying k = some .string) (ht : P.underlying t = some (.map k e))
    (hinj : ∀ x y, enc x = enc y → x = y) (b n : Nat) (f : ByteArray → Option α) (hm : a.eval m = .map (some b)) (hown : Dict enc P k w b n f) (hn : n < maxLen) (q : ByteArray) (y : α) (hx : a.eval x = .string q) (hv : a.eval v = enc y) (hq : q.size ≤ maxLen)
    (hK : ∀ w', Dict enc P k w' b (n + 1) (fun s => if s = q then some y else f s) → w.grownBy w' (some b) → K (a.put none undef) w') : if Region.wanted oi (yielded ops' a.tmps) = true then Oper.wp P oi a w K Q else K (a.put none undef) w := by
  obtain ⟨D, h1, hmp, h2⟩ := hown
  obtain ⟨w', hrun, r1, r2⟩ := h1.update (string_keyed hk) ht hn (key := .string q) (keyOf_string_mk hk hq) (encR_enc enc hinj y)
  rw [if_pos hw]
  unfold Oper.wp
  simp [execOp, hop, hm, hx, hv, hrun, Result.andThen]
  show K (a.put oi.dst undef) w'
  rw [hN]
  exact hK w' ⟨_, r1, hmp.put _ _, Dict.put_fun hmp h2 q y⟩ r2
/-- 'delete(m, s)'. -/
theorem wpList_dict_del (hg : o.guard = none) (m x : Operand) (t k : TypeId) (hop : o.op = Op.call { callee := Callee.builtin Builtin.delete, args := #[m, x], argTypes := #[t, k] }) (e : TypeId) (hk : P.underlying k = some .string) (ht : P.underlying t = some (.map k e))
    (b n : Nat) (f : ByteArray → Option α) (hm : a.eval m = .map (some b)) (hown : Dict enc P k w b n f) (q : ByteArray) (hx : a.eval x = .string q) (hq : q.size ≤ maxLen)
    (hK : ∀ w', Dict enc P k w' b n (fun s => if s = q then none else f s) → w.grownBy w' (some b) → wpList P ops Q rest (a.put o.dst (.tuple #[])) w') : wpList P ops Q (o :: rest) a w := by
  obtain ⟨D, h1, hmp, h2⟩ := hown
  exact wpList_delete_own w hg m x t k hop e (string_keyed hk) ht (encR enc) b n D hm h1 (.string q) (.string q.data.toList) hx (keyOf_string_mk hk hq)
    (fun w' hw' hg' => hK w' ⟨_, hw', hmp.del _, Dict.del_fun h2 q⟩ hg'.grown)
/-- 'x, ok := m[s]'. -/
theorem wpList_dict_ok (hg : o.guard = none) (m x : Operand) (t : TypeId) (hop : o.op = Op.lookup t m x true) (k e : TypeId) (hk : P.underlying k = some .string) (ht : P.underlying t = some (.map k e))
    (hinj : ∀ x y, enc x = enc y → x = y) (z : α) (hz : (zeroValue e).run P w = .ok (enc z) w) (b n : Nat) (f : ByteArray → Option α) (hm : a.eval m = .map (some b)) (hown : Dict enc P k w b n f) (q : ByteArray) (hx : a.eval x = .string q) (hq : q.size ≤ maxLen)
    (hK : wpList P ops Q rest (a.put o.dst (.tuple #[enc ((f q).getD z), .bool (f q).isSome])) w) : wpList P ops Q (o :: rest) a w := by
  obtain ⟨D, h1, hmp, h2⟩ := hown
  refine wpList_lookup_own_ok w hg m x t hop k e (string_keyed hk) ht (encR enc) hz (.held z) [] (encR_enc enc hinj z) b n D hm h1 (.string q) (.string q.data.toList) hx (keyOf_string_mk hk hq) (fun v ps hv => ?_)
  obtain ⟨y, rfl, hd⟩ := encR_inv enc hv
  rw [(h2 q).1]
  have e1 : y = (f q).getD z := by
    cases hf : f q with
    | none =>
      have : has D (.string q.data.toList) = false := by rw [(h2 q).1, hf]; rfl
      rw [atKey_of_not_has this] at hd
      cases hd
      rfl
    | some u =>
      rw [(h2 q).2 u hf] at hd
      cases hd
      rfl
  rw [e1]
  exact hK
/-- 'm[s]'. -/
theorem wpList_dict_get (hg : o.guard = none) (m x : Operand) (t : TypeId) (hop : o.op = Op.lookup t m x false) (k e : TypeId) (hk : P.underlying k = some .string) (ht : P.underlying t = some (.map k e))
    (hinj : ∀ x y, enc x = enc y → x = y) (z : α) (hz : (zeroValue e).run P w = .ok (enc z) w) (b n : Nat) (f : ByteArray → Option α) (hm : a.eval m = .map (some b)) (hown : Dict enc P k w b n f) (q : ByteArray) (hx : a.eval x = .string q) (hq : q.size ≤ maxLen)
    (hK : wpList P ops Q rest (a.put o.dst (enc ((f q).getD z))) w) : wpList P ops Q (o :: rest) a w := by
  obtain ⟨D, h1, hmp, h2⟩ := hown
  refine wpList_plain hg fun K' hK' => ?_
  obtain ⟨v, ps, hrun, hv⟩ := h1.lookup (string_keyed hk) ht hz (encR_enc enc hinj z) (key := .string q) (keyOf_string_mk hk hq)
  obtain ⟨y, rfl, hd⟩ := encR_inv enc hv
  have e1 : y = (f q).getD z := by
    cases hf : f q with
    | none =>
      have : has D (.string q.data.toList) = false := by rw [(h2 q).1, hf]; rfl
      rw [atKey_of_not_has this] at hd
      cases hd
      rfl
    | some u =>
      rw [(h2 q).2 u hf] at hd
      cases hd
      rfl
  unfold Oper.wp
  simp [execOp, hop, hm, hx, hrun, Result.andThen]
  exact hK' _ _ (by rw [← e1] at hK; exact hK)
end
#print axioms wpList_dict_get
end Go.Proofs.YtpejnnnkamodbaaDoor
