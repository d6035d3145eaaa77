/- The package canon: Valid, begin, next, Name, Same. -/
import Derived.Test.YtpejnnnkamodbaaDoorWCanonP
import Derived.Test.YtpejnnnkamodbaaDoorWRwB
namespace Go.Proofs.YtpejnnnkamodbaaDoor
open Go Go.RowKit Go.Maps Go.WideMaps Go.Lib Go.Proofs.YtpejnnnkamodbaaDoorW.PrintWords Go.Proofs.YtpejnnnkamodbaaDoorW.PrintLast
open PCanonEqual (S49 k49 z49 S40 k40 z40)

/-- Names: rules and aliases that are read. -/
structure NamesAt (w : World) (nv : Value) (rs : List S49) (l : List S40) : Prop where mk ::
  out : ∃ A1 c1 A2 c2, nv = .agg #[.slice A1 rs.length c1, .slice A2 l.length c2] ∧ Kd.C k49 w A1 rs.length rs ∧ Kd.C k40 w A2 l.length l
theorem NamesAt.below {w w' : World} {nv : Value} {rs : List S49} {l : List S40} (h : NamesAt w nv rs l) (hb : Below w.heap.size w w') : NamesAt w' nv rs l := by
  obtain ⟨A1, c1, A2, c2, e, h1, h2⟩ := h.out
  exact ⟨A1, c1, A2, c2, e, Kd.C_below h1 hb, Kd.C_below h2 hb⟩
theorem str_nil {t : ByteArray} (h : t.size = 0) : t = ⟨#[]⟩ := ByteArray.ext (Array.size_eq_zero_iff.1 h)
theorem str_cons {t : ByteArray} (h : ¬ t.size = 0) : t.toList ≠ [] := by
  rw [ByteArray.toList_eq]
  intro h2
  apply h
  show t.data.size = 0
  rw [← Array.length_toList, h2]
  rfl
set_option maxHeartbeats 4000000 in
set_option maxRecDepth 100000 in
theorem begin_fn (nv : Value) (rs : List S49) (l : List S40) (s : ByteArray) (w : World) (hT : Tabs w) (hn : NamesAt w nv rs l) :
    Calls Tryd.prog 64 #[nv, .string s] w fun e w' => e = .returned (.tuple #[.string (beginT rs s).1, .int .i64 (beginT rs s).2]) ∧ Below w.heap.size w w' := by
  obtain ⟨A1, c1, A2, c2, rfl, hC1, hC2⟩ := hn.out
  have hbA : Below w.heap.size w (w.alloc (Obj.cells #[.slice A1 rs.length c1, .slice A2 l.length c2] 55)) := (Below.refl _ _).alloc (Nat.le_refl _) _
  have ca := apply_ok A1 c1 rs s _ (hT.below hbA hT.six) (Kd.C_below hC1 hbA)
  clear hC1 hC2 hn
  unfold beginT
  generalize applyT rs s = R at ca ⊢
  obtain ⟨t, k⟩ := R
  simp only at ca ⊢
  by_cases hk : k = 0
  · subst hk
    rw [if_pos rfl]
    by_cases ht : t.size = 0
    · rw [if_pos ht]
      obtain rfl := str_nil ht
      replace ca := Lib.hid ca
      clear ht
      go_enter Tryd.func64, Tryd.ntmps64
      go_wp2_with fail
      refine ca.out.mono ?_
      rintro e w1 ⟨rfl, hb1⟩
      go_wp2_with fail
      go_ret2
      exact ⟨rfl, hbA.trans (hb1.mono hbA.size)⟩
    · rw [if_neg ht]
      have h0 := str_cons ht
      have hne : (t.toList = []) = False := eq_false h0
      have e0 : t.toList.isEmpty = false := by simpa using h0
      replace ca := Lib.hid ca
      clear ht h0
      go_enter Tryd.func64, Tryd.ntmps64
      go_wp2_with fail
      refine ca.out.mono ?_
      rintro e w1 ⟨rfl, hb1⟩
      go_wp2_with fail
      go_ret2
      exact ⟨rfl, hbA.trans (hb1.mono hbA.size)⟩
  · rw [if_neg hk]
    have e0 : (k == 0) = false := beq_eq_false_iff_ne.mpr hk
    replace ca := Lib.hid ca
    clear hk
    go_enter Tryd.func64, Tryd.ntmps64
    go_wp2_with fail
    refine ca.out.mono ?_
    rintro e w1 ⟨rfl, hb1⟩
    go_wp2_with fail
    go_ret2
    exact ⟨rfl, hbA.trans (hb1.mono hbA.size)⟩
set_option maxHeartbeats 4000000 in
set_option maxRecDepth 100000 in
theorem canon_valid (nv : Value) (rs : List S49) (l : List S40) (w : World) (hT : Tabs w) (hn : NamesAt w nv rs l) :
    Calls Tryd.prog 63 #[nv] w fun e w' => e = .returned (.bool (rulesT rs && validT l)) ∧ Below w.heap.size w w' := by
  obtain ⟨A1, c1, A2, c2, rfl, hC1, hC2⟩ := hn.out
  have hbA : Below w.heap.size w (w.alloc (Obj.cells #[.slice A1 rs.length c1, .slice A2 l.length c2] 55)) := (Below.refl _ _).alloc (Nat.le_refl _) _
  have hkA := heap_alloc_new w (Obj.cells #[.slice A1 rs.length c1, .slice A2 l.length c2] 55)
  have ca := rules_valid_ok A1 c1 rs _ (Kd.C_below hC1 hbA)
  have cb := Lib.hid (fun w1 (hb : Below w.heap.size w w1) => valid_ok A2 c2 l w1 (hT.below hb hT.six) (Kd.C_below hC2 hb))
  clear hC1 hC2 hn
  cases hv : rulesT rs with
  | false =>
    rw [hv] at ca
    replace ca := Lib.hid ca
    clear hkA
    go_enter Tryd.func63, Tryd.ntmps63
    go_wp2_with fail
    refine ca.out.mono ?_
    rintro e w1 ⟨rfl, hb1⟩
    go_wp2_with fail
    go_ret
    exact ⟨rfl, hbA.trans (hb1.mono hbA.size)⟩
  | true =>
    rw [hv] at ca
    replace ca := Lib.hid ca
    replace hkA := Lib.hid hkA
    go_enter Tryd.func63, Tryd.ntmps63
    go_wp2_with fail
    refine ca.out.mono ?_
    rintro e w1 ⟨rfl, hb1⟩
    have hb1' := hbA.trans (hb1.mono hbA.size)
    have hk1 := (hb1.block _ (Array.getElem?_eq_some_iff.1 hkA.out).1).trans hkA.out
    have q1 : w1.cell? ⟨w.heap.size, 1, none⟩ = some (.slice A2 l.length c2) := (cell_row hk1 1).trans rfl
    clear hk1
    go_wp2_with fail
    refine (cb.out w1 hb1').mono ?_
    rintro e w2 ⟨rfl, hb2⟩
    go_wp2_with fail
    go_ret
    exact ⟨rfl, hb1'.trans (hb2.mono hb1'.size)⟩
set_option maxHeartbeats 4000000 in
set_option maxRecDepth 100000 in
theorem next_fn (nv : Value) (rs : List S49) (l : List S40) (s : ByteArray) (t : Int) (w : World) (hT : Tabs w) (hn : NamesAt w nv rs l) (hs : s.size ≤ 1000000) :
    Calls Tryd.prog 65 #[nv, .string s, .int .i64 t] w fun e w' => e = .returned (.tuple #[.string (nextF rs l t s).1, .int .i64 (nextF rs l t s).2]) ∧ Below w.heap.size w w' := by
  have hN := hn
  obtain ⟨A1, c1, A2, c2, rfl, hC1, hC2⟩ := hn.out
  have hbA : Below w.heap.size w (w.alloc (Obj.cells #[.slice A1 rs.length c1, .slice A2 l.length c2] 55)) := (Below.refl _ _).alloc (Nat.le_refl _) _
  have hkA := heap_alloc_new w (Obj.cells #[.slice A1 rs.length c1, .slice A2 l.length c2] 55)
  have cf := Lib.hid (followAll_ok A2 c2 l s t _ (hT.below hbA hT.six) (Kd.C_below hC2 hbA) hs)
  have cb := Lib.hid (fun u w1 (hb : Below w.heap.size w w1) => begin_fn _ rs l u w1 (hT.below hb hT.six) (hN.below hb))
  replace hkA := Lib.hid hkA
  clear hC1 hC2 hn hN
  generalize hX : nextF rs l t s = X
  unfold nextF at hX
  replace hX := Lib.hid hX
  go_enter Tryd.func65, Tryd.ntmps65
  go_wp2_with fail
  refine cf.out.mono ?_
  rintro e w1 ⟨⟨r, k, hf, rfl⟩, hb1⟩
  have hb1' := hbA.trans (hb1.mono hbA.size)
  replace hX := hX.out
  rw [follow_fun hf] at hX
  simp only at hX
  clear hf cf
  by_cases hk : k = 0
  · subst hk
    rw [if_pos rfl] at hX
    have hk1 := (hb1.block _ (Array.getElem?_eq_some_iff.1 hkA.out).1).trans hkA.out
    have q0 : w1.cell? ⟨w.heap.size, 0, none⟩ = some (.slice A1 rs.length c1) := (cell_row hk1 0).trans rfl
    have q1 : w1.cell? ⟨w.heap.size, 1, none⟩ = some (.slice A2 l.length c2) := (cell_row hk1 1).trans rfl
    replace cb := cb.out r w1 hb1'
    rw [hX] at cb
    replace cb := Lib.hid cb
    clear hk1 hX
    go_wp2_with fail
    refine cb.out.mono ?_
    rintro e w2 ⟨rfl, hb2⟩
    go_wp2_with fail
    go_ret2
    exact ⟨rfl, hb1'.trans (hb2.mono hb1'.size)⟩
  · rw [if_neg hk] at hX
    subst hX
    have e0 : (k == 0) = false := beq_eq_false_iff_ne.mpr hk
    clear hk
    go_wp2_with fail
    go_ret2
    exact ⟨rfl, hb1'⟩
#print axioms next_fn
end Go.Proofs.YtpejnnnkamodbaaDoor
