/- Merged texts: WAliases, WGood, WGrown, WAwake13, WKeepC. -/
import Derived.Test.YtpejnnnkamodbaaDoorWAliasA
/- The kit's Aliases: some list of aliases. -/
namespace Go.Proofs.YtpejnnnkamodbaaDoor
open Go Go.RowKit Go.Maps Go.WideMaps Go.Proofs.YtpejnnnkamodbaaDoorW.PrintWords Go.Proofs.YtpejnnnkamodbaaDoorW.PrintLast
open PCanonEqual (S40 k40 z40 rd_T40 at_T40 k40_open k40_mk k40_openM k40_mkM)

def cells40 (a : S40) : List Value := [.string a.f0, .string a.f1, .int .i64 a.f2, .bool a.f3]
theorem flat_len (l : List S40) : (l.flatMap cells40).length = l.length * 4 := by
  induction l with
  | nil => rfl
  | cons x l ih => rw [List.flatMap_cons, List.length_append, ih, List.length_cons]; simp [cells40]; omega
theorem reps_flat {w : World} {base : Nat} {ok : Nat → Prop} : ∀ (l : List S40), Reps (k40.M w base ok) 4 l (l.flatMap cells40)
  | [] => Reps.none _ _
  | x :: l => by
    have h := reps_flat (w := w) (base := base) (ok := ok) l
    refine ⟨flat_len (x :: l), fun j p hj => ?_⟩
    rcases j with _ | j
    · simp only [List.getElem?_cons_zero, Option.some.injEq] at hj
      subst hj
      exact k40_mkM w base ok x
    · simp only [List.getElem?_cons_succ] at hj
      have := h.2 j p hj
      rw [List.flatMap_cons]
      have e : (cells40 x ++ l.flatMap cells40).drop ((j + 1) * 4) = (l.flatMap cells40).drop (j * 4) := by
        rw [show (j + 1) * 4 = (cells40 x).length + j * 4 from by simp [cells40]; omega, List.drop_append]
        simp
      rw [e]
      exact this
theorem flat_of_reps {w : World} {base : Nat} {ok : Nat → Prop} : ∀ (l : List S40) (cs : List Value), Reps (k40.M w base ok) 4 l cs → cs = l.flatMap cells40
  | [], cs, h => by
    have := h.1
    simpa using this
  | x :: l, cs, h => by
    have h1 := h.2 0 x rfl
    rw [Nat.zero_mul, List.drop_zero] at h1
    have e1 := k40_openM h1
    have h2 := flat_of_reps l (cs.drop 4) ⟨by rw [List.length_drop, h.1, List.length_cons]; omega, fun j p hj => by
      have := h.2 (j + 1) p (by simpa using hj)
      rwa [show (j + 1) * 4 = 4 + j * 4 from by omega, ← List.drop_drop] at this⟩
    rw [List.flatMap_cons, ← h2]
    have h3 := List.take_append_drop 4 cs
    rw [e1] at h3
    exact h3.symm
theorem R_own40 {w : World} {base : Nat} {ok : Nat → Prop} {v : Value} {l : List S40} (h : Kd.R k40 40 w base ok v l) : (∀ k, v.ownBlock = some k → ok k) ∧ w.ownsRow base 40 4 v l.length (l.flatMap cells40) := by
  obtain ⟨h0, inner, ho, hr⟩ := h
  obtain rfl := flat_of_reps l inner hr
  exact ⟨h0, ho⟩
theorem own40_R {w : World} {base : Nat} {ok : Nat → Prop} {v : Value} {l : List S40} (h0 : ∀ k, v.ownBlock = some k → ok k) (h : w.ownsRow base 40 4 v l.length (l.flatMap cells40)) : Kd.R k40 40 w base ok v l :=
  ⟨h0, _, h, reps_flat l⟩
/-- A store into a row of the call's own. -/
theorem own_put {w : World} {base : Nat} {e : TypeId} {size n b cap : Nat} {xs : List Value} (h : w.ownsRow base e size (.slice (some ⟨b, 0, none⟩) n cap) n xs) (i : Nat) (u : Value) :
    (w.setCell ⟨b, i, none⟩ u).ownsRow base e size (.slice (some ⟨b, 0, none⟩) n cap) n (xs.set i u) := by
  obtain ⟨h1, h2⟩ := h
  refine ⟨by rw [List.length_set]; exact h1, .inr ?_⟩
  rcases h2 with ⟨hv, _⟩ | ⟨g, cap', cur, hv, hg, hb, hc, hm, hz, ht⟩
  · cases hv
  · cases hv
    refine ⟨b, cap, cur.setIfInBounds i u, rfl, hg, blk_set hb i u, hc, hm, by rw [Array.size_setIfInBounds]; exact hz, ?_⟩
    rw [Array.toList_setIfInBounds, List.take_set, ht]
theorem flat_set1 (l : List S40) (a : S40) (u : ByteArray) : ((l ++ [a]).flatMap cells40).set (l.length * 4 + 1) (.string u) = (l ++ [{ a with f1 := u }]).flatMap cells40 := by
  rw [List.flatMap_append, List.flatMap_append, List.set_append_right _ _ (by rw [flat_len]; omega), flat_len]
  simp [cells40]
theorem flat_set2 (l : List S40) (a : S40) (u : Int) : ((l ++ [a]).flatMap cells40).set (l.length * 4 + 2) (.int .i64 u) = (l ++ [{ a with f2 := u }]).flatMap cells40 := by
  rw [List.flatMap_append, List.flatMap_append, List.set_append_right _ _ (by rw [flat_len]; omega), flat_len]
  simp [cells40]
/-- A slice of strings out of a block that holds them all. -/
theorem C_strs {w : World} {b : Nat} {ss : List ByteArray} (h : w.heap[b]? = some (.cells (ss.map Value.string).toArray 9 (0, 0))) (hl : ss.length ≤ 1000) : Kd.C Kd.string w (some ⟨b, 0, none⟩) ss.length ss := by
  refine ⟨rfl, by omega, fun _ => ⟨_, rfl, fun j p hj => ⟨[.string p], rfl, rfl, fun i u hi => ?_⟩⟩⟩
  rcases i with _ | i
  · simp only [List.getElem?_cons_zero, Option.some.injEq] at hi
    subst hi
    have e : (⟨b, 0, none⟩ : Addr).add (j * Kd.string.sz + 0) = ⟨b, j, none⟩ := by
      show (⟨b, 0, none⟩ : Addr).add (j * 1 + 0) = _
      simp [Addr.add]; omega
    rw [e, cell_row h]
    simp [hj]
  · simp at hi
theorem keep_then {a b c : World} {g : Nat} (h : KeepBut a b g none) (k : KeepBut b c g none) : KeepBut a c g none :=
  ⟨Nat.le_trans h.1 k.1, fun i hi hg hr => (k.2 i (Nat.lt_of_lt_of_le hi h.1) hg hr).trans (h.2 i hi hg hr)⟩
theorem keep_of_below {a b : World} (h : Below a.heap.size a b) (g : Nat) : KeepBut a b g none := ⟨h.size, fun i hi _ _ => h.block i hi⟩
theorem own_last {w : World} {base : Nat} {ok : Nat → Prop} {v : Value} {l : List S40} {a : S40} (h : Kd.R k40 40 w base ok v (l ++ [a])) :
    ∃ b cap cur, v = .slice (some ⟨b, 0, none⟩) (l.length + 1) cap ∧ ok b ∧ base ≤ b ∧ w.heap[b]? = some (.cells cur 40 (0, 0)) ∧ ∀ j u, (cells40 a)[j]? = some u → w.cell? ⟨b, l.length * 4 + j, none⟩ = some u := by
  obtain ⟨h0, h1, h2⟩ := R_own40 h
  rw [List.length_append, List.length_singleton] at h2
  rcases h2 with ⟨_, hv⟩ | ⟨g, cap, cur, rfl, hg, hb, hc, hm, hz, ht⟩
  · omega
  · refine ⟨g, cap, cur, rfl, h0 g rfl, hg, hb, fun j u hj => ?_⟩
    have hj4 : j < 4 := by have := (List.getElem?_eq_some_iff.1 hj).1; simpa [cells40] using this
    rw [cell_row hb, ← Array.getElem?_toList]
    have e : cur.toList[l.length * 4 + j]? = (cur.toList.take ((l.length + 1) * 4))[l.length * 4 + j]? := by rw [List.getElem?_take, if_pos (by omega)]
    rw [e, ht, List.flatMap_append, List.getElem?_append_right (by rw [flat_len]; omega), flat_len]
    simpa using hj
theorem dice_set {w0 w : World} {g b j : Nat} (h : DiceOk w0 w g) (hne : b ≠ g) (hb : w0.heap.size ≤ b) (u : Value) : DiceOk w0 (w.setCell ⟨b, j, none⟩ u) g := by
  obtain ⟨l, at', h1, h2, h3, h4⟩ := h
  exact ⟨l, at', h1, h2, h3.far (p := ⟨b, j, none⟩) (fun e => hne e.symm) u, h4.setCell hb u⟩
theorem put1 {w : World} {base b cap : Nat} {ok : Nat → Prop} {l : List S40} {a : S40} (h : Kd.R k40 40 w base ok (.slice (some ⟨b, 0, none⟩) (l.length + 1) cap) (l ++ [a])) (u : ByteArray) :
    Kd.R k40 40 (w.setCell ⟨b, l.length * 4 + 1, none⟩ (.string u)) base ok (.slice (some ⟨b, 0, none⟩) (l.length + 1) cap) (l ++ [{ a with f1 := u }]) := by
  obtain ⟨h0, h1⟩ := R_own40 h
  refine own40_R h0 ?_
  rw [← flat_set1]
  have e : (l ++ [{ a with f1 := u }]).length = (l ++ [a]).length := by simp
  rw [e]
  rw [List.length_append, List.length_singleton] at h1 ⊢
  exact own_put h1 _ _
theorem put2 {w : World} {base b cap : Nat} {ok : Nat → Prop} {l : List S40} {a : S40} (h : Kd.R k40 40 w base ok (.slice (some ⟨b, 0, none⟩) (l.length + 1) cap) (l ++ [a])) (u : Int) :
    Kd.R k40 40 (w.setCell ⟨b, l.length * 4 + 2, none⟩ (.int .i64 u)) base ok (.slice (some ⟨b, 0, none⟩) (l.length + 1) cap) (l ++ [{ a with f2 := u }]) := by
  obtain ⟨h0, h1⟩ := R_own40 h
  refine own40_R h0 ?_
  rw [← flat_set2]
  have e : (l ++ [{ a with f2 := u }]).length = (l ++ [a]).length := by simp
  rw [e]
  rw [List.length_append, List.length_singleton] at h1 ⊢
  exact own_put h1 _ _
theorem last_cell {w : World} {base b cap : Nat} {ok : Nat → Prop} {l : List S40} {a : S40} (h : Kd.R k40 40 w base ok (.slice (some ⟨b, 0, none⟩) (l.length + 1) cap) (l ++ [a])) :
    w.cell? ⟨b, l.length * 4, none⟩ = some (.string a.f0) ∧ w.cell? ⟨b, l.length * 4 + 1, none⟩ = some (.string a.f1) ∧ w.cell? ⟨b, l.length * 4 + 2, none⟩ = some (.int .i64 a.f2) ∧ ∀ j, w.frozen? ⟨b, j, none⟩ = false := by
  obtain ⟨b', cap', cur, hv, _, _, hb, hc⟩ := own_last h
  cases hv
  exact ⟨hc 0 _ rfl, hc 1 _ rfl, hc 2 _ rfl, fun j => blk_frozen hb j⟩
theorem word_new (w0 : World) (g : Nat) (w : World) (ss : List ByteArray) (h : DiceOk w0 w g) (hn : 1 ≤ ss.length) (hn2 : ss.length ≤ 1000) :
    Calls Tryd.prog 30 #[.pointer (some ⟨g, 0, none⟩), .slice (some ⟨w.heap.size, 0, none⟩) ss.length ss.length] (w.alloc (.cells (ss.map Value.string).toArray 9)) fun e w' => ∃ s ∈ ss, e = .returned (.string s) ∧ DiceOk w0 w' g ∧ KeepBut w w' g none := by
  have hb : Below w.heap.size w (w.alloc (.cells (ss.map Value.string).toArray 9)) := (Below.refl _ _).alloc (Nat.le_refl _) _
  refine (word_any w0 g _ ss.length ss _ (h.below hb) (C_strs (heap_alloc_new w _) hn2) (Nat.le_refl _) (fun ad e => ?_) hn hn2).mono ?_
  · cases e
    have := h.lt
    simp only
    omega
  · rintro e w' ⟨s, hs, he, hd, hk⟩
    exact ⟨s, hs, he, hd, keep_then (keep_of_below hb g) hk⟩
set_option maxHeartbeats 4000000 in
set_option maxRecDepth 100000 in
set_option linter.unusedSimpArgs false in
theorem aliases_ok (w0 : World) (g : Nat) (w : World) (hd : DiceOk w0 w g) :
    Calls Tryd.prog 52 #[.pointer (some ⟨g, 0, none⟩)] w fun e w' => ∃ v l, e = .returned v ∧ Kd.R k40 40 w' w.heap.size (fun k => k ≠ g) v l ∧ l.length ≤ 5 ∧ DiceOk w0 w' g ∧ KeepBut w w' g none := by
  have hgw := hd.lt
  go_enter Tryd.func52, Tryd.ntmps52
  go_wp2_with fail
  refine (next_any w0 g 6 w hd (by decide) (by decide)).mono ?_
  rintro e w1 ⟨K, hK, rfl, hd1, hk1⟩
  go_wp2_with fail
  go_loopw [3, 4, 8] (fun v3 v4 v8 wr => ∃ (i : Nat) (tm : Int) (l : List S40), (i : Int) ≤ K ∧ v8 = .int .i64 i ∧ v4 = .int .i64 tm ∧ l.length ≤ i ∧ Kd.R k40 40 wr w.heap.size (fun k => k ≠ g) v3 l ∧ DiceOk w0 wr g ∧ KeepBut w wr g none) (fun _ _ v8 _ => K - (intOf v8).toNat)
  case atStart => exact ⟨0, 0, [], by omega, rfl, rfl, Nat.le_refl _, Kd.R_nil _ _ _ _ _, hd1, hk1⟩
  case round =>
    obtain ⟨i, tm, l, hi, rfl, rfl, hl, hR, hdr, hkr⟩ := hrel
    by_cases hlt : (i : Int) < K
    · have e0 : decide (i < K) = true := decide_eq_true (by omega)
      have hi6 : (i : Int) < 6 := by omega
      replace hlt := Lib.hid hlt
      go_wp2_with fail
      refine (next_any w0 g 3 wr hdr (by decide) (by decide)).mono ?_
      rintro e w2 ⟨k2, hk2', rfl, hd2, hk2⟩
      have hR2 := Kd.R_keep hR hk2 (fun k hk => hk)
      have hkk2 := keep_then hkr hk2
      clear hR hdr hkr hk2' hk2
      go_wp2_with fail
      refine (word_new w0 g w2 [⟨#[98, 111, 98]⟩, ⟨#[114, 111, 98]⟩, ⟨#[114, 111, 98, 101, 114, 116]⟩, ⟨#[97, 110, 110]⟩, ⟨#[106, 111, 115, 101, 102]⟩, ⟨#[120]⟩] hd2 (by decide) (by decide)).mono ?_
      rintro e w3 ⟨s1, hs1, rfl, hd3, hk3⟩
      have hR3 := Kd.R_keep hR2 hk3 (fun k hk => hk)
      have hkk3 := keep_then hkk2 hk3
      clear hR2 hd2 hkk2 hk3 hs1
      go_wp2_with fail
      refine (word_new w0 g w3 [⟨#[114, 111, 98, 101, 114, 116]⟩, ⟨#[97, 110, 110, 97]⟩, ⟨#[98, 111, 98]⟩, ⟨#[106, 111, 115, 101, 102]⟩, ⟨#[121]⟩, ⟨#[97, 110, 110]⟩] hd3 (by decide) (by decide)).mono ?_
      rintro e w4 ⟨s2, hs2, rfl, hd4, hk4⟩
      have hR4 := Kd.R_keep hR3 hk4 (fun k hk => hk)
      have hkk4 := keep_then hkk3 hk4
      clear hR3 hd3 hkk3 hk4 hs2
      go_wp2_with fail
      refine (next_any w0 g 5 w4 hd4 (by decide) (by decide)).mono ?_
      rintro e w5 ⟨k5, hk5', rfl, hd5, hk5⟩
      have hR5 := Kd.R_keep hR4 hk5 (fun k hk => hk)
      have hkk5 := keep_then hkk4 hk5
      clear hR4 hd4 hkk4 hk5 hk5'
      have hgw5 : ∀ k, w5.heap.size ≤ k → k ≠ g := fun k hk => by have := hkk5.1; omega
      generalize ht2 : wrap64 (tm + k2) = t2
      go_wp2_with (at_builtin; refine Kd.R_append k40 w.heap.size rfl _ _ 36 40 _ 48 rfl Tryd.underlying36 info40 rfl (by decide) (by decide) u3 l ⟨s1, s2, t2, _⟩ _ (fun k => k ≠ g) (fun _ => False) (by rfl) (by rfl) (k40_mkM _ _ _ _) (fun k h => h.elim) hgw5 hR5 (Below.refl _ _) hkk5.1 (by omega) ?_; intro v6 w6 hR6 hb6 hg6 hat6; obtain ⟨b, cap, cur, rfl, hbg, hbb, -, -⟩ := own_last hR6)
      have hkk6 : KeepBut w w6 g none := ⟨Nat.le_trans hkk5.1 hg6.size, fun k hk hkg hr => (hg6.block k (Nat.lt_of_lt_of_le hk hkk5.1) (fun e => by
        have h1 := own_base (R_own40 hR5).2 k e.symm
        omega)).trans (hkk5.2 k hk hkg hr)⟩
      have hd6 : DiceOk w0 w6 g := hd5.grown hg6 (fun e => (R_own40 hR5).1 g e.symm rfl) (fun k hk => by
        have h1 := own_base (R_own40 hR5).2 k hk
        have h2 := hd.low.size
        omega)
      have hb0 : w0.heap.size ≤ b := Nat.le_trans hd.low.size hbb
      clear hat6 hg6 hb6 hR5 hd5 hkk5 ht2 hgw5
      generalize ((k5 : Int) == 1) = gone at hR6 ⊢
      obtain ⟨q0, q1, -, qf⟩ := last_cell hR6
      by_cases heq : s1.toList = s2.toList
      case' pos =>
        have hRX := put1 hR6 ⟨#[111, 116, 104, 101, 114]⟩
        have hdX := dice_set (j := l.length * 4 + 1) hd6 hbg hb0 (.string ⟨#[111, 116, 104, 101, 114]⟩)
        have hkX := keep_far (p := ⟨b, l.length * 4 + 1, none⟩) hkk6 hbb (.string ⟨#[111, 116, 104, 101, 114]⟩)
        refine start_ (n := 9) (S := fun w' => w'.cell? ⟨b, l.length * 4, none⟩ = some (.string s1) ∧ w'.cell? ⟨b, l.length * 4 + 1, none⟩ = some (.string s2)) (ds := []) #[false, false, false, false, false, false, false, false, false] (by kernel_rfl) rfl rfl ⟨q0, q1⟩ (fun hHeld => ?_)
        refine pure_ (i := 0) (N := some 33) (v := ?_) (a' := ?_) #[true, false, false, false, false, false, false, false, false] rfl rfl (by kernel_rfl) (fun _ _ _ h => h) (Or.inl ⟨by rfl, ?_⟩) ?_ ?_
        rotate_left
        · intro w'
          go_simp
          with_reducible rfl
        rotate_left
        · simp only [Act.put, List.setIfInBounds_toArray, List.set_cons_zero, List.set_cons_succ, i64_w, i32_w]
          rfl
        refine pure_ (i := 1) (N := some 34) (v := ?_) (a' := ?_) #[true, true, false, false, false, false, false, false, false] rfl rfl (by kernel_rfl) (fun _ _ _ h => h) (Or.inl ⟨by rfl, ?_⟩) ?_ ?_
        rotate_left
        · intro w'
          go_simp
          with_reducible rfl
        rotate_left
        · simp only [Act.put, List.setIfInBounds_toArray, List.set_cons_zero, List.set_cons_succ, i64_w, i32_w]
          rfl
        refine pure_ (i := 2) (N := some 35) (v := ?_) (a' := ?_) #[true, true, true, false, false, false, false, false, false] rfl rfl (by kernel_rfl) (fun _ _ _ h => h) (Or.inl ⟨by rfl, ?_⟩) ?_ ?_
        rotate_left
        · intro w'
          go_simp
          with_reducible rfl
        rotate_left
        · simp only [Act.put, List.setIfInBounds_toArray, List.set_cons_zero, List.set_cons_succ, i64_w, i32_w]
          rfl
        refine pure_ (i := 4) (N := some 37) (v := ?_) (a' := ?_) #[true, true, true, false, true, false, false, false, false] rfl rfl (by kernel_rfl) (fun _ _ _ h => h) (Or.inl ⟨by rfl, ?_⟩) ?_ ?_
        rotate_left
        · intro w'
          go_simp
          with_reducible rfl
        rotate_left
        · simp only [Act.put, List.setIfInBounds_toArray, List.set_cons_zero, List.set_cons_succ, i64_w, i32_w]
          rfl
        refine pure_ (i := 5) (N := some 38) (v := ?_) (a' := ?_) #[true, true, true, false, true, true, false, false, false] rfl rfl (by kernel_rfl) (fun _ _ _ h => h) (Or.inl ⟨by rfl, ?_⟩) ?_ ?_
        rotate_left
        · intro w'
          go_simp
          with_reducible rfl
        rotate_left
        · simp only [Act.put, List.setIfInBounds_toArray, List.set_cons_zero, List.set_cons_succ, i64_w, i32_w]
          rfl
        refine pure_ (i := 6) (N := some 39) (v := ?_) (a' := ?_) #[true, true, true, false, true, true, true, false, false] rfl rfl (by kernel_rfl) (fun _ _ _ h => h) (Or.inl ⟨by rfl, ?_⟩) ?_ ?_
        rotate_left
        · intro w'
          go_simp
          with_reducible rfl
        rotate_left
        · simp only [Act.put, List.setIfInBounds_toArray, List.set_cons_zero, List.set_cons_succ, i64_w, i32_w]
          rfl
        refine take_ (i := 3) (N := some 36) (v := ?_) (a' := ?_) #[true, true, true, true, true, true, true, false, false] rfl rfl (by kernel_rfl) (fun _ _ _ h => h) (Or.inl ⟨by rfl, ?_⟩) hHeld ?_ ?_
        rotate_left
        · rintro w' ⟨s0, s1⟩
          go_simp
          with_reducible rfl
        rotate_left
        · simp only [Act.put, List.setIfInBounds_toArray, List.set_cons_zero, List.set_cons_succ, i64_w, i32_w]
          rfl
        refine take_ (i := 7) (N := some 40) (v := ?_) (a' := ?_) #[true, true, true, true, true, true, true, true, false] rfl rfl (by kernel_rfl) (fun _ _ _ h => h) (Or.inl ⟨by rfl, ?_⟩) hHeld ?_ ?_
        rotate_left
        · rintro w' ⟨s0, s1⟩
          go_simp
          with_reducible rfl
        rotate_left
        · simp only [Act.put, List.setIfInBounds_toArray, List.set_cons_zero, List.set_cons_succ, i64_w, i32_w]
          rfl
        refine pure_ (i := 8) (N := some 41) (v := ?_) (a' := ?_) #[true, true, true, true, true, true, true, true, true] rfl rfl (by kernel_rfl) (fun _ _ _ h => h) (Or.inl ⟨by rfl, ?_⟩) ?_ ?_
        rotate_left
        · intro w'
          go_simp
          with_reducible rfl
        rotate_left
        · simp only [Act.put, List.setIfInBounds_toArray, List.set_cons_zero, List.set_cons_succ, i64_w, i32_w]
          rfl
        refine done_ (by kernel_rfl) ?_
        go_wp2_with fail
        refine (next_any w0 g 15 _ (hdX.below (Below.refl _ _).drew) (by decide) (by decide)).mono ?_
        rintro e w8 ⟨k8, hk8', rfl, hd8, hk8⟩
        have hRY := Kd.R_keep (Kd.R_below hRX (Below.refl _ _).drew) hk8 (fun k hk => hk)
        have hkk8 := keep_then (keep_then hkX (keep_of_below (Below.refl _ _).drew g)) hk8
        obtain ⟨a1, hR8⟩ : ∃ a1, Kd.R k40 40 w8 w.heap.size (fun k => k ≠ g) (Value.slice (some ⟨b, 0, none⟩) (l.length + 1) cap) (l ++ [a1]) := ⟨_, hRY⟩
        clear hRX hRY hdX hkX hk8 hk8' hHeld heq hR6 hd6 hkk6 q0 q1 qf
      case' neg =>
        have heq' : (s1.toList = s2.toList) = False := eq_false heq
        have heq2 : (s1.toList == s2.toList) = false := by simpa using heq
        refine start_ (n := 9) (S := fun w' => w'.cell? ⟨b, l.length * 4, none⟩ = some (.string s1) ∧ w'.cell? ⟨b, l.length * 4 + 1, none⟩ = some (.string s2)) (ds := []) #[false, false, false, false, false, false, false, false, false] (by kernel_rfl) rfl rfl ⟨q0, q1⟩ (fun hHeld => ?_)
        refine pure_ (i := 0) (N := some 33) (v := ?_) (a' := ?_) #[true, false, false, false, false, false, false, false, false] rfl rfl (by kernel_rfl) (fun _ _ _ h => h) (Or.inl ⟨by rfl, ?_⟩) ?_ ?_
        rotate_left
        · intro w'
          go_simp
          with_reducible rfl
        rotate_left
        · simp only [Act.put, List.setIfInBounds_toArray, List.set_cons_zero, List.set_cons_succ, i64_w, i32_w]
          rfl
        refine pure_ (i := 1) (N := some 34) (v := ?_) (a' := ?_) #[true, true, false, false, false, false, false, false, false] rfl rfl (by kernel_rfl) (fun _ _ _ h => h) (Or.inl ⟨by rfl, ?_⟩) ?_ ?_
        rotate_left
        · intro w'
          go_simp
          with_reducible rfl
        rotate_left
        · simp only [Act.put, List.setIfInBounds_toArray, List.set_cons_zero, List.set_cons_succ, i64_w, i32_w]
          rfl
        refine pure_ (i := 2) (N := some 35) (v := ?_) (a' := ?_) #[true, true, true, false, false, false, false, false, false] rfl rfl (by kernel_rfl) (fun _ _ _ h => h) (Or.inl ⟨by rfl, ?_⟩) ?_ ?_
        rotate_left
        · intro w'
          go_simp
          with_reducible rfl
        rotate_left
        · simp only [Act.put, List.setIfInBounds_toArray, List.set_cons_zero, List.set_cons_succ, i64_w, i32_w]
          rfl
        refine pure_ (i := 4) (N := some 37) (v := ?_) (a' := ?_) #[true, true, true, false, true, false, false, false, false] rfl rfl (by kernel_rfl) (fun _ _ _ h => h) (Or.inl ⟨by rfl, ?_⟩) ?_ ?_
        rotate_left
        · intro w'
          go_simp
          with_reducible rfl
        rotate_left
        · simp only [Act.put, List.setIfInBounds_toArray, List.set_cons_zero, List.set_cons_succ, i64_w, i32_w]
          rfl
        refine pure_ (i := 5) (N := some 38) (v := ?_) (a' := ?_) #[true, true, true, false, true, true, false, false, false] rfl rfl (by kernel_rfl) (fun _ _ _ h => h) (Or.inl ⟨by rfl, ?_⟩) ?_ ?_
        rotate_left
        · intro w'
          go_simp
          with_reducible rfl
        rotate_left
        · simp only [Act.put, List.setIfInBounds_toArray, List.set_cons_zero, List.set_cons_succ, i64_w, i32_w]
          rfl
        refine pure_ (i := 6) (N := some 39) (v := ?_) (a' := ?_) #[true, true, true, false, true, true, true, false, false] rfl rfl (by kernel_rfl) (fun _ _ _ h => h) (Or.inl ⟨by rfl, ?_⟩) ?_ ?_
        rotate_left
        · intro w'
          go_simp
          with_reducible rfl
        rotate_left
        · simp only [Act.put, List.setIfInBounds_toArray, List.set_cons_zero, List.set_cons_succ, i64_w, i32_w]
          rfl
        refine take_ (i := 3) (N := some 36) (v := ?_) (a' := ?_) #[true, true, true, true, true, true, true, false, false] rfl rfl (by kernel_rfl) (fun _ _ _ h => h) (Or.inl ⟨by rfl, ?_⟩) hHeld ?_ ?_
        rotate_left
        · rintro w' ⟨s0, s1⟩
          go_simp
          with_reducible rfl
        rotate_left
        · simp only [Act.put, List.setIfInBounds_toArray, List.set_cons_zero, List.set_cons_succ, i64_w, i32_w]
          rfl
        refine take_ (i := 7) (N := some 40) (v := ?_) (a' := ?_) #[true, true, true, true, true, true, true, true, false] rfl rfl (by kernel_rfl) (fun _ _ _ h => h) (Or.inl ⟨by rfl, ?_⟩) hHeld ?_ ?_
        rotate_left
        · rintro w' ⟨s0, s1⟩
          go_simp
          with_reducible rfl
        rotate_left
        · simp only [Act.put, List.setIfInBounds_toArray, List.set_cons_zero, List.set_cons_succ, i64_w, i32_w]
          rfl
        refine pure_ (i := 8) (N := some 41) (v := ?_) (a' := ?_) #[true, true, true, true, true, true, true, true, true] rfl rfl (by kernel_rfl) (fun _ _ _ h => h) (Or.inl ⟨by rfl, ?_⟩) ?_ ?_
        rotate_left
        · intro w'
          go_simp
          with_reducible rfl
        rotate_left
        · simp only [Act.put, List.setIfInBounds_toArray, List.set_cons_zero, List.set_cons_succ, i64_w, i32_w]
          rfl
        refine done_ (by kernel_rfl) ?_
        go_wp2_with fail
        refine (next_any w0 g 15 _ (hd6.below (Below.refl _ _).drew) (by decide) (by decide)).mono ?_
        rintro e w8 ⟨k8, hk8', rfl, hd8, hk8⟩
        have hRY := Kd.R_keep (Kd.R_below hR6 (Below.refl _ _).drew) hk8 (fun k hk => hk)
        have hkk8 := keep_then (keep_then hkk6 (keep_of_below (Below.refl _ _).drew g)) hk8
        obtain ⟨a1, hR8⟩ : ∃ a1, Kd.R k40 40 w8 w.heap.size (fun k => k ≠ g) (Value.slice (some ⟨b, 0, none⟩) (l.length + 1) cap) (l ++ [a1]) := ⟨_, hRY⟩
        clear hRY hk8 hk8' hHeld heq heq' heq2 hR6 hd6 hkk6 q0 q1 qf
      all_goals
        obtain ⟨q0, q1, q2, qf⟩ := last_cell hR8
        by_cases h1 : k8 = 1
        · subst h1
          have hbal : Below w8.heap.size w8 (w8.alloc (Obj.cells #[Value.int IntKind.i64 (-1), Value.int IntKind.i64 0, Value.int IntKind.i64 1099511627776, Value.int IntKind.i64 1099511627777] 3)) := (Below.refl _ _).alloc (Nat.le_refl _) _
          have hbox := heap_alloc_new w8 (Obj.cells #[Value.int IntKind.i64 (-1), Value.int IntKind.i64 0, Value.int IntKind.i64 1099511627776, Value.int IntKind.i64 1099511627777] 3)
          go_wp2_with fail
          refine (next_any w0 g 4 _ (hd8.below hbal) (by decide) (by decide)).mono ?_
          rintro e w9 ⟨k9, hk9', rfl, hd9, hk9⟩
          have hk9n : k9 < 4 := by omega
          have hbox9 := (hk9.2 w8.heap.size (by rw [World.size_alloc]; exact Nat.lt_succ_self _) (by have := hd8.lt; omega) (by simp)).trans hbox
          obtain ⟨x9, hx9⟩ : ∃ x9 : Int, w9.cell? ⟨w8.heap.size, k9, none⟩ = some (.int .i64 x9) := by
            rw [cell_row hbox9]
            rcases k9 with _ | _ | _ | _ | k9
            · exact ⟨_, rfl⟩
            · exact ⟨_, rfl⟩
            · exact ⟨_, rfl⟩
            · exact ⟨_, rfl⟩
            · omega
          have hR9 := Kd.R_keep (Kd.R_below hR8 hbal) hk9 (fun k hk => hk)
          have hkk9 := keep_then (keep_then hkk8 (keep_of_below hbal g)) hk9
          obtain ⟨p0, p1, p2, pf⟩ := last_cell hR9
          have hRX := put2 hR9 x9
          have hdX := dice_set (j := l.length * 4 + 2) hd9 hbg hb0 (.int .i64 x9)
          have hkX := keep_far (p := ⟨b, l.length * 4 + 2, none⟩) hkk9 hbb (.int .i64 x9)
          clear hR8 hkk8 q0 q1 q2 qf hbox hbox9 hbal hd8 hk9 hR9 hd9 hkk9
          go_wp2_with fail
          go_roundw
          case rel => exact ⟨i + 1, t2, l ++ [_], by have := hlt.out; omega, by go_num, rfl, by simp; omega, hRX, hdX, hkX⟩
          case measure => have := hlt.out; simp [intOf]; omega
        · by_cases h2 : k8 = 2
          · subst h2
            go_wp2_with fail
            refine (word_new w0 g w8 [⟨#[]⟩, ⟨#[66, 111, 98]⟩, ⟨#[98, 32, 32, 99]⟩, a1.f0] hd8 (by simp) (by simp)).mono ?_
            rintro e w9 ⟨s9, hs9, rfl, hd9, hk9⟩
            have hR9 := Kd.R_keep hR8 hk9 (fun k hk => hk)
            have hkk9 := keep_then hkk8 hk9
            obtain ⟨p0, p1, p2, pf⟩ := last_cell hR9
            have hRX := put1 hR9 s9
            have hdX := dice_set (j := l.length * 4 + 1) hd9 hbg hb0 (.string s9)
            have hkX := keep_far (p := ⟨b, l.length * 4 + 1, none⟩) hkk9 hbb (.string s9)
            clear hR8 hkk8 q0 q1 q2 qf hd8 hk9 hR9 hd9 hkk9 hs9
            go_wp2_with fail
            go_roundw
            case rel => exact ⟨i + 1, t2, l ++ [_], by have := hlt.out; omega, by go_num, rfl, by simp; omega, hRX, hdX, hkX⟩
            case measure => have := hlt.out; simp [intOf]; omega
          · have e1 : ((k8 : Int) == 1) = false := beq_eq_false_iff_ne.mpr (by omega)
            have e2 : ((k8 : Int) == 2) = false := beq_eq_false_iff_ne.mpr (by omega)
            clear h1 h2
            go_wp2_with fail
            go_roundw
            case rel => exact ⟨i + 1, t2, l ++ [_], by have := hlt.out; omega, by go_num, rfl, by simp; omega, hR8, hd8, hkk8⟩
            case measure => have := hlt.out; simp [intOf]; omega
    · have e0 : decide (i < K) = false := decide_eq_false (by omega)
      go_wp2_with fail
      go_ret
      exact ⟨_, rfl, l, hR, by omega, hdr, hkr⟩
#print axioms aliases_ok
end Go.Proofs.YtpejnnnkamodbaaDoor
/- Plain facts about lists of aliases that Add has made: they are valid, and every name leads somewhere at every time. -/
namespace Go.Proofs.YtpejnnnkamodbaaDoor
open Go
open PCanonEqual (S40 z40)

theorem leads_det {f : ByteArray → Option S40} {s t : ByteArray} (h : Leads f s t) : ∀ {t' : ByteArray}, Leads f s t' → t = t' := by
  induction h with
  | done h =>
    intro t' h'
    cases h' with
    | done _ => rfl
    | step h2 _ => rw [h] at h2; cases h2
  | step h r ih =>
    intro t' h'
    cases h' with
    | done h2 => rw [h] at h2; cases h2
    | step h2 r2 =>
      rw [h] at h2
      cases h2
      exact ih r2
theorem leads_end {f : ByteArray → Option S40} {s t : ByteArray} (h : Leads f s t) : f t = none := by
  induction h with
  | done h => exact h
  | step _ _ ih => exact ih
theorem leads_again {f : ByteArray → Option S40} {s t : ByteArray} (h : Leads f s t) : Leads f t t := .done (leads_end h)
/-- Where a name leads is itself, or what an entry stands for. -/
theorem leads_from {f : ByteArray → Option S40} {s t : ByteArray} (h : Leads f s t) : t = s ∨ ∃ k a, f k = some a ∧ t = a.f1 := by
  induction h with
  | done _ => exact Or.inl rfl
  | step h r ih =>
    rcases ih with rfl | h2
    · exact Or.inr ⟨_, _, h, rfl⟩
    · exact Or.inr h2
theorem valid_iff (l : List S40) : validT l = true ↔ l.length ≤ 256 ∧ (∀ a ∈ l, rightT a = true) ∧ ∀ i, 0 < i → i < l.length → (l.getD (i - 1) z40).f2 ≤ (l.getD i z40).f2 := by
  constructor
  · intro h
    refine ⟨?_, valid_mem h, fun i h0 hi => ?_⟩
    · simp only [validT, Bool.and_eq_true, decide_eq_true_eq] at h
      exact h.1
    · simp only [validT, validFrom, Bool.and_eq_true, List.all_eq_true, List.mem_range] at h
      have h2 := (h.2 i (by omega)).2
      simp only [Nat.zero_add, Bool.not_eq_true', Bool.and_eq_false_iff, decide_eq_false_iff_not] at h2
      rcases h2 with h2 | h2
      · exact absurd h0 h2
      · omega
  · rintro ⟨h1, h2, h3⟩
    simp only [validT, validFrom, Bool.and_eq_true, List.all_eq_true, List.mem_range, decide_eq_true_eq, Nat.zero_add]
    refine ⟨h1, fun i hi => ⟨?_, ?_⟩⟩
    · have hi' : i < l.length := by omega
      have e : l.getD i z40 = l[i] := by simp [List.getD, hi']
      rw [e]
      exact h2 _ (List.getElem_mem hi')
    · simp only [Bool.not_eq_true', Bool.and_eq_false_iff, decide_eq_false_iff_not]
      by_cases h0 : 0 < i
      · right
        have := h3 i h0 (by omega)
        omega
      · left; exact h0
theorem sorted_last {l : List S40} (h : ∀ i, 0 < i → i < l.length → (l.getD (i - 1) z40).f2 ≤ (l.getD i z40).f2) : ∀ (d i : Nat), i + d + 1 = l.length → (l.getD i z40).f2 ≤ (l.getD (l.length - 1) z40).f2
  | 0, i, hi => by
    have : i = l.length - 1 := by omega
    subst this
    exact Int.le_refl _
  | d + 1, i, hi => by
    have h1 := h (i + 1) (by omega) (by omega)
    have h2 := sorted_last h d (i + 1) (by omega)
    simp only [Nat.add_sub_cancel] at h1
    exact Int.le_trans h1 h2
theorem all_early {l : List S40} {a : S40} (hv : validT l = true) (he : earlyT l a = false) : ∀ x ∈ l, x.f2 ≤ a.f2 := by
  intro x hx
  obtain ⟨i, hi, rfl⟩ := List.mem_iff_getElem.1 hx
  have h1 := sorted_last ((valid_iff l).1 hv).2.2 (l.length - i - 1) i (by omega)
  have e : l.getD i z40 = l[i] := by simp [List.getD, hi]
  rw [e] at h1
  simp only [earlyT, Bool.and_eq_false_iff, decide_eq_false_iff_not] at he
  rcases he with he | he
  · omega
  · omega
theorem presT_add (l : List S40) (a : S40) (t : Int) : presT (l ++ [a]) t = layA t (presT l t) a := by
  unfold presT
  rw [List.foldl_append]
  rfl
theorem presT_const {l : List S40} {t t' : Int} (h : ∀ x ∈ l, x.f2 ≤ t) (h' : ∀ x ∈ l, x.f2 ≤ t') : presT l t = presT l t' := by
  unfold presT
  generalize (fun _ => none : ByteArray → Option S40) = f
  induction l generalizing f with
  | nil => rfl
  | cons x l ih =>
    rw [List.foldl_cons, List.foldl_cons]
    have e : layA t f x = layA t' f x := by
      have h1 := h x List.mem_cons_self
      have h2 := h' x List.mem_cons_self
      unfold layA
      simp only [show ¬ x.f2 > t from by omega, show ¬ x.f2 > t' from by omega, if_false]
    rw [e]
    exact ih (fun y hy => h y (List.mem_cons_of_mem _ hy)) (fun y hy => h' y (List.mem_cons_of_mem _ hy)) _
/-- Valid, and without circles at any time. -/
def Sound40 (l : List S40) : Prop := validT l = true ∧ ∀ t s, ∃ r, Leads (presT l t) s r
theorem good_nil : Sound40 [] := ⟨rfl, fun _ s => ⟨s, .done rfl⟩⟩
theorem getD_add (l : List S40) (a : S40) (i : Nat) : (l ++ [a]).getD i z40 = if i < l.length then l.getD i z40 else if i = l.length then a else z40 := by
  by_cases h : i < l.length
  · rw [if_pos h]
    simp [List.getD, List.getElem?_append_left h]
  · rw [if_neg h]
    by_cases h2 : i = l.length
    · subst h2
      simp [List.getD]
    · rw [if_neg h2]
      simp only [List.getD]
      rw [List.getElem?_eq_none (by simp; omega)]
      rfl
theorem valid_add {l : List S40} {a : S40} (hv : validT l = true) (hr : rightT a = true) (he : earlyT l a = false) (hl : l.length < 256) : validT (l ++ [a]) = true := by
  have h := (valid_iff l).1 hv
  refine (valid_iff _).2 ⟨by simp; omega, fun x hx => ?_, fun i h0 hi => ?_⟩
  · rcases List.mem_append.1 hx with h1 | h1
    · exact h.2.1 x h1
    · rw [List.mem_singleton.1 h1]; exact hr
  · rw [List.length_append, List.length_singleton] at hi
    rw [getD_add, getD_add]
    by_cases h1 : i < l.length
    · rw [if_pos h1, if_pos (by omega)]
      exact h.2.2 i h0 h1
    · rw [if_neg h1, if_pos (show i = l.length by omega), if_pos (by omega)]
      have e : i - 1 < l.length := by omega
      have e2 : l.getD (i - 1) z40 = l[i - 1] := by simp [List.getD, e]
      rw [e2]
      exact all_early hv he _ (List.getElem_mem e)
theorem lay_leads {f : ByteArray → Option S40} {a : S40} {t : Int} (ht : a.f2 ≤ t) (hf : ∀ s, ∃ r, Leads f s r) (h : a.f3 = true ∨ ∃ r, Leads (layA t f a) a.f0 r) : ∀ s, ∃ r, Leads (layA t f a) s r := by
  have hlay : ∀ s, layA t f a s = if s = a.f0 then (if a.f3 then none else some a) else f s := fun s => by
    unfold layA
    rw [if_neg (by omega)]
  intro s
  obtain ⟨r0, h0⟩ := hf s
  induction h0 with
  | done h1 =>
    rename_i s
    by_cases hs : s = a.f0
    · subst hs
      rcases h with h | h
      · exact ⟨a.f0, .done (by rw [hlay, if_pos rfl, if_pos h])⟩
      · exact h
    · exact ⟨s, .done (by rw [hlay, if_neg hs]; exact h1)⟩
  | step h1 r ih =>
    rename_i s t' b
    by_cases hs : s = a.f0
    · subst hs
      rcases h with h | h
      · exact ⟨a.f0, .done (by rw [hlay, if_pos rfl, if_pos h])⟩
      · exact h
    · obtain ⟨r1, hr1⟩ := ih
      exact ⟨r1, .step (by rw [hlay, if_neg hs]; exact h1) hr1⟩
theorem add_good {l : List S40} {a : S40} (hg : Sound40 l) (h : AddT l a 0) : Sound40 (l ++ [a]) := by
  rcases h with ⟨_, h⟩ | ⟨hv, hr, ⟨_, h⟩ | ⟨he, ⟨_, h⟩ | ⟨hl, ⟨_, _, h⟩ | ⟨hc, _⟩⟩⟩⟩
  · cases h
  · cases h
  · cases h
  · cases h
  · refine ⟨valid_add hv hr he hl, fun t => ?_⟩
    rw [presT_add]
    by_cases ht : a.f2 > t
    · unfold layA
      rw [if_pos ht]
      exact hg.2 t
    · have hall := all_early hv he
      have e : presT l t = presT l a.f2 := presT_const (fun x hx => by have := hall x hx; omega) hall
      refine lay_leads (by omega) (hg.2 t) ?_
      rcases hc with hc | hc
      · right
        obtain ⟨r, hr⟩ := Classical.not_not.1 hc
        rw [presT_add] at hr
        have e2 : layA t (presT l t) a = layA a.f2 (presT l a.f2) a := by
          unfold layA
          simp only [ht, show ¬ a.f2 > a.f2 from by omega, if_false, e]
        rw [e2]
        exact ⟨r, hr⟩
      · exact Or.inl hc
theorem follow_good {l : List S40} (hg : Sound40 l) {s : ByteArray} {t : Int} {r : ByteArray} {e : Int} (h : FollowT l s t r e) : e = 0 ∧ Leads (presT l t) s r := by
  rcases h with ⟨h, _⟩ | ⟨_, h, _⟩ | ⟨_, h1, h2⟩
  · rw [hg.1] at h; cases h
  · exact absurd (hg.2 t s) h
  · exact ⟨h2, h1⟩
#print axioms add_good
end Go.Proofs.YtpejnnnkamodbaaDoor
/- reportescrowlaw13.grown: a list that Add has made. -/
namespace Go.Proofs.YtpejnnnkamodbaaDoor
open Go Go.RowKit Go.Maps Go.WideMaps Go.Proofs.YtpejnnnkamodbaaDoorW.PrintWords Go.Proofs.YtpejnnnkamodbaaDoorW.PrintLast
open PCanonEqual (S40 k40 z40 rd_T40 at_T40 k40_open k40_mk k40_openM k40_mkM)

theorem k40_move {w : World} {base : Nat} {ok : Nat → Prop} {x : S40} {cs : List Value} (h : k40.K w x cs) : k40.M w base ok x cs := k40_free h
set_option maxHeartbeats 4000000 in
set_option maxRecDepth 100000 in
set_option linter.unusedSimpArgs false in
theorem grown_ok (w0 : World) (g : Nat) (w : World) (hT : Tabs w0) (hd : DiceOk w0 w g) :
    Calls Tryd.prog 27 #[.pointer (some ⟨g, 0, none⟩)] w fun e w' => ∃ A c l, e = .returned (.slice A l.length c) ∧ Sound40 l ∧ Kd.C k40 w' A l.length l ∧ DiceOk w0 w' g ∧ KeepBut w w' g none ∧ l.length ≤ 10 := by
  have hgw := hd.lt
  go_enter Tryd.func27, Tryd.ntmps27
  go_wp2_with fail
  refine (aliases_ok w0 g w hd).mono ?_
  rintro e w1 ⟨v1, l1, rfl, hR1, hl1, hd1, hk1⟩
  go_wp2_with fail
  refine (aliases_ok w0 g w1 hd1).mono ?_
  rintro e w2 ⟨v2, l2, rfl, hR2, hl2, hd2, hk2⟩
  have hR12 := Kd.R_keep hR1 hk2 (fun k hk => hk)
  have hkk2 := keep_then hk1 hk2
  obtain ⟨A2, c2, rfl, hc2, hC2⟩ := Kd.R_reads hR2
  clear hR1 hk1 hk2 hR2 hd1
  have hgw2 : ∀ k, w2.heap.size ≤ k → k ≠ g := fun k hk => by have := hkk2.1; omega
  go_wp2_with (at_builtin; refine Kd.R_append_rows k40 w.heap.size rfl _ _ 36 40 _ 48 rfl Tryd.underlying36 info40 rfl (by decide) (by decide) v1 l1 l2 A2 l2.length c2 (fun k => k ≠ g) (fun _ => False) (by rfl) (by rfl) hR12 hC2 (fun x cs h => k40_free h) (fun k h => h.elim) hgw2 (Below.refl _ _) hkk2.1 (by omega) ?_; intro v3 w3 hR3 hb3 hg3 hat3; obtain ⟨A3, c3, rfl, hc3, hC3⟩ := Kd.R_reads hR3; have hL : (l1 ++ l2).length ≤ 10 := (by rw [List.length_append]; omega); generalize l1 ++ l2 = L at hR3 hat3 hc3 hC3 hL ⊢)
  have hd3 : DiceOk w0 w3 g := hd2.grown hg3 (fun e => (R_own40 hR12).1 g e.symm rfl) (fun k hk => by
    have h1 := own_base (R_own40 hR12).2 k hk
    have h2 := hd.low.size
    omega)
  have hkk3 : KeepBut w w3 g none := ⟨Nat.le_trans hkk2.1 hg3.size, fun k hk hkg hr => (hg3.block k (Nat.lt_of_lt_of_le hk hkk2.1) (fun e => by
    have h1 := own_base (R_own40 hR12).2 k e.symm
    omega)).trans (hkk2.2 k hk hkg hr)⟩
  have hT3 : Tabs w3 := hT.below hd3.low hT.six
  clear hR12 hR3 hat3 hg3 hb3 hkk2 hd2 hC2 hc2 hgw2
  replace hC3 := Lib.hid hC3
  go_loopw [3, 14] (fun v3 v14 wr => ∃ (i : Nat) (l : List S40) (A : Option Addr) (c : Nat), i ≤ L.length ∧ v14 = .int .i64 i ∧ v3 = .slice A l.length c ∧ l.length ≤ i ∧ Sound40 l ∧ Kd.C k40 wr A l.length l ∧ Below w3.heap.size w3 wr) (fun _ v14 _ => L.length - (intOf v14).toNat)
  case atStart => exact ⟨0, [], none, 0, Nat.zero_le _, rfl, rfl, Nat.le_refl _, good_nil, ⟨rfl, by decide, fun h => absurd h (by simp)⟩, Below.refl _ _⟩
  case round =>
    obtain ⟨i, l, A, c, hi, rfl, rfl, hll, hgood, hC, hbr⟩ := hrel
    by_cases hlt : i < L.length
    · have e3 : decide (i < L.length) = true := decide_eq_true hlt
      have hrr : Kd.C k40 wr A3 L.length L := Kd.C_below hC3.out hbr
      obtain ⟨ad, rfl, d0, d1, d2, d3⟩ := at_T40 hrr i (by omega) (by omega)
      rw [Int.toNat_natCast] at d0 d1 d2 d3
      generalize rd_T40 L i = a at d0 d1 d2 d3
      obtain ⟨n, o, ti, g1⟩ := a
      have hbq : Below wr.heap.size wr (wr.alloc (Obj.cells #[Value.string n, Value.string o, Value.int IntKind.i64 ti, Value.bool g1] 40)) := (Below.refl _ _).alloc (Nat.le_refl _) _
      have hbq' := hbr.trans (hbq.mono hbr.size)
      have ca := Lib.hid (add_ok A c l ⟨n, o, ti, g1⟩ _ (hT3.below hbq' hT3.six) (Kd.C_below hC hbq))
      replace hgood := Lib.hid hgood
      clear hrr
      go_wp2_with fail
      refine ca.out.mono ?_
      rintro e w4 ⟨⟨v, r, hadd, rfl, hv⟩, hb4⟩
      have hb4' := hbq'.trans (hb4.mono hbq'.size)
      have hC4 := Kd.C_below (Kd.C_below hC hbq) hb4
      clear ca
      by_cases hr0 : r = 0
      · subst hr0
        have hR4 : Kd.R k40 40 w4 (wr.alloc (Obj.cells #[Value.string n, Value.string o, Value.int IntKind.i64 ti, Value.bool g1] 40)).heap.size (fun _ => True) v (l ++ [⟨n, o, ti, g1⟩]) := by
          rcases hv with ⟨h, _⟩ | ⟨_, h⟩
          · exact absurd rfl h
          · exact h
        obtain ⟨A5, c5, rfl, hc5, hC5⟩ := Kd.R_reads hR4
        have hg5 := Lib.hid (add_good hgood.out hadd)
        clear hv hadd hR4 hC hC4 hbq
        have hl5 : (l ++ [(⟨n, o, ti, g1⟩ : S40)]).length ≤ i + 1 := by rw [List.length_append, List.length_singleton]; omega
        generalize l ++ [(⟨n, o, ti, g1⟩ : S40)] = l5 at hc5 hC5 hg5 hl5 ⊢
        go_wp2_with fail
        go_roundw
        case rel => exact ⟨i + 1, l5, A5, c5, by omega, by go_num, rfl, hl5, hg5.out, hC5, hb4'⟩
        case measure => simp [intOf]; omega
      · have e5 : (r == 0) = false := beq_eq_false_iff_ne.mpr hr0
        have hv' : v = .slice none 0 0 := by
          rcases hv with ⟨_, h⟩ | ⟨h, _⟩
          · exact h
          · exact absurd h hr0
        subst hv'
        clear hv hadd hC hbq
        go_wp2_with fail
        go_roundw
        case rel => exact ⟨i + 1, l, A, c, by omega, by go_num, rfl, by omega, hgood.out, hC4, hb4'⟩
        case measure => simp [intOf]; omega
    · have e3 : decide (i < L.length) = false := decide_eq_false hlt
      replace hgood := Lib.hid hgood
      go_wp2_with fail
      go_ret
      exact ⟨A, c, l, rfl, hgood.out, hC, hd3.below hbr, keep_then hkk3 (keep_of_below hbr g), by omega⟩
#print axioms grown_ok
end Go.Proofs.YtpejnnnkamodbaaDoor
/- reportescrowlaw13.awake: true. -/
namespace Go.Proofs.YtpejnnnkamodbaaDoor
open Go Go.RowKit Go.Maps Go.WideMaps Go.Proofs.YtpejnnnkamodbaaDoorW.PrintWords Go.Proofs.YtpejnnnkamodbaaDoorW.PrintLast
open PCanonEqual (S40 k40 z40)

theorem name_word (l : List UInt8) (h : Word l) (hl : l.length ≤ 256) : nameT ⟨l.toArray⟩ = true := by
  unfold nameT plainT
  rw [ByteArray.toList_eq]
  have h1 : (⟨l.toArray⟩ : ByteArray).data.toList = l := by simp
  have h2 : (⟨l.toArray⟩ : ByteArray).size = l.length := by show l.toArray.size = _; simp
  rw [h1, h2, fold_word l h]
  have h3 : l.isEmpty = false := by
    cases l with
    | nil => exact absurd rfl h.1
    | cons _ _ => rfl
  simp [h3, hl]
theorem right_words (l1 l2 : List UInt8) (t : Int) (g : Bool) (h1 : Word l1) (h2 : Word l2) (hl1 : l1.length ≤ 256) (hl2 : l2.length ≤ 256) (hne : (l1 == l2) = false) (h0 : 0 ≤ t) (hm : t ≤ 1099511627776) : rightT ⟨⟨l1.toArray⟩, ⟨l2.toArray⟩, t, g⟩ = true := by
  unfold rightT
  simp only
  rw [name_word l1 h1 hl1, name_word l2 h2 hl2, ByteArray.toList_eq, ByteArray.toList_eq]
  simp [h0, hm]
  simpa using hne
theorem add_val {l : List S40} {a : S40} {n : Int} (h : AddT l a n) (hv : validT l = true) (hr : rightT a = true) (he : earlyT l a = false) (hl : l.length < 256) (hc : ¬ Loops (presT (l ++ [a]) a.f2) a.f0 ∨ a.f3 = true) : n = 0 := by
  rcases h with ⟨h | h, _⟩ | ⟨_, _, ⟨h, _⟩ | ⟨_, ⟨h, _⟩ | ⟨_, ⟨h, h2, _⟩ | ⟨_, h⟩⟩⟩⟩
  · rw [hv] at h; cases h
  · rw [hr] at h; cases h
  · rw [he] at h; cases h
  · omega
  · rcases hc with hc | hc
    · exact absurd h hc
    · rw [hc] at h2; cases h2
  · exact h
def bobB : ByteArray := ⟨#[98, 111, 98]⟩
def robertB : ByteArray := ⟨#[114, 111, 98, 101, 114, 116]⟩
def exA : S40 := ⟨⟨#[98, 111, 98]⟩, ⟨#[114, 111, 98, 101, 114, 116]⟩, 3, false⟩
def exB : S40 := ⟨⟨#[98, 111, 98]⟩, ⟨#[120]⟩, 9, true⟩
theorem exA_right : rightT exA = true := right_words [98, 111, 98] [114, 111, 98, 101, 114, 116] 3 false ⟨by decide, by decide⟩ ⟨by decide, by decide⟩ (by decide) (by decide) (by decide) (by decide) (by decide)
theorem exB_right : rightT exB = true := right_words [98, 111, 98] [120] 9 true ⟨by decide, by decide⟩ ⟨by decide, by decide⟩ (by decide) (by decide) (by decide) (by decide) (by decide)
theorem ne_rb : robertB ≠ bobB := by decide
theorem exA_leads (t : Int) (h : 3 ≤ t) : Leads (presT [exA] t) bobB robertB := by
  have e : ∀ s, presT [exA] t s = if s = bobB then some exA else none := fun s => by
    show layA t (fun _ => none) exA s = _
    unfold layA
    rw [if_neg (show ¬ exA.f2 > t by show ¬ (3 : Int) > t; omega)]
    rfl
  refine .step (a := exA) (by rw [e, if_pos rfl]) (.done ?_)
  rw [e, if_neg]
  exact ne_rb
theorem ex_add1 {n : Int} (h : AddT [] exA n) : n = 0 := add_val h rfl exA_right rfl (by decide) (Or.inl fun h => h ⟨_, exA_leads 3 (by decide)⟩)
theorem ex_valid1 : validT [exA] = true := valid_add (l := []) rfl exA_right rfl (by decide)
theorem ex_add2 {n : Int} (h : AddT [exA] exB n) : n = 0 := add_val h ex_valid1 exB_right rfl (by decide) (Or.inr rfl)
theorem ex_good1 : Sound40 [exA] := add_good (l := []) good_nil (Or.inr ⟨rfl, exA_right, Or.inr ⟨rfl, Or.inr ⟨by decide, Or.inr ⟨Or.inl fun h => h ⟨_, exA_leads 3 (by decide)⟩, rfl⟩⟩⟩⟩)
theorem ex_good2 : Sound40 [exA, exB] := add_good (l := [exA]) ex_good1 (Or.inr ⟨ex_valid1, exB_right, Or.inr ⟨rfl, Or.inr ⟨by decide, Or.inr ⟨Or.inr rfl, rfl⟩⟩⟩⟩)
theorem ex_f5 {r : ByteArray} {e : Int} (h : FollowT [exA, exB] bobB 5 r e) : e = 0 ∧ r = robertB := by
  obtain ⟨h1, h2⟩ := follow_good ex_good2 h
  refine ⟨h1, leads_det h2 ?_⟩
  have e5 : presT [exA, exB] 5 = presT [exA] 5 := by
    rw [show [exA, exB] = [exA] ++ [exB] from rfl, presT_add]
    unfold layA
    rw [if_pos (show exB.f2 > 5 by decide)]
  rw [e5]
  exact exA_leads 5 (by decide)
theorem ex_f9 {r : ByteArray} {e : Int} (h : FollowT [exA, exB] bobB 9 r e) : e = 0 ∧ r = bobB := by
  obtain ⟨h1, h2⟩ := follow_good ex_good2 h
  refine ⟨h1, leads_det h2 (.done ?_)⟩
  rw [show [exA, exB] = [exA] ++ [exB] from rfl, presT_add]
  unfold layA
  rw [if_neg (show ¬ exB.f2 > 9 by decide)]
  rfl
set_option maxHeartbeats 4000000 in
set_option maxRecDepth 100000 in
theorem awake13_ok (w : World) (hT : Tabs w) : Calls Tryd.prog 26 #[] w fun e w' => e = .returned (.bool true) ∧ Below w.heap.size w w' := by
  have c1 := Lib.hid (add_ok none 0 [] exA w hT ⟨rfl, by decide, fun h => absurd h (by simp)⟩)
  go_enter Tryd.func26, Tryd.ntmps26
  go_wp2_with fail
  refine c1.out.mono ?_
  rintro e w1 ⟨⟨v1, n1, hadd1, rfl, hv1⟩, hb1⟩
  obtain rfl := ex_add1 hadd1
  have hR1 : Kd.R k40 40 w1 w.heap.size (fun _ => True) v1 ([] ++ [exA]) := by
    rcases hv1 with ⟨h, _⟩ | ⟨_, h⟩
    · exact absurd rfl h
    · exact h
  obtain ⟨A1, k1, rfl, hk1, hC1⟩ := Kd.R_reads hR1
  clear hv1 hadd1 hR1 hk1 c1
  have c2 := Lib.hid (add_ok A1 k1 [exA] exB w1 (hT.below hb1 hT.six) hC1)
  replace hC1 := Lib.hid hC1
  go_wp2_with fail
  refine c2.out.mono ?_
  rintro e w2 ⟨⟨v2, n2, hadd2, rfl, hv2⟩, hb2⟩
  obtain rfl := ex_add2 hadd2
  have hb2' := hb1.trans (hb2.mono hb1.size)
  have hR2 : Kd.R k40 40 w2 w1.heap.size (fun _ => True) v2 ([exA] ++ [exB]) := by
    rcases hv2 with ⟨h, _⟩ | ⟨_, h⟩
    · exact absurd rfl h
    · exact h
  obtain ⟨A2, k2, rfl, hk2, hC2⟩ := Kd.R_reads hR2
  clear hv2 hadd2 hR2 hk2 c2 hC1
  have c3 := Lib.hid (followAll_ok A2 k2 [exA, exB] bobB 5 w2 (hT.below hb2' hT.six) hC2 (by decide))
  have c4 := Lib.hid (fun w3 (hb : Below w2.heap.size w2 w3) => followAll_ok A2 k2 [exA, exB] bobB 9 w3 (hT.below (hb2'.trans (hb.mono hb2'.size)) hT.six) (Kd.C_below hC2 hb) (by decide))
  replace hC2 := Lib.hid hC2
  go_wp2_with fail
  refine c3.out.mono ?_
  rintro e w3 ⟨⟨r3, n3, hf3, rfl⟩, hb3⟩
  obtain ⟨rfl, rfl⟩ := ex_f5 hf3
  clear hf3 c3
  go_wp2_with fail
  refine (c4.out w3 hb3).mono ?_
  rintro e w4 ⟨⟨r4, n4, hf4, rfl⟩, hb4⟩
  obtain ⟨rfl, rfl⟩ := ex_f9 hf4
  clear hf4 c4
  have tr : (robertB.toList = [114, 111, 98, 101, 114, 116]) = True := by rw [ByteArray.toList_eq]; exact eq_true rfl
  have tr2 : (robertB.toList == [114, 111, 98, 101, 114, 116]) = true := by rw [ByteArray.toList_eq]; rfl
  have tb : (bobB.toList == [98, 111, 98]) = true := by rw [ByteArray.toList_eq]; rfl
  have hb4' := hb2'.trans ((hb3.trans (hb4.mono hb3.size)).mono hb2'.size)
  go_wp2_with fail
  go_ret
  exact ⟨rfl, hb4'⟩
#print axioms awake13_ok
end Go.Proofs.YtpejnnnkamodbaaDoor
/- A list of aliases that is read stays what it is while the dice are rolled. -/
namespace Go.Proofs.YtpejnnnkamodbaaDoor
open Go Go.RowKit Go.Proofs.YtpejnnnkamodbaaDoorW.PrintWords
open PCanonEqual (S40 k40 z40 rd_T40 at_T40 k40_open k40_mk)
theorem addr_block' (a : Addr) (j : Nat) : (a.add j).block = a.block := by unfold Addr.add; split <;> rfl
theorem C_ne_dice {w0 w : World} {g : Nat} {ad : Addr} {l : List S40} (hd : DiceOk w0 w g) (h : Kd.C k40 w (some ad) l.length l) (hl : 0 < l.length) : ad.block ≠ g := by
  obtain ⟨ad', e, d0, _⟩ := at_T40 h 0 (by decide) (by omega)
  cases e
  obtain ⟨li, at', _, _, ⟨A0, c0, hb, _⟩, _⟩ := hd
  intro hg
  have e2 : (ad.add ((0 : Int).toNat * 4)).block = g := by rw [addr_block']; exact hg
  generalize ad.add ((0 : Int).toNat * 4) = p at d0 e2
  unfold World.cell? at d0
  rw [e2, hb] at d0
  simp only at d0
  rcases hp : p.off with _ | _ | k <;> rw [hp] at d0 <;> simp at d0
theorem C_keep {w0 w w' : World} {g : Nat} {A : Option Addr} {l : List S40} (hd : DiceOk w0 w g) (h : Kd.C k40 w A l.length l) (hk : KeepBut w w' g none) : Kd.C k40 w' A l.length l := by
  refine ⟨rfl, h.2.1, fun hl => ?_⟩
  obtain ⟨ad, rfl, hc⟩ := h.2.2 hl
  refine ⟨ad, rfl, fun j p hj => ?_⟩
  obtain ⟨c, h1, h2, h3⟩ := hc j p hj
  refine ⟨c, h1, by rw [k40_open h2]; exact k40_mk w' p, fun i u hi => keep_cell hk (h3 i u hi) (by rw [addr_block']; exact C_ne_dice hd h hl)⟩
end Go.Proofs.YtpejnnnkamodbaaDoor
