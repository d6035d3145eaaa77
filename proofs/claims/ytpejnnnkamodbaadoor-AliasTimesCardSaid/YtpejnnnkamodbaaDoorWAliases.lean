/- The kit's Aliases: some list of aliases. -/
import Derived.Test.YtpejnnnkamodbaaDoorWAdd
namespace Go.Proofs.YtpejnnnkamodbaaDoor
open Go Go.RowKit Go.Maps Go.WideMaps Go.Proofs.YtpejnnnkamodbaaDoorW.PrintWords Go.Proofs.YtpejnnnkamodbaaDoorW.PrintLast
open PCanonEqual (S40 k40 z40 rd_T40 at_T40 k40_open k40_mk k40_openM k40_mkM)

def cells40 (a : S40) : List Value := [.string a.f0, .string a.f1, .int .i64 a.f2, .bool a.f3]
theorem flat_len (l : List S40) : (l.flatMap cells40).length = l.length * 4 := by
  induction l with
  | nil => rfl
  | cons x l ih => rw [List.flatMap_cons, List.length_append, ih, List.length_cons]; simp [cells40]; omega
theorem reps_flat {w : World} {base : Nat} {ok : Nat → Prop} : ∀ (l : List S40), Reps (k40.M w base ok) 4 l (l.flatMap cells40)
  | [] => Reps.none _ _
  | x :: l => by
    have h := reps_flat (w := w) (base := base) (ok := ok) l
    refine ⟨flat_len (x :: l), fun j p hj => ?_⟩
    rcases j with _ | j
    · simp only [List.getElem?_cons_zero, Option.some.injEq] at hj
      subst hj
      exact k40_mkM w base ok x
    · simp only [List.getElem?_cons_succ] at hj
      have := h.2 j p hj
      rw [List.flatMap_cons]
      have e : (cells40 x ++ l.flatMap cells40).drop ((j + 1) * 4) = (l.flatMap cells40).drop (j * 4) := by
        rw [show (j + 1) * 4 = (cells40 x).length + j * 4 from by simp [cells40]; omega, List.drop_append]
        simp
      rw [e]
      exact this
theorem flat_of_reps {w : World} {base : Nat} {ok : Nat → Prop} : ∀ (l : List S40) (cs : List Value), Reps (k40.M w base ok) 4 l cs → cs = l.flatMap cells40
  | [], cs, h => by
    have := h.1
    simpa using this
  | x :: l, cs, h => by
    have h1 := h.2 0 x rfl
    rw [Nat.zero_mul, List.drop_zero] at h1
    have e1 := k40_openM h1
    have h2 := flat_of_reps l (cs.drop 4) ⟨by rw [List.length_drop, h.1, List.length_cons]; omega, fun j p hj => by
      have := h.2 (j + 1) p (by simpa using hj)
      rwa [show (j + 1) * 4 = 4 + j * 4 from by omega, ← List.drop_drop] at this⟩
    rw [List.flatMap_cons, ← h2]
    have h3 := List.take_append_drop 4 cs
    rw [e1] at h3
    exact h3.symm
theorem R_own40 {w : World} {base : Nat} {ok : Nat → Prop} {v : Value} {l : List S40} (h : Kd.R k40 40 w base ok v l) : (∀ k, v.ownBlock = some k → ok k) ∧ w.ownsRow base 40 4 v l.length (l.flatMap cells40) := by
  obtain ⟨h0, inner, ho, hr⟩ := h
  obtain rfl := flat_of_reps l inner hr
  exact ⟨h0, ho⟩
theorem own40_R {w : World} {base : Nat} {ok : Nat → Prop} {v : Value} {l : List S40} (h0 : ∀ k, v.ownBlock = some k → ok k) (h : w.ownsRow base 40 4 v l.length (l.flatMap cells40)) : Kd.R k40 40 w base ok v l :=
  ⟨h0, _, h, reps_flat l⟩
/-- A store into a row of the call's own. -/
theorem own_put {w : World} {base : Nat} {e : TypeId} {size n b cap : Nat} {xs : List Value} (h : w.ownsRow base e size (.slice (some ⟨b, 0, none⟩) n cap) n xs) (i : Nat) (u : Value) :
    (w.setCell ⟨b, i, none⟩ u).ownsRow base e size (.slice (some ⟨b, 0, none⟩) n cap) n (xs.set i u) := by
  obtain ⟨h1, h2⟩ := h
  refine ⟨by rw [List.length_set]; exact h1, .inr ?_⟩
  rcases h2 with ⟨hv, _⟩ | ⟨g, cap', cur, hv, hg, hb, hc, hm, hz, ht⟩
  · cases hv
  · cases hv
    refine ⟨b, cap, cur.setIfInBounds i u, rfl, hg, blk_set hb i u, hc, hm, by rw [Array.size_setIfInBounds]; exact hz, ?_⟩
    rw [Array.toList_setIfInBounds, List.take_set, ht]
theorem flat_set1 (l : List S40) (a : S40) (u : ByteArray) : ((l ++ [a]).flatMap cells40).set (l.length * 4 + 1) (.string u) = (l ++ [{ a with f1 := u }]).flatMap cells40 := by
  rw [List.flatMap_append, List.flatMap_append, List.set_append_right _ _ (by rw [flat_len]; omega), flat_len]
  simp [cells40]
theorem flat_set2 (l : List S40) (a : S40) (u : Int) : ((l ++ [a]).flatMap cells40).set (l.length * 4 + 2) (.int .i64 u) = (l ++ [{ a with f2 := u }]).flatMap cells40 := by
  rw [List.flatMap_append, List.flatMap_append, List.set_append_right _ _ (by rw [flat_len]; omega), flat_len]
  simp [cells40]
/-- A slice of strings out of a block that holds them all. -/
theorem C_strs {w : World} {b : Nat} {ss : List ByteArray} (h : w.heap[b]? = some (.cells (ss.map Value.string).toArray 9 (0, 0))) (hl : ss.length ≤ 1000) : Kd.C Kd.string w (some ⟨b, 0, none⟩) ss.length ss := by
  refine ⟨rfl, by omega, fun _ => ⟨_, rfl, fun j p hj => ⟨[.string p], rfl, rfl, fun i u hi => ?_⟩⟩⟩
  rcases i with _ | i
  · simp only [List.getElem?_cons_zero, Option.some.injEq] at hi
    subst hi
    have e : (⟨b, 0, none⟩ : Addr).add (j * Kd.string.sz + 0) = ⟨b, j, none⟩ := by
      show (⟨b, 0, none⟩ : Addr).add (j * 1 + 0) = _
      simp [Addr.add]; omega
    rw [e, cell_row h]
    simp [hj]
  · simp at hi
theorem keep_then {a b c : World} {g : Nat} (h : KeepBut a b g none) (k : KeepBut b c g none) : KeepBut a c g none :=
  ⟨Nat.le_trans h.1 k.1, fun i hi hg hr => (k.2 i (Nat.lt_of_lt_of_le hi h.1) hg hr).trans (h.2 i hi hg hr)⟩
theorem keep_of_below {a b : World} (h : Below a.heap.size a b) (g : Nat) : KeepBut a b g none := ⟨h.size, fun i hi _ _ => h.block i hi⟩
theorem own_last {w : World} {base : Nat} {ok : Nat → Prop} {v : Value} {l : List S40} {a : S40} (h : Kd.R k40 40 w base ok v (l ++ [a])) :
    ∃ b cap cur, v = .slice (some ⟨b, 0, none⟩) (l.length + 1) cap ∧ ok b ∧ base ≤ b ∧ w.heap[b]? = some (.cells cur 40 (0, 0)) ∧ ∀ j u, (cells40 a)[j]? = some u → w.cell? ⟨b, l.length * 4 + j, none⟩ = some u := by
  obtain ⟨h0, h1, h2⟩ := R_own40 h
  rw [List.length_append, List.length_singleton] at h2
  rcases h2 with ⟨_, hv⟩ | ⟨g, cap, cur, rfl, hg, hb, hc, hm, hz, ht⟩
  · omega
  · refine ⟨g, cap, cur, rfl, h0 g rfl, hg, hb, fun j u hj => ?_⟩
    have hj4 : j < 4 := by have := (List.getElem?_eq_some_iff.1 hj).1; simpa [cells40] using this
    rw [cell_row hb, ← Array.getElem?_toList]
    have e : cur.toList[l.length * 4 + j]? = (cur.toList.take ((l.length + 1) * 4))[l.length * 4 + j]? := by rw [List.getElem?_take, if_pos (by omega)]
    rw [e, ht, List.flatMap_append, List.getElem?_append_right (by rw [flat_len]; omega), flat_len]
    simpa using hj
theorem dice_set {w0 w : World} {g b j : Nat} (h : DiceOk w0 w g) (hne : b ≠ g) (hb : w0.heap.size ≤ b) (u : Value) : DiceOk w0 (w.setCell ⟨b, j, none⟩ u) g := by
  obtain ⟨l, at', h1, h2, h3, h4⟩ := h
  exact ⟨l, at', h1, h2, h3.far (p := ⟨b, j, none⟩) (fun e => hne e.symm) u, h4.setCell hb u⟩
theorem put1 {w : World} {base b cap : Nat} {ok : Nat → Prop} {l : List S40} {a : S40} (h : Kd.R k40 40 w base ok (.slice (some ⟨b, 0, none⟩) (l.length + 1) cap) (l ++ [a])) (u : ByteArray) :
    Kd.R k40 40 (w.setCell ⟨b, l.length * 4 + 1, none⟩ (.string u)) base ok (.slice (some ⟨b, 0, none⟩) (l.length + 1) cap) (l ++ [{ a with f1 := u }]) := by
  obtain ⟨h0, h1⟩ := R_own40 h
  refine own40_R h0 ?_
  rw [← flat_set1]
  have e : (l ++ [{ a with f1 := u }]).length = (l ++ [a]).length := by simp
  rw [e]
  rw [List.length_append, List.length_singleton] at h1 ⊢
  exact own_put h1 _ _
theorem put2 {w : World} {base b cap : Nat} {ok : Nat → Prop} {l : List S40} {a : S40} (h : Kd.R k40 40 w base ok (.slice (some ⟨b, 0, none⟩) (l.length + 1) cap) (l ++ [a])) (u : Int) :
    Kd.R k40 40 (w.setCell ⟨b, l.length * 4 + 2, none⟩ (.int .i64 u)) base ok (.slice (some ⟨b, 0, none⟩) (l.length + 1) cap) (l ++ [{ a with f2 := u }]) := by
  obtain ⟨h0, h1⟩ := R_own40 h
  refine own40_R h0 ?_
  rw [← flat_set2]
  have e : (l ++ [{ a with f2 := u }]).length = (l ++ [a]).length := by simp
  rw [e]
  rw [List.length_append, List.length_singleton] at h1 ⊢
  exact own_put h1 _ _
theorem last_cell {w : World} {base b cap : Nat} {ok : Nat → Prop} {l : List S40} {a : S40} (h : Kd.R k40 40 w base ok (.slice (some ⟨b, 0, none⟩) (l.length + 1) cap) (l ++ [a])) :
    w.cell? ⟨b, l.length * 4, none⟩ = some (.string a.f0) ∧ w.cell? ⟨b, l.length * 4 + 1, none⟩ = some (.string a.f1) ∧ w.cell? ⟨b, l.length * 4 + 2, none⟩ = some (.int .i64 a.f2) ∧ ∀ j, w.frozen? ⟨b, j, none⟩ = false := by
  obtain ⟨b', cap', cur, hv, _, _, hb, hc⟩ := own_last h
  cases hv
  exact ⟨hc 0 _ rfl, hc 1 _ rfl, hc 2 _ rfl, fun j => blk_frozen hb j⟩
theorem word_new (w0 : World) (g : Nat) (w : World) (ss : List ByteArray) (h : DiceOk w0 w g) (hn : 1 ≤ ss.length) (hn2 : ss.length ≤ 1000) :
    Calls Tryd.prog 30 #[.pointer (some ⟨g, 0, none⟩), .slice (some ⟨w.heap.size, 0, none⟩) ss.length ss.length] (w.alloc (.cells (ss.map Value.string).toArray 9)) fun e w' => ∃ s ∈ ss, e = .returned (.string s) ∧ DiceOk w0 w' g ∧ KeepBut w w' g none := by
  have hb : Below w.heap.size w (w.alloc (.cells (ss.map Value.string).toArray 9)) := (Below.refl _ _).alloc (Nat.le_refl _) _
  refine (word_any w0 g _ ss.length ss _ (h.below hb) (C_strs (heap_alloc_new w _) hn2) (Nat.le_refl _) (fun ad e => ?_) hn hn2).mono ?_
  · cases e
    have := h.lt
    simp only
    omega
  · rintro e w' ⟨s, hs, he, hd, hk⟩
    exact ⟨s, hs, he, hd, keep_then (keep_of_below hb g) hk⟩
set_option maxHeartbeats 4000000 in
set_option maxRecDepth 100000 in
set_option linter.unusedSimpArgs false in
theorem aliases_ok (w0 : World) (g : Nat) (w : World) (hd : DiceOk w0 w g) :
    Calls Tryd.prog 52 #[.pointer (some ⟨g, 0, none⟩)] w fun e w' => ∃ v l, e = .returned v ∧ Kd.R k40 40 w' w.heap.size (fun k => k ≠ g) v l ∧ l.length ≤ 5 ∧ DiceOk w0 w' g ∧ KeepBut w w' g none := by
  have hgw := hd.lt
  go_enter Tryd.func52, Tryd.ntmps52
  go_wp2_with fail
  refine (next_any w0 g 6 w hd (by decide) (by decide)).mono ?_
  rintro e w1 ⟨K, hK, rfl, hd1, hk1⟩
  go_wp2_with fail
  go_loopw [3, 4, 8] (fun v3 v4 v8 wr => ∃ (i : Nat) (tm : Int) (l : List S40), (i : Int) ≤ K ∧ v8 = .int .i64 i ∧ v4 = .int .i64 tm ∧ l.length ≤ i ∧ Kd.R k40 40 wr w.heap.size (fun k => k ≠ g) v3 l ∧ DiceOk w0 wr g ∧ KeepBut w wr g none) (fun _ _ v8 _ => K - (intOf v8).toNat)
  case atStart => exact ⟨0, 0, [], by omega, rfl, rfl, Nat.le_refl _, Kd.R_nil _ _ _ _ _, hd1, hk1⟩
  case round =>
    obtain ⟨i, tm, l, hi, rfl, rfl, hl, hR, hdr, hkr⟩ := hrel
    by_cases hlt : (i : Int) < K
    · have e0 : decide (i < K) = true := decide_eq_true (by omega)
      have hi6 : (i : Int) < 6 := by omega
      replace hlt := Lib.hid hlt
      go_wp2_with fail
      refine (next_any w0 g 3 wr hdr (by decide) (by decide)).mono ?_
      rintro e w2 ⟨k2, hk2', rfl, hd2, hk2⟩
      have hR2 := Kd.R_keep hR hk2 (fun k hk => hk)
      have hkk2 := keep_then hkr hk2
      clear hR hdr hkr hk2' hk2
      go_wp2_with fail
      refine (word_new w0 g w2 [⟨#[98, 111, 98]⟩, ⟨#[114, 111, 98]⟩, ⟨#[114, 111, 98, 101, 114, 116]⟩, ⟨#[97, 110, 110]⟩, ⟨#[106, 111, 115, 101, 102]⟩, ⟨#[120]⟩] hd2 (by decide) (by decide)).mono ?_
      rintro e w3 ⟨s1, hs1, rfl, hd3, hk3⟩
      have hR3 := Kd.R_keep hR2 hk3 (fun k hk => hk)
      have hkk3 := keep_then hkk2 hk3
      clear hR2 hd2 hkk2 hk3 hs1
      go_wp2_with fail
      refine (word_new w0 g w3 [⟨#[114, 111, 98, 101, 114, 116]⟩, ⟨#[97, 110, 110, 97]⟩, ⟨#[98, 111, 98]⟩, ⟨#[106, 111, 115, 101, 102]⟩, ⟨#[121]⟩, ⟨#[97, 110, 110]⟩] hd3 (by decide) (by decide)).mono ?_
      rintro e w4 ⟨s2, hs2, rfl, hd4, hk4⟩
      have hR4 := Kd.R_keep hR3 hk4 (fun k hk => hk)
      have hkk4 := keep_then hkk3 hk4
      clear hR3 hd3 hkk3 hk4 hs2
      go_wp2_with fail
      refine (next_any w0 g 5 w4 hd4 (by decide) (by decide)).mono ?_
      rintro e w5 ⟨k5, hk5', rfl, hd5, hk5⟩
      have hR5 := Kd.R_keep hR4 hk5 (fun k hk => hk)
      have hkk5 := keep_then hkk4 hk5
      clear hR4 hd4 hkk4 hk5 hk5'
      have hgw5 : ∀ k, w5.heap.size ≤ k → k ≠ g := fun k hk => by have := hkk5.1; omega
      generalize ht2 : wrap64 (tm + k2) = t2
      go_wp2_with (at_builtin; refine Kd.R_append k40 w.heap.size rfl _ _ 36 40 _ 48 rfl Tryd.underlying36 info40 rfl (by decide) (by decide) u3 l ⟨s1, s2, t2, _⟩ _ (fun k => k ≠ g) (fun _ => False) (by rfl) (by rfl) (k40_mkM _ _ _ _) (fun k h => h.elim) hgw5 hR5 (Below.refl _ _) hkk5.1 (by omega) ?_; intro v6 w6 hR6 hb6 hg6 hat6; obtain ⟨b, cap, cur, rfl, hbg, hbb, -, -⟩ := own_last hR6)
      have hkk6 : KeepBut w w6 g none := ⟨Nat.le_trans hkk5.1 hg6.size, fun k hk hkg hr => (hg6.block k (Nat.lt_of_lt_of_le hk hkk5.1) (fun e => by
        have h1 := own_base (R_own40 hR5).2 k e.symm
        omega)).trans (hkk5.2 k hk hkg hr)⟩
      have hd6 : DiceOk w0 w6 g := hd5.grown hg6 (fun e => (R_own40 hR5).1 g e.symm rfl) (fun k hk => by
        have h1 := own_base (R_own40 hR5).2 k hk
        have h2 := hd.low.size
        omega)
      have hb0 : w0.heap.size ≤ b := Nat.le_trans hd.low.size hbb
      clear hat6 hg6 hb6 hR5 hd5 hkk5 ht2 hgw5
      generalize ((k5 : Int) == 1) = gone at hR6 ⊢
      obtain ⟨q0, q1, -, qf⟩ := last_cell hR6
      by_cases heq : s1.toList = s2.toList
      case' pos =>
        have hRX := put1 hR6 ⟨#[111, 116, 104, 101, 114]⟩
        have hdX := dice_set (j := l.length * 4 + 1) hd6 hbg hb0 (.string ⟨#[111, 116, 104, 101, 114]⟩)
        have hkX := keep_far (p := ⟨b, l.length * 4 + 1, none⟩) hkk6 hbb (.string ⟨#[111, 116, 104, 101, 114]⟩)
        refine start_ (n := 9) (S := fun w' => w'.cell? ⟨b, l.length * 4, none⟩ = some (.string s1) ∧ w'.cell? ⟨b, l.length * 4 + 1, none⟩ = some (.string s2)) (ds := []) #[false, false, false, false, false, false, false, false, false] (by kernel_rfl) rfl rfl ⟨q0, q1⟩ (fun hHeld => ?_)
        refine pure_ (i := 0) (N := some 33) (v := ?_) (a' := ?_) #[true, false, false, false, false, false, false, false, false] rfl rfl (by kernel_rfl) (fun _ _ _ h => h) (Or.inl ⟨by rfl, ?_⟩) ?_ ?_
        rotate_left
        · intro w'
          go_simp
          with_reducible rfl
        rotate_left
        · simp only [Act.put, List.setIfInBounds_toArray, List.set_cons_zero, List.set_cons_succ, i64_w, i32_w]
          rfl
        refine pure_ (i := 1) (N := some 34) (v := ?_) (a' := ?_) #[true, true, false, false, false, false, false, false, false] rfl rfl (by kernel_rfl) (fun _ _ _ h => h) (Or.inl ⟨by rfl, ?_⟩) ?_ ?_
        rotate_left
        · intro w'
          go_simp
          with_reducible rfl
        rotate_left
        · simp only [Act.put, List.setIfInBounds_toArray, List.set_cons_zero, List.set_cons_succ, i64_w, i32_w]
          rfl
        refine pure_ (i := 2) (N := some 35) (v := ?_) (a' := ?_) #[true, true, true, false, false, false, false, false, false] rfl rfl (by kernel_rfl) (fun _ _ _ h => h) (Or.inl ⟨by rfl, ?_⟩) ?_ ?_
        rotate_left
        · intro w'
          go_simp
          with_reducible rfl
        rotate_left
        · simp only [Act.put, List.setIfInBounds_toArray, List.set_cons_zero, List.set_cons_succ, i64_w, i32_w]
          rfl
        refine pure_ (i := 4) (N := some 37) (v := ?_) (a' := ?_) #[true, true, true, false, true, false, false, false, false] rfl rfl (by kernel_rfl) (fun _ _ _ h => h) (Or.inl ⟨by rfl, ?_⟩) ?_ ?_
        rotate_left
        · intro w'
          go_simp
          with_reducible rfl
        rotate_left
        · simp only [Act.put, List.setIfInBounds_toArray, List.set_cons_zero, List.set_cons_succ, i64_w, i32_w]
          rfl
        refine pure_ (i := 5) (N := some 38) (v := ?_) (a' := ?_) #[true, true, true, false, true, true, false, false, false] rfl rfl (by kernel_rfl) (fun _ _ _ h => h) (Or.inl ⟨by rfl, ?_⟩) ?_ ?_
        rotate_left
        · intro w'
          go_simp
          with_reducible rfl
        rotate_left
        · simp only [Act.put, List.setIfInBounds_toArray, List.set_cons_zero, List.set_cons_succ, i64_w, i32_w]
          rfl
        refine pure_ (i := 6) (N := some 39) (v := ?_) (a' := ?_) #[true, true, true, false, true, true, true, false, false] rfl rfl (by kernel_rfl) (fun _ _ _ h => h) (Or.inl ⟨by rfl, ?_⟩) ?_ ?_
        rotate_left
        · intro w'
          go_simp
          with_reducible rfl
        rotate_left
        · simp only [Act.put, List.setIfInBounds_toArray, List.set_cons_zero, List.set_cons_succ, i64_w, i32_w]
          rfl
        refine take_ (i := 3) (N := some 36) (v := ?_) (a' := ?_) #[true, true, true, true, true, true, true, false, false] rfl rfl (by kernel_rfl) (fun _ _ _ h => h) (Or.inl ⟨by rfl, ?_⟩) hHeld ?_ ?_
        rotate_left
        · rintro w' ⟨s0, s1⟩
          go_simp
          with_reducible rfl
        rotate_left
        · simp only [Act.put, List.setIfInBounds_toArray, List.set_cons_zero, List.set_cons_succ, i64_w, i32_w]
          rfl
        refine take_ (i := 7) (N := some 40) (v := ?_) (a' := ?_) #[true, true, true, true, true, true, true, true, false] rfl rfl (by kernel_rfl) (fun _ _ _ h => h) (Or.inl ⟨by rfl, ?_⟩) hHeld ?_ ?_
        rotate_left
        · rintro w' ⟨s0, s1⟩
          go_simp
          with_reducible rfl
        rotate_left
        · simp only [Act.put, List.setIfInBounds_toArray, List.set_cons_zero, List.set_cons_succ, i64_w, i32_w]
          rfl
        refine pure_ (i := 8) (N := some 41) (v := ?_) (a' := ?_) #[true, true, true, true, true, true, true, true, true] rfl rfl (by kernel_rfl) (fun _ _ _ h => h) (Or.inl ⟨by rfl, ?_⟩) ?_ ?_
        rotate_left
        · intro w'
          go_simp
          with_reducible rfl
        rotate_left
        · simp only [Act.put, List.setIfInBounds_toArray, List.set_cons_zero, List.set_cons_succ, i64_w, i32_w]
          rfl
        refine done_ (by kernel_rfl) ?_
        go_wp2_with fail
        refine (next_any w0 g 15 _ (hdX.below (Below.refl _ _).drew) (by decide) (by decide)).mono ?_
        rintro e w8 ⟨k8, hk8', rfl, hd8, hk8⟩
        have hRY := Kd.R_keep (Kd.R_below hRX (Below.refl _ _).drew) hk8 (fun k hk => hk)
        have hkk8 := keep_then (keep_then hkX (keep_of_below (Below.refl _ _).drew g)) hk8
        obtain ⟨a1, hR8⟩ : ∃ a1, Kd.R k40 40 w8 w.heap.size (fun k => k ≠ g) (Value.slice (some ⟨b, 0, none⟩) (l.length + 1) cap) (l ++ [a1]) := ⟨_, hRY⟩
        clear hRX hRY hdX hkX hk8 hk8' hHeld heq hR6 hd6 hkk6 q0 q1 qf
      case' neg =>
        have heq' : (s1.toList = s2.toList) = False := eq_false heq
        have heq2 : (s1.toList == s2.toList) = false := by simpa using heq
        refine start_ (n := 9) (S := fun w' => w'.cell? ⟨b, l.length * 4, none⟩ = some (.string s1) ∧ w'.cell? ⟨b, l.length * 4 + 1, none⟩ = some (.string s2)) (ds := []) #[false, false, false, false, false, false, false, false, false] (by kernel_rfl) rfl rfl ⟨q0, q1⟩ (fun hHeld => ?_)
        refine pure_ (i := 0) (N := some 33) (v := ?_) (a' := ?_) #[true, false, false, false, false, false, false, false, false] rfl rfl (by kernel_rfl) (fun _ _ _ h => h) (Or.inl ⟨by rfl, ?_⟩) ?_ ?_
        rotate_left
        · intro w'
          go_simp
          with_reducible rfl
        rotate_left
        · simp only [Act.put, List.setIfInBounds_toArray, List.set_cons_zero, List.set_cons_succ, i64_w, i32_w]
          rfl
        refine pure_ (i := 1) (N := some 34) (v := ?_) (a' := ?_) #[true, true, false, false, false, false, false, false, false] rfl rfl (by kernel_rfl) (fun _ _ _ h => h) (Or.inl ⟨by rfl, ?_⟩) ?_ ?_
        rotate_left
        · intro w'
          go_simp
          with_reducible rfl
        rotate_left
        · simp only [Act.put, List.setIfInBounds_toArray, List.set_cons_zero, List.set_cons_succ, i64_w, i32_w]
          rfl
        refine pure_ (i := 2) (N := some 35) (v := ?_) (a' := ?_) #[true, true, true, false, false, false, false, false, false] rfl rfl (by kernel_rfl) (fun _ _ _ h => h) (Or.inl ⟨by rfl, ?_⟩) ?_ ?_
        rotate_left
        · intro w'
          go_simp
          with_reducible rfl
        rotate_left
        · simp only [Act.put, List.setIfInBounds_toArray, List.set_cons_zero, List.set_cons_succ, i64_w, i32_w]
          rfl
        refine pure_ (i := 4) (N := some 37) (v := ?_) (a' := ?_) #[true, true, true, false, true, false, false, false, false] rfl rfl (by kernel_rfl) (fun _ _ _ h => h) (Or.inl ⟨by rfl, ?_⟩) ?_ ?_
        rotate_left
        · intro w'
          go_simp
          with_reducible rfl
        rotate_left
        · simp only [Act.put, List.setIfInBounds_toArray, List.set_cons_zero, List.set_cons_succ, i64_w, i32_w]
          rfl
        refine pure_ (i := 5) (N := some 38) (v := ?_) (a' := ?_) #[true, true, true, false, true, true, false, false, false] rfl rfl (by kernel_rfl) (fun _ _ _ h => h) (Or.inl ⟨by rfl, ?_⟩) ?_ ?_
        rotate_left
        · intro w'
          go_simp
          with_reducible rfl
        rotate_left
        · simp only [Act.put, List.setIfInBounds_toArray, List.set_cons_zero, List.set_cons_succ, i64_w, i32_w]
          rfl
        refine pure_ (i := 6) (N := some 39) (v := ?_) (a' := ?_) #[true, true, true, false, true, true, true, false, false] rfl rfl (by kernel_rfl) (fun _ _ _ h => h) (Or.inl ⟨by rfl, ?_⟩) ?_ ?_
        rotate_left
        · intro w'
          go_simp
          with_reducible rfl
        rotate_left
        · simp only [Act.put, List.setIfInBounds_toArray, List.set_cons_zero, List.set_cons_succ, i64_w, i32_w]
          rfl
        refine take_ (i := 3) (N := some 36) (v := ?_) (a' := ?_) #[true, true, true, true, true, true, true, false, false] rfl rfl (by kernel_rfl) (fun _ _ _ h => h) (Or.inl ⟨by rfl, ?_⟩) hHeld ?_ ?_
        rotate_left
        · rintro w' ⟨s0, s1⟩
          go_simp
          with_reducible rfl
        rotate_left
        · simp only [Act.put, List.setIfInBounds_toArray, List.set_cons_zero, List.set_cons_succ, i64_w, i32_w]
          rfl
        refine take_ (i := 7) (N := some 40) (v := ?_) (a' := ?_) #[true, true, true, true, true, true, true, true, false] rfl rfl (by kernel_rfl) (fun _ _ _ h => h) (Or.inl ⟨by rfl, ?_⟩) hHeld ?_ ?_
        rotate_left
        · rintro w' ⟨s0, s1⟩
          go_simp
          with_reducible rfl
        rotate_left
        · simp only [Act.put, List.setIfInBounds_toArray, List.set_cons_zero, List.set_cons_succ, i64_w, i32_w]
          rfl
        refine pure_ (i := 8) (N := some 41) (v := ?_) (a' := ?_) #[true, true, true, true, true, true, true, true, true] rfl rfl (by kernel_rfl) (fun _ _ _ h => h) (Or.inl ⟨by rfl, ?_⟩) ?_ ?_
        rotate_left
        · intro w'
          go_simp
          with_reducible rfl
        rotate_left
        · simp only [Act.put, List.setIfInBounds_toArray, List.set_cons_zero, List.set_cons_succ, i64_w, i32_w]
          rfl
        refine done_ (by kernel_rfl) ?_
        go_wp2_with fail
        refine (next_any w0 g 15 _ (hd6.below (Below.refl _ _).drew) (by decide) (by decide)).mono ?_
        rintro e w8 ⟨k8, hk8', rfl, hd8, hk8⟩
        have hRY := Kd.R_keep (Kd.R_below hR6 (Below.refl _ _).drew) hk8 (fun k hk => hk)
        have hkk8 := keep_then (keep_then hkk6 (keep_of_below (Below.refl _ _).drew g)) hk8
        obtain ⟨a1, hR8⟩ : ∃ a1, Kd.R k40 40 w8 w.heap.size (fun k => k ≠ g) (Value.slice (some ⟨b, 0, none⟩) (l.length + 1) cap) (l ++ [a1]) := ⟨_, hRY⟩
        clear hRY hk8 hk8' hHeld heq heq' heq2 hR6 hd6 hkk6 q0 q1 qf
      all_goals
        obtain ⟨q0, q1, q2, qf⟩ := last_cell hR8
        by_cases h1 : k8 = 1
        · subst h1
          have hbal : Below w8.heap.size w8 (w8.alloc (Obj.cells #[Value.int IntKind.i64 (-1), Value.int IntKind.i64 0, Value.int IntKind.i64 1099511627776, Value.int IntKind.i64 1099511627777] 3)) := (Below.refl _ _).alloc (Nat.le_refl _) _
          have hbox := heap_alloc_new w8 (Obj.cells #[Value.int IntKind.i64 (-1), Value.int IntKind.i64 0, Value.int IntKind.i64 1099511627776, Value.int IntKind.i64 1099511627777] 3)
          go_wp2_with fail
          refine (next_any w0 g 4 _ (hd8.below hbal) (by decide) (by decide)).mono ?_
          rintro e w9 ⟨k9, hk9', rfl, hd9, hk9⟩
          have hk9n : k9 < 4 := by omega
          have hbox9 := (hk9.2 w8.heap.size (by rw [World.size_alloc]; exact Nat.lt_succ_self _) (by have := hd8.lt; omega) (by simp)).trans hbox
          obtain ⟨x9, hx9⟩ : ∃ x9 : Int, w9.cell? ⟨w8.heap.size, k9, none⟩ = some (.int .i64 x9) := by
            rw [cell_row hbox9]
            rcases k9 with _ | _ | _ | _ | k9
            · exact ⟨_, rfl⟩
            · exact ⟨_, rfl⟩
            · exact ⟨_, rfl⟩
            · exact ⟨_, rfl⟩
            · omega
          have hR9 := Kd.R_keep (Kd.R_below hR8 hbal) hk9 (fun k hk => hk)
          have hkk9 := keep_then (keep_then hkk8 (keep_of_below hbal g)) hk9
          obtain ⟨p0, p1, p2, pf⟩ := last_cell hR9
          have hRX := put2 hR9 x9
          have hdX := dice_set (j := l.length * 4 + 2) hd9 hbg hb0 (.int .i64 x9)
          have hkX := keep_far (p := ⟨b, l.length * 4 + 2, none⟩) hkk9 hbb (.int .i64 x9)
          clear hR8 hkk8 q0 q1 q2 qf hbox hbox9 hbal hd8 hk9 hR9 hd9 hkk9
          go_wp2_with fail
          go_roundw
          case rel => exact ⟨i + 1, t2, l ++ [_], by have := hlt.out; omega, by go_num, rfl, by simp; omega, hRX, hdX, hkX⟩
          case measure => have := hlt.out; simp [intOf]; omega
        · by_cases h2 : k8 = 2
          · subst h2
            go_wp2_with fail
            refine (word_new w0 g w8 [⟨#[]⟩, ⟨#[66, 111, 98]⟩, ⟨#[98, 32, 32, 99]⟩, a1.f0] hd8 (by simp) (by simp)).mono ?_
            rintro e w9 ⟨s9, hs9, rfl, hd9, hk9⟩
            have hR9 := Kd.R_keep hR8 hk9 (fun k hk => hk)
            have hkk9 := keep_then hkk8 hk9
            obtain ⟨p0, p1, p2, pf⟩ := last_cell hR9
            have hRX := put1 hR9 s9
            have hdX := dice_set (j := l.length * 4 + 1) hd9 hbg hb0 (.string s9)
            have hkX := keep_far (p := ⟨b, l.length * 4 + 1, none⟩) hkk9 hbb (.string s9)
            clear hR8 hkk8 q0 q1 q2 qf hd8 hk9 hR9 hd9 hkk9 hs9
            go_wp2_with fail
            go_roundw
            case rel => exact ⟨i + 1, t2, l ++ [_], by have := hlt.out; omega, by go_num, rfl, by simp; omega, hRX, hdX, hkX⟩
            case measure => have := hlt.out; simp [intOf]; omega
          · have e1 : ((k8 : Int) == 1) = false := beq_eq_false_iff_ne.mpr (by omega)
            have e2 : ((k8 : Int) == 2) = false := beq_eq_false_iff_ne.mpr (by omega)
            clear h1 h2
            go_wp2_with fail
            go_roundw
            case rel => exact ⟨i + 1, t2, l ++ [_], by have := hlt.out; omega, by go_num, rfl, by simp; omega, hR8, hd8, hkk8⟩
            case measure => have := hlt.out; simp [intOf]; omega
    · have e0 : decide (i < K) = false := decide_eq_false (by omega)
      go_wp2_with fail
      go_ret
      exact ⟨_, rfl, l, hR, by omega, hdr, hkr⟩
#print axioms aliases_ok
end Go.Proofs.YtpejnnnkamodbaaDoor
