/- The walk of reportescrowlaw14.CanonEqual: whatever the dice, it returns true. -/
import Derived.Test.YtpejnnnkamodbaaDoorWSome
namespace Go.Proofs.YtpejnnnkamodbaaDoor
open Go Go.RowKit Go.Lib Go.Proofs.YtpejnnnkamodbaaDoorW.PrintWords Go.Proofs.YtpejnnnkamodbaaDoorW.PrintLast
open PCanonEqual (S49 k49 z49 S40 k40 z40)

theorem same_symm (rs : List S49) (l : List S40) (a b : ByteArray) (t : Int) : sameF rs l a b t = sameF rs l b a t := by
  unfold sameF
  rw [Bool.eq_iff_iff]
  simp only [Bool.and_eq_true, decide_eq_true_eq, beq_iff_eq]
  exact ⟨fun h => ⟨h.2.1, h.1, h.2.2.symm⟩, fun h => ⟨h.2.1, h.1, h.2.2.symm⟩⟩
theorem same_trans {rs : List S49} {l : List S40} {a b c : ByteArray} {t : Int} (h1 : sameF rs l a b t = true) (h2 : sameF rs l b c t = true) : sameF rs l a c t = true := by
  unfold sameF at *
  simp only [Bool.and_eq_true, decide_eq_true_eq, beq_iff_eq] at *
  exact ⟨h1.1, h2.2.1, h1.2.2.trans h2.2.2⟩
theorem same_eq {rs : List S49} {l : List S40} {a b c : ByteArray} {t : Int} (h1 : sameF rs l a b t = true) : sameF rs l b c t = sameF rs l a c t := by
  rw [Bool.eq_iff_iff]
  exact ⟨fun h => same_trans h1 h, fun h => same_trans (by rw [same_symm]; exact h1) h⟩
set_option maxHeartbeats 4000000 in
set_option maxRecDepth 100000 in
set_option linter.unusedSimpArgs false in
theorem canonEqual_walk (A : Option Addr) (c : Nat) (l : List Int) (x : Int) (w : World) (hT : Tabs w) (hr : Kd.C (Kd.int .i64) w A l.length l) (hc : l.length ≤ c) (hx0 : 0 ≤ x) (_hx1 : x ≤ 255) :
    Calls Tryd.prog 12 #[.slice A l.length c, .int .u8 x] w fun e w' => e = .returned (.bool true) ∧ Below w.heap.size w w' := by
  have cl := Lib.hid (light_any A c l w hr hc)
  obtain ⟨m, hm⟩ : ∃ m : Nat, Int.tmod x 10 = m := ⟨(Int.tmod x 10).toNat, by have := Int.tmod_nonneg 10 hx0; omega⟩
  have hm9 : m < 10 := by have := Int.tmod_lt_of_pos x (b := 10) (by decide); omega
  clear hx0 _hx1
  by_cases hl : l.length ≤ 500
  · have e0 : decide ((l.length : Int) ≤ 500) = true := decide_eq_true (by omega)
    rw [e0] at cl
    have cr := Lib.hid (fun w1 hB => roll_any A c l w w1 hB hr hc hl)
    replace hr := Lib.hid hr
    clear hl e0
    replace hc := Lib.hid hc
    go_enter Tryd.func12, Tryd.ntmps12
    go_wp2_with fail
    refine cl.out.mono ?_
    rintro e w1 ⟨rfl, ⟨n1, rfl⟩⟩
    go_wp2_with fail
    refine (cr.out _ (pw_below_drewN (Below.refl _ _) _)).mono ?_
    rintro e w2 ⟨g, rfl, hd2, hb2⟩
    go_wp2_with fail
    refine (some_ok w g w2 hd2).mono ?_
    rintro e w3 ⟨nv, rs, l2, rfl, hN3, hl2, hd3, hk3⟩
    have hN3' := hN3
    obtain ⟨A1, c1, A2, c2, rfl, -, -⟩ := hN3'.out
    clear cl cr hd2 hb2 hk3 hN3'
    have hx4 := heap_alloc_new w3 (Obj.cells #[.slice A1 rs.length c1, .slice A2 l2.length c2] 55)
    have hd4 := hd3.alloc (Obj.cells #[.slice A1 rs.length c1, .slice A2 l2.length c2] 55)
    have hN4 := hN3.below ((Below.refl w3.heap.size w3).alloc (Nat.le_refl _) (Obj.cells #[.slice A1 rs.length c1, .slice A2 l2.length c2] 55))
    have hne : w3.heap.size ≠ g := by have := hd3.lt; omega
    replace hx4 := Lib.hid hx4
    replace hN4 := Lib.hid hN4
    replace hne := Lib.hid hne
    clear hN3 hd3
    go_wp2_with fail
    refine (name_any w g _ hd4).mono ?_
    rintro e w5 ⟨a, ha, rfl, hd5, hk5⟩
    have hx5 := keep_row hk5 hx4.out hne.out
    have hN5 := hN4.out.keep hd4 hk5
    generalize hB1 : w3.heap.size = B1 at hx5 hne ⊢
    clear hx4 hN4 hd4 hk5 hB1
    replace hx5 := Lib.hid hx5
    go_wp2_with fail
    refine (name_any w g w5 hd5).mono ?_
    rintro e w6 ⟨b, hb, rfl, hd6, hk6⟩
    have hx6 := keep_row hk6 hx5.out hne.out
    have hN6 := hN5.keep hd5 hk6
    clear hx5 hN5 hd5 hk6
    replace hx6 := Lib.hid hx6
    go_wp2_with fail
    refine (name_any w g w6 hd6).mono ?_
    rintro e w7 ⟨d, hd, rfl, hd7, hk7⟩
    have hx7 := keep_row hk7 hx6.out hne.out
    have hN7 := hN6.keep hd6 hk7
    have hlow := hd7.low
    have hT7 := hT.below hlow hT.six
    clear hx6 hN6 hd6 hk7 hd7 hne ha hb hd
    have q0 : w7.cell? ⟨B1, 0, none⟩ = some (.slice A1 rs.length c1) := (cell_row hx7 0).trans rfl
    have q1 : w7.cell? ⟨B1, 1, none⟩ = some (.slice A2 l2.length c2) := (cell_row hx7 1).trans rfl
    have cs := Lib.hid (fun w' (x y : ByteArray) (hb : Below w7.heap.size w7 w') => same_fn _ rs l2 x y m w' (hT7.below hb hT7.six) (hN7.below hb))
    have t1 := @same_eq rs l2 a b d m
    have t2 := same_symm rs l2 b a m
    replace t1 := Lib.hid t1
    replace t2 := Lib.hid t2
    clear hx7 hN7
    go_wp2_with fail
    refine start_ (n := 18) (S := fun w' => w'.cell? ⟨B1, 0, none⟩ = some (.slice A1 rs.length c1) ∧ w'.cell? ⟨B1, 1, none⟩ = some (.slice A2 l2.length c2) ∧ Below w7.heap.size w7 w') (ds := []) #[false, false, false, false, false, false, false, false, false, false, false, false, false, false, false, false, false, false] (by kernel_rfl) rfl rfl ⟨q0, q1, (Below.refl _ _).drew⟩ (fun hHeld => ?_)
    refine pure_ (i := 1) (N := some 32) (v := ?_) (a' := ?_) #[false, true, false, false, false, false, false, false, false, false, false, false, false, false, false, false, false, false] rfl rfl (by kernel_rfl) (fun _ _ _ h => h) (Or.inl ⟨by rfl, ?_⟩) ?_ ?_
    rotate_left
    · intro w'
      go_simp
      with_reducible rfl
    rotate_left
    · simp only [Act.put, List.setIfInBounds_toArray, List.set_cons_zero, List.set_cons_succ, i64_w, i32_w]
      rfl
    refine pure_ (i := 2) (N := some 33) (v := ?_) (a' := ?_) #[false, true, true, false, false, false, false, false, false, false, false, false, false, false, false, false, false, false] rfl rfl (by kernel_rfl) (fun _ _ _ h => h) (Or.inl ⟨by rfl, ?_⟩) ?_ ?_
    rotate_left
    · intro w'
      go_simp
      with_reducible rfl
    rotate_left
    · simp only [Act.put, List.setIfInBounds_toArray, List.set_cons_zero, List.set_cons_succ, i64_w, i32_w]
      rfl
    refine pure_ (i := 3) (N := some 34) (v := ?_) (a' := ?_) #[false, true, true, true, false, false, false, false, false, false, false, false, false, false, false, false, false, false] rfl rfl (by kernel_rfl) (fun _ _ _ h => h) (Or.inl ⟨by rfl, ?_⟩) ?_ ?_
    rotate_left
    · intro w'
      go_simp
      with_reducible rfl
    rotate_left
    · simp only [Act.put, List.setIfInBounds_toArray, List.set_cons_zero, List.set_cons_succ, i64_w, i32_w]
      rfl
    refine pure_ (i := 6) (N := some 37) (v := ?_) (a' := ?_) #[false, true, true, true, false, false, true, false, false, false, false, false, false, false, false, false, false, false] rfl rfl (by kernel_rfl) (fun _ _ _ h => h) (Or.inl ⟨by rfl, ?_⟩) ?_ ?_
    rotate_left
    · intro w'
      go_simp
      with_reducible rfl
    rotate_left
    · simp only [Act.put, List.setIfInBounds_toArray, List.set_cons_zero, List.set_cons_succ, i64_w, i32_w]
      rfl
    refine pure_ (i := 7) (N := some 38) (v := ?_) (a' := ?_) #[false, true, true, true, false, false, true, true, false, false, false, false, false, false, false, false, false, false] rfl rfl (by kernel_rfl) (fun _ _ _ h => h) (Or.inl ⟨by rfl, ?_⟩) ?_ ?_
    rotate_left
    · intro w'
      go_simp
      with_reducible rfl
    rotate_left
    · simp only [Act.put, List.setIfInBounds_toArray, List.set_cons_zero, List.set_cons_succ, i64_w, i32_w]
      rfl
    refine pure_ (i := 8) (N := some 39) (v := ?_) (a' := ?_) #[false, true, true, true, false, false, true, true, true, false, false, false, false, false, false, false, false, false] rfl rfl (by kernel_rfl) (fun _ _ _ h => h) (Or.inl ⟨by rfl, ?_⟩) ?_ ?_
    rotate_left
    · intro w'
      go_simp
      with_reducible rfl
    rotate_left
    · simp only [Act.put, List.setIfInBounds_toArray, List.set_cons_zero, List.set_cons_succ, i64_w, i32_w]
      rfl
    refine pure_ (i := 11) (N := some 42) (v := ?_) (a' := ?_) #[false, true, true, true, false, false, true, true, true, false, false, true, false, false, false, false, false, false] rfl rfl (by kernel_rfl) (fun _ _ _ h => h) (Or.inl ⟨by rfl, ?_⟩) ?_ ?_
    rotate_left
    · intro w'
      go_simp
      with_reducible rfl
    rotate_left
    · simp only [Act.put, List.setIfInBounds_toArray, List.set_cons_zero, List.set_cons_succ, i64_w, i32_w]
      rfl
    refine pure_ (i := 12) (N := some 43) (v := ?_) (a' := ?_) #[false, true, true, true, false, false, true, true, true, false, false, true, true, false, false, false, false, false] rfl rfl (by kernel_rfl) (fun _ _ _ h => h) (Or.inl ⟨by rfl, ?_⟩) ?_ ?_
    rotate_left
    · intro w'
      go_simp
      with_reducible rfl
    rotate_left
    · simp only [Act.put, List.setIfInBounds_toArray, List.set_cons_zero, List.set_cons_succ, i64_w, i32_w]
      rfl
    refine pure_ (i := 13) (N := some 44) (v := ?_) (a' := ?_) #[false, true, true, true, false, false, true, true, true, false, false, true, true, true, false, false, false, false] rfl rfl (by kernel_rfl) (fun _ _ _ h => h) (Or.inl ⟨by rfl, ?_⟩) ?_ ?_
    rotate_left
    · intro w'
      go_simp
      with_reducible rfl
    rotate_left
    · simp only [Act.put, List.setIfInBounds_toArray, List.set_cons_zero, List.set_cons_succ, i64_w, i32_w]
      rfl
    refine take_ (i := 0) (N := some 31) (v := ?_) (a' := ?_) #[true, true, true, true, false, false, true, true, true, false, false, true, true, true, false, false, false, false] rfl rfl (by kernel_rfl) (fun _ _ _ h => h) (Or.inl ⟨by rfl, ?_⟩) hHeld ?_ ?_
    rotate_left
    · rintro w' ⟨s0, s1, s2⟩
      go_simp
      with_reducible rfl
    rotate_left
    · simp only [Act.put, List.setIfInBounds_toArray, List.set_cons_zero, List.set_cons_succ, i64_w, i32_w]
      rfl
    refine take_ (i := 5) (N := some 36) (v := ?_) (a' := ?_) #[true, true, true, true, false, true, true, true, true, false, false, true, true, true, false, false, false, false] rfl rfl (by kernel_rfl) (fun _ _ _ h => h) (Or.inl ⟨by rfl, ?_⟩) hHeld ?_ ?_
    rotate_left
    · rintro w' ⟨s0, s1, s2⟩
      go_simp
      with_reducible rfl
    rotate_left
    · simp only [Act.put, List.setIfInBounds_toArray, List.set_cons_zero, List.set_cons_succ, i64_w, i32_w]
      rfl
    refine take_ (i := 10) (N := some 41) (v := ?_) (a' := ?_) #[true, true, true, true, false, true, true, true, true, false, true, true, true, true, false, false, false, false] rfl rfl (by kernel_rfl) (fun _ _ _ h => h) (Or.inl ⟨by rfl, ?_⟩) hHeld ?_ ?_
    rotate_left
    · rintro w' ⟨s0, s1, s2⟩
      go_simp
      with_reducible rfl
    rotate_left
    · simp only [Act.put, List.setIfInBounds_toArray, List.set_cons_zero, List.set_cons_succ, i64_w, i32_w]
      rfl
    refine one_ (i := 4) (N := some 35) #[true, true, true, true, true, true, true, true, true, false, true, true, true, true, false, false, false, false] rfl rfl (by kernel_rfl) (by decide) (fun K hK => ?_)
    refine goes_ Tryd.func38 (by kernel_rfl) rfl #[.agg #[.slice A1 rs.length c1, .slice A2 l2.length c2], .string a, .string b, .int .i64 m] (by rfl) rfl rfl (by simp only [List.map_toArray, List.map_cons, List.map_nil]; rfl) ?_
    with_reducible refine (cs.out _ a b hHeld.2.2).mono ?_
    rintro e w8 ⟨rfl, hb8⟩
    refine ⟨_, rfl, ?_⟩
    refine hK.out _ _ ⟨pw_cell_below hb8 hHeld.1, pw_cell_below hb8 hHeld.2.1, hHeld.2.2.trans (hb8.mono hHeld.2.2.size)⟩ (fun hHeld => ?_)
    clear hK K
    refine norm_ (a' := ?_) ?_ ?_
    rotate_left
    · show Act.put _ (some 35) _ = _
      simp only [Act.put, List.setIfInBounds_toArray, List.set_cons_zero, List.set_cons_succ, i64_w, i32_w]
      rfl
    refine one_ (i := 9) (N := some 40) #[true, true, true, true, true, true, true, true, true, true, true, true, true, true, false, false, false, false] rfl rfl (by kernel_rfl) (by decide) (fun K hK => ?_)
    refine goes_ Tryd.func38 (by kernel_rfl) rfl #[.agg #[.slice A1 rs.length c1, .slice A2 l2.length c2], .string b, .string d, .int .i64 m] (by rfl) rfl rfl (by simp only [List.map_toArray, List.map_cons, List.map_nil]; rfl) ?_
    with_reducible refine (cs.out _ b d hHeld.2.2).mono ?_
    rintro e w9 ⟨rfl, hb9⟩
    refine ⟨_, rfl, ?_⟩
    refine hK.out _ _ ⟨pw_cell_below hb9 hHeld.1, pw_cell_below hb9 hHeld.2.1, hHeld.2.2.trans (hb9.mono hHeld.2.2.size)⟩ (fun hHeld => ?_)
    clear hK K
    refine norm_ (a' := ?_) ?_ ?_
    rotate_left
    · show Act.put _ (some 40) _ = _
      simp only [Act.put, List.setIfInBounds_toArray, List.set_cons_zero, List.set_cons_succ, i64_w, i32_w]
      rfl
    refine one_ (i := 14) (N := some 45) #[true, true, true, true, true, true, true, true, true, true, true, true, true, true, true, false, false, false] rfl rfl (by kernel_rfl) (by decide) (fun K hK => ?_)
    refine goes_ Tryd.func38 (by kernel_rfl) rfl #[.agg #[.slice A1 rs.length c1, .slice A2 l2.length c2], .string a, .string d, .int .i64 m] (by rfl) rfl rfl (by simp only [List.map_toArray, List.map_cons, List.map_nil]; rfl) ?_
    with_reducible refine (cs.out _ a d hHeld.2.2).mono ?_
    rintro e w10 ⟨rfl, hb10⟩
    refine ⟨_, rfl, ?_⟩
    refine hK.out _ _ ⟨pw_cell_below hb10 hHeld.1, pw_cell_below hb10 hHeld.2.1, hHeld.2.2.trans (hb10.mono hHeld.2.2.size)⟩ (fun hHeld => ?_)
    clear hK K
    refine norm_ (a' := ?_) ?_ ?_
    rotate_left
    · show Act.put _ (some 45) _ = _
      simp only [Act.put, List.setIfInBounds_toArray, List.set_cons_zero, List.set_cons_succ, i64_w, i32_w]
      rfl
    refine pure_ (i := 15) (N := some 11) (v := ?_) (a' := ?_) #[true, true, true, true, true, true, true, true, true, true, true, true, true, true, true, true, false, false] rfl rfl (by kernel_rfl) (fun _ _ _ h => h) (Or.inl ⟨by rfl, ?_⟩) ?_ ?_
    rotate_left
    · intro w'
      go_simp
      with_reducible rfl
    rotate_left
    · simp only [Act.put, List.setIfInBounds_toArray, List.set_cons_zero, List.set_cons_succ, i64_w, i32_w]
      rfl
    refine pure_ (i := 16) (N := some 12) (v := ?_) (a' := ?_) #[true, true, true, true, true, true, true, true, true, true, true, true, true, true, true, true, true, false] rfl rfl (by kernel_rfl) (fun _ _ _ h => h) (Or.inl ⟨by rfl, ?_⟩) ?_ ?_
    rotate_left
    · intro w'
      go_simp
      with_reducible rfl
    rotate_left
    · simp only [Act.put, List.setIfInBounds_toArray, List.set_cons_zero, List.set_cons_succ, i64_w, i32_w]
      rfl
    refine pure_ (i := 17) (N := some 13) (v := ?_) (a' := ?_) #[true, true, true, true, true, true, true, true, true, true, true, true, true, true, true, true, true, true] rfl rfl (by kernel_rfl) (fun _ _ _ h => h) (Or.inl ⟨by rfl, ?_⟩) ?_ ?_
    rotate_left
    · intro w'
      go_simp
      with_reducible rfl
    rotate_left
    · simp only [Act.put, List.setIfInBounds_toArray, List.set_cons_zero, List.set_cons_succ, i64_w, i32_w]
      rfl
    refine done_ (by kernel_rfl) ?_
    have hbq := hHeld.2.2
    have p0 := hHeld.1
    have p1 := hHeld.2.1
    have hbw := hlow.trans (hbq.mono hlow.size)
    have cz := cs.out w10 b a hbq
    rw [t2.out] at cz
    clear cs hHeld q0 q1 t2 hb8 hb9 hb10
    generalize sameF rs l2 a b m = p at t1 cz ⊢
    generalize sameF rs l2 b d m = q at t1 ⊢
    generalize sameF rs l2 a d m = r at t1 ⊢
    replace cz := Lib.hid cz
    clear hbq hT7
    cases p
    case' true =>
      obtain rfl : q = r := t1.out rfl
      cases q
    all_goals
      go_wp2_with fail
      refine cz.out.mono ?_
      rintro e w11 ⟨rfl, hb11⟩
      have hbw11 := hbw.trans (hb11.mono hbw.size)
      have cw := Lib.hid (awake14_ok w11 (hT.below hbw11 hT.six))
      clear cz p0 p1 t1
      go_wp2_with fail
      refine cw.out.mono ?_
      rintro e w12 ⟨rfl, hb12⟩
      go_wp2_with fail
      go_ret
      exact ⟨rfl, hbw11.trans (hb12.mono hbw11.size)⟩
  · have e0 : decide ((l.length : Int) ≤ 500) = false := decide_eq_false (by omega)
    rw [e0] at cl
    have ca := Lib.hid (fun w1 hB => awake14_ok w1 hB)
    replace hr := Lib.hid hr
    clear hl e0
    replace hc := Lib.hid hc
    go_enter Tryd.func12, Tryd.ntmps12
    go_wp2_with fail
    refine cl.out.mono ?_
    rintro e w1 ⟨rfl, ⟨n1, rfl⟩⟩
    go_wp2_with fail
    have hb := pw_below_drewN (Below.refl w.heap.size w) n1
    refine (ca.out _ (hT.below hb hT.six)).mono ?_
    rintro e w2 ⟨rfl, hb1⟩
    go_wp2_with fail
    go_ret
    exact ⟨rfl, hb.trans (hb1.mono (Nat.le_refl _))⟩
#print axioms canonEqual_walk
end Go.Proofs.YtpejnnnkamodbaaDoor
