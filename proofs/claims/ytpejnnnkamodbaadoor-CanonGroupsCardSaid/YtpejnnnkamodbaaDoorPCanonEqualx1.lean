-- PRINTED BY print.sh 35421559b90ae4d0a3588c463048766b98c2df88dd9212a6774a882060cdf62d: not written by this session
import Derived.Test.YtpejnnnkamodbaaDoorPCanonEqualx0
namespace Go.Proofs.YtpejnnnkamodbaaDoor.PCanonEqual
open Go.RowKit Go.Proofs.YtpejnnnkamodbaaDoorW.PrintWords Go.Proofs.YtpejnnnkamodbaaDoorW.PrintLast Go.Proofs.YtpejnnnkamodbaaDoorW.PrintMore
attribute [local go_sem] max2_int min2_int max_two min_two max_three min_three max_four min_four   -- for this text's walks alone
set_option linter.unusedVariables false
set_option linter.unusedSimpArgs false

/-! ### reportescrowkit_Light: function 23 -/
def reportescrowkit_Light.f (l0 : List Int) : Option (Bool) := some (decide ((l0.length : Int) ≤ 500))
set_option maxHeartbeats 8000000 in
set_option maxRecDepth 100000 in
theorem reportescrowkit_Light.calls (A0 : Option Addr) (c0 : Nat) (l0 : List Int) (r : Bool) (w : World) (hr0 : Kd.C (Kd.int .i64) w A0 l0.length l0) (hc0 : l0.length ≤ c0) (h : reportescrowkit_Light.f l0 = some r) :
    Calls Tryd.prog 23 #[.slice A0 l0.length c0] w fun e w' => e = .returned (.bool r) ∧ Drawn0 w w' := by
  have HR0 := Aside0.mk hr0
  have HC0 := Aside0.mk hc0
  clear hr0 hc0
  have H : (some (decide ((l0.length : Int) ≤ 500))) = some r := h
  clear h
  obtain rfl := Option.some.inj H
  go_enter Tryd.func23, Tryd.ntmps23
  go_wp2
  go_ret
  exact ⟨by first | rfl | (simp; done) | (simp [*]; done), by repeat (first | exact Drawn0.refl _ | apply Drawn0.step)⟩

/-- A state of type 80 at block g of W; what its slices lead to came in by w0. -/
def IsS80 (w0 W : World) (g : Nat) (f0 : List Int) (f1 : Int) : Prop := ∃ A0 c0, W.heap[g]? = some (.cells #[.slice A0 f0.length c0, .int .i64 f1] 80 (0, 0)) ∧ w0.heap.size ≤ g ∧ Kd.C (Kd.int .i64) w0 A0 f0.length f0
theorem IsS80.grown {w0 W : World} {g : Nat} {f0 : List Int} {f1 : Int} {W1 : World} {row : Option Nat} (h : IsS80 w0 W g f0 f1) (hw : W.grownBy W1 row) (hne : some g ≠ row) : IsS80 w0 W1 g f0 f1 := by
  obtain ⟨A0, c0, hb, hg, hr0⟩ := h
  exact ⟨A0, c0, blk_grown hb hw hne, hg, hr0⟩
theorem IsS80.own_neN {w0 W : World} {g : Nat} {f0 : List Int} {f1 : Int} {α : Type} {d : Kd α} {e : Nat} {base : Nat} {ok : Nat → Prop} {v : Value} {xs : List α} (h : IsS80 w0 W g f0 f1) (ho : Kd.N d e W base ok v xs) (ht : e ≠ 80) : some g ≠ v.ownBlock := by
  obtain ⟨A0, c0, hb, hg, hr0⟩ := h
  exact Kd.N_ne ho hb ht
theorem IsS80.fresh {w0 W : World} {g : Nat} {f0 : List Int} {f1 : Int} (h : IsS80 w0 W g f0 f1) : ∀ k, W.heap.size ≤ k → k ≠ g := by
  obtain ⟨A0, c0, hb, hg, hr0⟩ := h
  exact Kd.freshB hb
theorem IsS80.kept {w0 W : World} {g : Nat} {f0 : List Int} {f1 : Int} {W1 : World} {S : Nat → Prop} (h : IsS80 w0 W g f0 f1) (hk : Kept W W1 S) (hne : ¬ S g) : IsS80 w0 W1 g f0 f1 := by
  obtain ⟨A0, c0, hb, hg, hr0⟩ := h
  exact ⟨A0, c0, blk_kept hb hk hne, hg, hr0⟩
theorem IsS80.below {w0 W : World} {g : Nat} {f0 : List Int} {f1 : Int} {W1 : World} (h : IsS80 w0 W g f0 f1) (hw : Below W.heap.size W W1) : IsS80 w0 W1 g f0 f1 := h.grown (grown_of_below hw none) (by simp)
theorem IsS80.alloc {w0 W : World} {g : Nat} {f0 : List Int} {f1 : Int} (h : IsS80 w0 W g f0 f1) (o : Obj) : IsS80 w0 (W.alloc o) g f0 f1 := h.below (below_alloc (Below.refl _ _) o)
theorem IsS80.drewN {w0 W : World} {g : Nat} {f0 : List Int} {f1 : Int} (h : IsS80 w0 W g f0 f1) (m : Nat) : IsS80 w0 (W.drewN m) g f0 f1 := h
theorem IsS80.drew {w0 W : World} {g : Nat} {f0 : List Int} {f1 : Int} (h : IsS80 w0 W g f0 f1) : IsS80 w0 W.drew g f0 f1 := h
theorem IsS80.at_ {w0 W : World} {g : Nat} {f0 : List Int} {f1 : Int} {w' : World} {m : Nat} (hq : W.drewN m = w') (h : IsS80 w0 W g f0 f1) : IsS80 w0 w' g f0 f1 := by subst hq; exact IsS80.drewN h m
theorem IsS80.apart {w0 W : World} {g : Nat} {f0 : List Int} {f1 : Int} {α : Type} {d : Kd α} {e : Nat} {base : Nat} {ok : Nat → Prop} {v : Value} {xs : List α} (h : IsS80 w0 W g f0 f1) (ho : d.R e W base ok v xs) (ht : ∀ q, q ∈ e :: d.E → q ≠ 80) : d.R e W base (fun k => ok k ∧ k ≠ g) v xs := by
  obtain ⟨A0, c0, hb, hg, hr0⟩ := h
  exact Kd.R_types ho hb ht
theorem IsS80.own_ne {w0 W : World} {g : Nat} {f0 : List Int} {f1 : Int} {α : Type} {d : Kd α} {e : Nat} {base : Nat} {ok : Nat → Prop} {v : Value} {xs : List α} (h : IsS80 w0 W g f0 f1) (ho : d.R e W base ok v xs) (ht : e ≠ 80) : some g ≠ v.ownBlock := by
  obtain ⟨A0, c0, hb, hg, hr0⟩ := h
  exact Kd.R_ne ho hb ht
theorem IsS80.apartQ {w0 W : World} {g : Nat} {f0 : List Int} {f1 : Int} {α : Type} {d : Kd α} {e : Nat} {base : Nat} {ok : Nat → Prop} {v : Value} {xs : List α} (h : IsS80 w0 W g f0 f1) (ho : d.Q e W base ok v xs) (ht : ∀ q, q ∈ e :: d.E → q ≠ 80) : d.Q e W base (fun k => ok k ∧ k ≠ g) v xs := by
  obtain ⟨A0, c0, hb, hg, hr0⟩ := h
  exact Kd.Q_types ho hb ht
theorem IsS80.own_neQ {w0 W : World} {g : Nat} {f0 : List Int} {f1 : Int} {α : Type} {d : Kd α} {e : Nat} {base : Nat} {ok : Nat → Prop} {v : Value} {xs : List α} (h : IsS80 w0 W g f0 f1) (ho : d.Q e W base ok v xs) (ht : e ≠ 80) : some g ≠ v.ownBlock := by
  obtain ⟨A0, c0, hb, hg, hr0⟩ := h
  exact Kd.Q_ne ho hb ht
theorem IsS80.apartS {w0 W : World} {g : Nat} {f0 : List Int} {f1 : Int} {α : Type} {d : Kd α} {e : Nat} {base : Nat} {ok : Nat → Prop} {v : Value} {xs : List α} (h : IsS80 w0 W g f0 f1) (ho : d.S e W base ok v xs) (ht : ∀ q, q ∈ e :: d.E → q ≠ 80) : d.S e W base (fun k => ok k ∧ k ≠ g) v xs := by
  obtain ⟨A0, c0, hb, hg, hr0⟩ := h
  exact Kd.S_types ho hb ht
theorem IsS80.own_neS {w0 W : World} {g : Nat} {f0 : List Int} {f1 : Int} {α : Type} {d : Kd α} {e : Nat} {base : Nat} {ok : Nat → Prop} {v : Value} {xs : List α} (h : IsS80 w0 W g f0 f1) (ho : d.S e W base ok v xs) (ht : e ≠ 80) : some g ≠ v.ownBlock := by
  obtain ⟨A0, c0, hb, hg, hr0⟩ := h
  exact Kd.S_ne ho hb ht
theorem IsS80.lt {w0 W : World} {g : Nat} {f0 : List Int} {f1 : Int} (h : IsS80 w0 W g f0 f1) : g < W.heap.size := by
  obtain ⟨A0, c0, hb, hg, hr0⟩ := h
  exact blk_lt hb
theorem IsS80.ge {w0 W : World} {g : Nat} {f0 : List Int} {f1 : Int} (h : IsS80 w0 W g f0 f1) : w0.heap.size ≤ g := by
  obtain ⟨A0, c0, hb, hg, hr0⟩ := h
  exact hg
theorem IsS80.ne_blk {w0 W : World} {g : Nat} {f0 : List Int} {f1 : Int} {a : Nat} {cs : Array Value} {t : TypeId} {fr : Nat × Nat} (h : IsS80 w0 W g f0 f1) (hb2 : W.heap[a]? = some (.cells cs t fr)) (ht : t ≠ 80) : g ≠ a := by
  obtain ⟨A0, c0, hb, hg, hr0⟩ := h
  rintro rfl
  rw [hb] at hb2
  injection hb2 with hb2
  injection hb2 with _ ht2
  exact ht ht2.symm
theorem IsS80.far {w0 W : World} {g : Nat} {f0 : List Int} {f1 : Int} {p : Addr} (h : IsS80 w0 W g f0 f1) (hne : g ≠ p.block) (u : Value) : IsS80 w0 (W.setCell p u) g f0 f1 := by
  obtain ⟨A0, c0, hb, hg, hr0⟩ := h
  exact ⟨A0, c0, blk_far hb hne u, hg, hr0⟩
theorem cellS80_0 {W : World} {g : Nat} {A0 : Option Addr} {c0 : Nat} {f0 : List Int} {f1 : Int} (h : W.heap[g]? = some (.cells #[.slice A0 f0.length c0, .int .i64 f1] 80 (0, 0))) : W.cell? ⟨g, 0, none⟩ = some (.slice A0 f0.length c0) := (blk_cell h 0).trans rfl
theorem cellS80_1 {W : World} {g : Nat} {A0 : Option Addr} {c0 : Nat} {f0 : List Int} {f1 : Int} (h : W.heap[g]? = some (.cells #[.slice A0 f0.length c0, .int .i64 f1] 80 (0, 0))) : W.cell? ⟨g, 1, none⟩ = some (.int .i64 f1) := (blk_cell h 1).trans rfl
theorem IsS80.set_1 {w0 W : World} {g : Nat} {f0 : List Int} {f1 : Int} (h : IsS80 w0 W g f0 f1) (x : Int) : IsS80 w0 (W.setCell ⟨g, 1, none⟩ (.int .i64 x)) g f0 x := by
  obtain ⟨A0, c0, hb, hg, hr0⟩ := h
  exact ⟨A0, c0, by simpa using blk_set hb 1 (.int .i64 x), hg, hr0⟩
theorem IsS80.new (w0 W : World) (A0 : Option Addr) (c0 : Nat) (f0 : List Int) (f1 : Int) (hB : Below w0.heap.size w0 W) (hr0 : Kd.C (Kd.int .i64) w0 A0 f0.length f0) : IsS80 w0 (W.alloc (.cells #[.slice A0 f0.length c0, .int .i64 f1] 80)) W.heap.size f0 f1 := ⟨A0, c0, by simpa using heap_alloc_new W _, hB.size, hr0⟩

/-! ### reportescrowkit_Roll: function 24 -/
def reportescrowkit_Roll.f (l0 : List Int) : Option (List Int × Int) := some (l0, 0)
set_option maxHeartbeats 8000000 in
set_option maxRecDepth 100000 in
theorem reportescrowkit_Roll.calls (A0 : Option Addr) (c0 : Nat) (l0 : List Int) (r1 : List Int) (r2 : Int) (w0 w : World) (hB : Below w0.heap.size w0 w) (hr0 : Kd.C (Kd.int .i64) w0 A0 l0.length l0) (hc0 : l0.length ≤ c0) (h : reportescrowkit_Roll.f l0 = some (r1, r2)) :
    Calls Tryd.prog 24 #[.slice A0 l0.length c0] w fun e w' => ∃ g_ : Nat, e = .returned (.pointer (some ⟨g_, 0, none⟩)) ∧ IsS80 w0 w' g_ r1 r2 ∧ Below w0.heap.size w0 w' ∧ Below w.heap.size w w' := by
  have hu80 := Tryd.underlying80
  have HR0 := Aside0.mk hr0
  have HC0 := Aside0.mk hc0
  clear hr0 hc0
  have HBW := Aside0.mk (Below.refl w.heap.size w)
  have HW0 := Aside0.mk hB.size
  have HB := Aside0.mk hB
  clear hB
  have H : (some (l0, 0)) = some (r1, r2) := h
  clear h
  simp only [Option.some.injEq, Prod.mk.injEq] at H
  obtain ⟨rfl, rfl⟩ := H
  go_enter Tryd.func24, Tryd.ntmps24
  go_wp2_with (first | ((with_reducible refine gate_dst (N := 5) rfl ?_); refine box_event ?hg (N := 5) ?hd (cs := #[.slice A0 l0.length c0, .int .i64 0]) (t := 80) ?hr ?_; (case hd => rfl); (case hg => rfl); (case hr => first | (go_simp; done) | (go_simp; rfl)); intro gb101 hg w2 hbox hb; have n0_ := Aside0.mk (below_step HBW.out hb); have n1_ := Aside0.mk (below_step (by repeat (first | (with_reducible first | exact HB.out | apply below_alloc | apply pw_below_drewN | apply below_drew1) | exact HB.out)) hb); have n2_ := Aside0.mk (hbox); have n3_ := Aside0.mk ((by rw [hg]; exact (below_size (by repeat (first | (with_reducible first | exact HBW.out | apply below_alloc | apply pw_below_drewN | apply below_drew1) | exact HBW.out))) : w.heap.size ≤ gb101)); have n4_ := Aside0.mk ((Nat.le_trans HW0.out (by rw [hg]; exact (below_size (by repeat (first | (with_reducible first | exact HBW.out | apply below_alloc | apply pw_below_drewN | apply below_drew1) | exact HBW.out))) : w.heap.size ≤ gb101) : w0.heap.size ≤ gb101)); clear HBW; clear HB; have HBW := n0_; have HB := n1_; have BK101 := n2_; have GW101 := n3_; have GE101 := n4_; clear n0_ n1_ n2_ n3_ n4_; clear hb hbox hg))
  go_ret
  exact ⟨_, rfl, (show IsS80 w0 _ gb101 l0 0 from ⟨_, _, by (with_reducible repeat (first | refine blk_drewN ?_ _ | refine blk_drew ?_ | refine blk_alloc ?_ _)); exact BK101.out, GE101.out, HR0.out⟩), by repeat (first | (with_reducible first | exact HB.out | apply below_alloc | apply pw_below_drewN | apply below_drew1 | refine below_set ?_ GE101.out) | exact HB.out), by repeat (first | (with_reducible first | exact HBW.out | apply below_alloc | apply pw_below_drewN | apply below_drew1 | refine below_set ?_ GW101.out) | exact HBW.out)⟩

-- NOT PRINTED: function 86 (abi_NoEscape)

-- NOT PRINTED: function 72 (strings_Builder_copyCheck)

-- NOT PRINTED: function 47 (strings_Builder_WriteString)

-- NOT PRINTED: function 50 (strings_Builder_String)

-- NOT PRINTED: function 105 (bytealg_MakeNoZero)

-- NOT PRINTED: function 85 (strings_Builder_grow)

-- NOT PRINTED: function 70 (strings_Builder_Grow)

-- NOT PRINTED: function 45 (strings_Join)

-- NOT PRINTED: function 21 (words_Join)

-- NOT PRINTED: function 71 (utf8_decodeRuneInStringSlow)

-- NOT PRINTED: function 46 (utf8_DecodeRuneInString)

/-! ### words_Letter: function 19 -/
def words_Letter.f (a0 : Int) : Option (Bool) := if a0 ≥ 97 then (if a0 ≤ 122 then (some true) else (if a0 ≥ 48 then (some (decide (a0 ≤ 57))) else (some false))) else (if a0 ≥ 48 then (some (decide (a0 ≤ 57))) else (some false))
set_option maxHeartbeats 8000000 in
set_option maxRecDepth 100000 in
theorem words_Letter.calls (a0 : Int) (r : Bool) (w : World) (h : words_Letter.f a0 = some r) :
    Calls Tryd.prog 19 #[.int .u8 a0] w fun e w' => e = .returned (.bool r) ∧ Drawn0 w w' := by
  have H : (if a0 ≥ 97 then (if a0 ≤ 122 then (some true) else (if a0 ≥ 48 then (some (decide (a0 ≤ 57))) else (some false))) else (if a0 ≥ 48 then (some (decide (a0 ≤ 57))) else (some false))) = some r := h
  clear h
  by_cases c2 : a0 ≥ 97
  · rw [if_pos c2] at H
    have c2b0 : decide (97 ≤ a0) = true := decide_eq_true c2
    clear c2
    by_cases c3 : a0 ≤ 122
    · rw [if_pos c3] at H
      have c3b0 : decide (a0 ≤ 122) = true := decide_eq_true c3
      clear c3
      obtain rfl := Option.some.inj H
      go_enter Tryd.func19, Tryd.ntmps19
      go_wp2
      go_ret
      exact ⟨by first | rfl | (simp; done) | (simp [*]; done), by repeat (first | exact Drawn0.refl _ | apply Drawn0.step)⟩
    · rw [if_neg c3] at H
      have c3b0 : decide (a0 ≤ 122) = false := decide_eq_false c3
      clear c3
      by_cases c4 : a0 ≥ 48
      · rw [if_pos c4] at H
        have c4b0 : decide (48 ≤ a0) = true := decide_eq_true c4
        clear c4
        obtain rfl := Option.some.inj H
        go_enter Tryd.func19, Tryd.ntmps19
        go_wp2
        go_ret
        exact ⟨by first | rfl | (simp; done) | (simp [*]; done), by repeat (first | exact Drawn0.refl _ | apply Drawn0.step)⟩
      · rw [if_neg c4] at H
        have c4b0 : decide (48 ≤ a0) = false := decide_eq_false c4
        clear c4
        obtain rfl := Option.some.inj H
        go_enter Tryd.func19, Tryd.ntmps19
        go_wp2
        go_ret
        exact ⟨by first | rfl | (simp; done) | (simp [*]; done), by repeat (first | exact Drawn0.refl _ | apply Drawn0.step)⟩
  · rw [if_neg c2] at H
    have c2b0 : decide (97 ≤ a0) = false := decide_eq_false c2
    clear c2
    by_cases c5 : a0 ≥ 48
    · rw [if_pos c5] at H
      have c5b0 : decide (48 ≤ a0) = true := decide_eq_true c5
      clear c5
      obtain rfl := Option.some.inj H
      go_enter Tryd.func19, Tryd.ntmps19
      go_wp2
      go_ret
      exact ⟨by first | rfl | (simp; done) | (simp [*]; done), by repeat (first | exact Drawn0.refl _ | apply Drawn0.step)⟩
    · rw [if_neg c5] at H
      have c5b0 : decide (48 ≤ a0) = false := decide_eq_false c5
      clear c5
      obtain rfl := Option.some.inj H
      go_enter Tryd.func19, Tryd.ntmps19
      go_wp2
      go_ret
      exact ⟨by first | rfl | (simp; done) | (simp [*]; done), by repeat (first | exact Drawn0.refl _ | apply Drawn0.step)⟩

/-! ### words_small: function 73 -/
def words_small.j0 : Nat → Int → Bool → Option (Int)
  | 0, _, _ => none
  | k + 1, x0, x3 => if x3 = true then (some (wrap32 ((wrap32 (x0 + 97)) - 65))) else (if x0 ≥ 192 then (if x0 ≤ 221 then (if x0 = 215 then (some x0) else (some (wrap32 ((wrap32 (x0 + 224)) - 192)))) else (some x0)) else (some x0))
def words_small.f (k : Nat) (a0 : Int) : Option (Int) := if a0 ≥ 65 then (words_small.j0 k a0 (decide (a0 ≤ 90))) else (words_small.j0 k a0 false)
theorem words_small.mono_l : ∀ k, (∀ y0 y1, LeO (words_small.j0 k y0 y1) (words_small.j0 (k + 1) y0 y1))
  | 0 => fun _ _ r h => by simp [words_small.j0] at h
  | k + 1 => by
    have ih0 := words_small.mono_l k
    · intro y0 y1
      unfold words_small.j0
      repeat' first
      | (with_reducible exact ih0 _ _)
      | (with_reducible exact LeO.refl _)
      | (with_reducible exact LeO.none _)
      | (with_reducible refine LeO.ite ?_ ?_)
      | (with_reducible refine LeO.bind ?_ (fun _ => ?_))
      | exact ih0 _ _
      | exact LeO.none _
      | refine LeO.ite ?_ ?_
      | refine LeO.bind ?_ (fun _ => ?_)
theorem words_small.mono : ∀ a0 k, LeO (words_small.f k a0) (words_small.f (k + 1) a0) := by
  intro a0 k
  have ih0 := words_small.mono_l k
  unfold words_small.f
  repeat' first
      | (with_reducible exact ih0 _ _)
      | (with_reducible exact LeO.refl _)
      | (with_reducible exact LeO.none _)
      | (with_reducible refine LeO.ite ?_ ?_)
      | (with_reducible refine LeO.bind ?_ (fun _ => ?_))
      | exact ih0 _ _
      | exact LeO.none _
      | refine LeO.ite ?_ ?_
      | refine LeO.bind ?_ (fun _ => ?_)
set_option maxHeartbeats 8000000 in
set_option maxRecDepth 100000 in
theorem words_small.calls (k : Nat) (a0 : Int) (r : Int) (w : World) (h : words_small.f k a0 = some r) :
    Calls Tryd.prog 73 #[.int .i32 a0] w fun e w' => e = .returned (.int .i32 r) ∧ Drawn0 w w' := by
  have H : (if a0 ≥ 65 then (words_small.j0 k a0 (decide (a0 ≤ 90))) else (words_small.j0 k a0 false)) = some r := h
  clear h
  have HC2 := Aside0.mk H
  clear H
  go_enter Tryd.func73, Tryd.ntmps73
  go_upto_region 1 with (fail)
  go_cut [3] (fun v3 wc => ∃ (kq : Nat) (x3_1 : Bool), v3 = .bool x3_1 ∧ Aside0 (words_small.j0 kq a0 x3_1 = some r) ∧ Aside0 (kq ≤ k) ∧ Drawn0 w wc)
  case first =>
    have H := HC2.out
    clear HC2
    by_cases c3 : a0 ≥ 65
    · rw [if_pos c3] at H
      have c3b0 : decide (65 ≤ a0) = true := decide_eq_true c3
      clear c3
      (first | rw [c3b0] | (simp only [i64_w, i32_w]; rw [c3b0]) | skip)
      have H' := Aside0.mk H
      clear H
      go_wp2
      go_meet
      case rel => exact ⟨_, (decide (a0 ≤ 90)), (by first | rfl | (simp; done) | (simp [*]; done)), H', ⟨by first | omega | exact Nat.le_refl _⟩, by repeat (first | exact Drawn0.refl _ | apply Drawn0.step)⟩
    · rw [if_neg c3] at H
      have c3b0 : decide (65 ≤ a0) = false := decide_eq_false c3
      clear c3
      (first | rw [c3b0] | (simp only [i64_w, i32_w]; rw [c3b0]) | skip)
      have H' := Aside0.mk H
      clear H
      go_wp2
      go_meet
      case rel => exact ⟨_, (false), (by first | rfl | (simp; done) | (simp [*]; done)), H', ⟨by first | omega | exact Nat.le_refl _⟩, by repeat (first | exact Drawn0.refl _ | apply Drawn0.step)⟩
  case rest =>
    clear HC2
    try clear p2
    try clear c3
    try clear c3b0
    obtain ⟨kq, x3_1, rfl, HA, HJ1, ⟨mc1, rfl⟩⟩ := hcut
    cases kq with
    | zero => exact absurd HA.out (by simp [words_small.j0])
    | succ kj1 =>
      have H := HA.out
      clear HA
      simp only [words_small.j0] at H
      by_cases c4 : x3_1 = true
      · subst c4
        have H1 : (some (wrap32 ((wrap32 (a0 + 97)) - 65))) = some r := by rw [if_pos rfl] at H; exact H
        clear H
        have H := H1
        clear H1
        obtain rfl := Option.some.inj H
        go_wp2
        go_ret
        exact ⟨by first | rfl | (simp; done) | (simp [*]; done), by repeat (first | exact Drawn0.refl _ | apply Drawn0.step)⟩
      · replace c4 := Bool.eq_false_iff.mpr c4
        subst c4
        have H1 : (if a0 ≥ 192 then (if a0 ≤ 221 then (if a0 = 215 then (some a0) else (some (wrap32 ((wrap32 (a0 + 224)) - 192)))) else (some a0)) else (some a0)) = some r := by rw [if_neg (show ¬ (false = true) by decide)] at H; exact H
        clear H
        have H := H1
        clear H1
        by_cases c5 : a0 ≥ 192
        · rw [if_pos c5] at H
          have c5b0 : decide (192 ≤ a0) = true := decide_eq_true c5
          clear c5
          by_cases c6 : a0 ≤ 221
          · rw [if_pos c6] at H
            have c6b0 : decide (a0 ≤ 221) = true := decide_eq_true c6
            clear c6
            by_cases c7 : a0 = 215
            · rw [if_pos c7] at H
              have c7b0 : (a0 == 215) = true := beq_iff_eq.mpr c7
              have c7b1 : (a0 != 215) = false := bne_eq_false_iff_eq.mpr c7
              clear c7
              obtain rfl := Option.some.inj H
              go_wp2
              go_ret
              exact ⟨by first | rfl | (simp; done) | (simp [*]; done), by repeat (first | exact Drawn0.refl _ | apply Drawn0.step)⟩
            · rw [if_neg c7] at H
              have c7b0 : (a0 == 215) = false := beq_eq_false_iff_ne.mpr c7
              have c7b1 : (a0 != 215) = true := bne_iff_ne.mpr c7
              obtain rfl := Option.some.inj H
              go_wp2
              go_ret
              exact ⟨by first | rfl | (simp; done) | (simp [*]; done), by repeat (first | exact Drawn0.refl _ | apply Drawn0.step)⟩
          · rw [if_neg c6] at H
            have c6b0 : decide (a0 ≤ 221) = false := decide_eq_false c6
            clear c6
            obtain rfl := Option.some.inj H
            go_wp2
            go_ret
            exact ⟨by first | rfl | (simp; done) | (simp [*]; done), by repeat (first | exact Drawn0.refl _ | apply Drawn0.step)⟩
        · rw [if_neg c5] at H
          have c5b0 : decide (192 ≤ a0) = false := decide_eq_false c5
          clear c5
          obtain rfl := Option.some.inj H
          go_wp2
          go_ret
          exact ⟨by first | rfl | (simp; done) | (simp [*]; done), by repeat (first | exact Drawn0.refl _ | apply Drawn0.step)⟩

-- NOT PRINTED: function 106 (words_plain)

-- NOT PRINTED: function 87 (words_table)

-- NOT PRINTED: function 74 (words_letters)

-- NOT PRINTED: function 48 (words_fold)

-- NOT PRINTED: function 75 (strings_FieldsFunc)

-- NOT PRINTED: function 107 (unicode_is16)

-- NOT PRINTED: function 108 (unicode_is32)

-- NOT PRINTED: function 88 (unicode_isExcludingLatin)

-- NOT PRINTED: function 76 (unicode_IsSpace)

-- NOT PRINTED: function 49 (strings_Fields)

-- NOT PRINTED: function 22 (words_Split)

-- NOT PRINTED: function 18 (words_Fold)

-- NOT PRINTED: function 20 (words_Plain)

-- NOT PRINTED: function 77 (alias_name)

-- NOT PRINTED: function 53 (alias_right)

-- NOT PRINTED: function 28 (alias_Valid)

-- NOT PRINTED: function 79 (api_Rule_79)

-- NOT PRINTED: function 58 (api_Rule_58)

-- NOT PRINTED: function 33 (rewrite_Valid)

-- NOT PRINTED: function 63 (canon_Valid)

/-! ### rewrite_replace: function 91 -/
def rewrite_replace.f (a0_0 : ByteArray) (a0_1 : ByteArray) (a0_2 : Int) (a1 : ByteArray) (a2 : Int) : Option (ByteArray) := if 0 ≤ a2 then (if a2 ≤ (a1.size : Int) then (if (a1.extract 0 (a2 : Int).toNat).size + a0_1.size ≤ 9223372036854775807 then (if 0 ≤ (wrap64 (a2 + (a0_0.size : Int))) then (if (wrap64 (a2 + (a0_0.size : Int))) ≤ (a1.size : Int) then (if ((a1.extract 0 (a2 : Int).toNat) ++ a0_1).size + (a1.extract ((wrap64 (a2 + (a0_0.size : Int))) : Int).toNat a1.size).size ≤ 9223372036854775807 then (some (((a1.extract 0 (a2 : Int).toNat) ++ a0_1) ++ (a1.extract ((wrap64 (a2 + (a0_0.size : Int))) : Int).toNat a1.size))) else (none)) else (none)) else (none)) else (none)) else (none)) else (none)
set_option maxHeartbeats 8000000 in
set_option maxRecDepth 100000 in
theorem rewrite_replace.calls (a0_0 : ByteArray) (a0_1 : ByteArray) (a0_2 : Int) (a1 : ByteArray) (a2 : Int) (r : ByteArray) (w : World) (h : rewrite_replace.f a0_0 a0_1 a0_2 a1 a2 = some r) :
    Calls Tryd.prog 91 #[.agg #[.string a0_0, .string a0_1, .int .i64 a0_2], .string a1, .int .i64 a2] w fun e w' => e = .returned (.string r) ∧ Below w.heap.size w w' := by
  have hu49 := Tryd.underlying49
  have HB := Aside0.mk (Below.refl w.heap.size w)
  have H : (if 0 ≤ a2 then (if a2 ≤ (a1.size : Int) then (if (a1.extract 0 (a2 : Int).toNat).size + a0_1.size ≤ 9223372036854775807 then (if 0 ≤ (wrap64 (a2 + (a0_0.size : Int))) then (if (wrap64 (a2 + (a0_0.size : Int))) ≤ (a1.size : Int) then (if ((a1.extract 0 (a2 : Int).toNat) ++ a0_1).size + (a1.extract ((wrap64 (a2 + (a0_0.size : Int))) : Int).toNat a1.size).size ≤ 9223372036854775807 then (some (((a1.extract 0 (a2 : Int).toNat) ++ a0_1) ++ (a1.extract ((wrap64 (a2 + (a0_0.size : Int))) : Int).toNat a1.size))) else (none)) else (none)) else (none)) else (none)) else (none)) else (none)) = some r := h
  clear h
  by_cases c4 : 0 ≤ a2
  · rw [if_pos c4] at H
    have c4b0 := eq_true c4
    have c4b1 : decide (0 ≤ a2) = true := decide_eq_true c4
    clear c4
    by_cases c5 : a2 ≤ (a1.size : Int)
    · rw [if_pos c5] at H
      have c5b0 := eq_true c5
      have c5b1 : decide (a2 ≤ (a1.size : Int)) = true := decide_eq_true c5
      clear c5
      by_cases c6 : (a1.extract 0 (a2 : Int).toNat).size + a0_1.size ≤ 9223372036854775807
      · rw [if_pos c6] at H
        have c6b0 := eq_true c6
        have c6b1 : decide ((a1.extract 0 (a2 : Int).toNat).size + a0_1.size ≤ 9223372036854775807) = true := decide_eq_true c6
        try have c6b2 : (9223372036854775807 < (a1.extract 0 (a2 : Int).toNat).size + a0_1.size) = False := eq_false (Nat.not_lt.2 c6)
        obtain ⟨ji7, hji7⟩ : ∃ j_ : Int, (wrap64 (a2 + (a0_0.size : Int))) = j_ := ⟨_, rfl⟩
        replace H : (if 0 ≤ (ji7) then (if (ji7) ≤ (a1.size : Int) then (if ((a1.extract 0 (a2 : Int).toNat) ++ a0_1).size + (a1.extract ((ji7) : Int).toNat a1.size).size ≤ 9223372036854775807 then (some (((a1.extract 0 (a2 : Int).toNat) ++ a0_1) ++ (a1.extract ((ji7) : Int).toNat a1.size))) else (none)) else (none)) else (none)) = some r := by first | (rw [hji7] at H; exact H) | (simp only [hji7] at H ⊢; exact H)
        have hji7w : (IntKind.i64.wrap (a2 + (a0_0.size : Int))) = ji7 := (i64_w _).trans hji7
        by_cases c8 : 0 ≤ (ji7)
        · rw [if_pos c8] at H
          have c8b0 := eq_true c8
          have c8b1 : decide (0 ≤ (ji7)) = true := decide_eq_true c8
          clear c8
          by_cases c9 : (ji7) ≤ (a1.size : Int)
          · rw [if_pos c9] at H
            have c9b0 := eq_true c9
            have c9b1 : decide ((ji7) ≤ (a1.size : Int)) = true := decide_eq_true c9
            clear c9
            by_cases c10 : ((a1.extract 0 (a2 : Int).toNat) ++ a0_1).size + (a1.extract ((ji7) : Int).toNat a1.size).size ≤ 9223372036854775807
            · rw [if_pos c10] at H
              have c10b0 := eq_true c10
              have c10b1 : decide (((a1.extract 0 (a2 : Int).toNat) ++ a0_1).size + (a1.extract ((ji7) : Int).toNat a1.size).size ≤ 9223372036854775807) = true := decide_eq_true c10
              try have c10b2 : (9223372036854775807 < ((a1.extract 0 (a2 : Int).toNat) ++ a0_1).size + (a1.extract ((ji7) : Int).toNat a1.size).size) = False := eq_false (Nat.not_lt.2 c10)
              obtain rfl := Option.some.inj H
              go_enter Tryd.func91, Tryd.ntmps91
              go_wp2_with (first | ((with_reducible refine gate_dst (N := 3) rfl ?_); refine box_event ?hg (N := 3) ?hd (cs := #[.string a0_0, .string a0_1, .int .i64 a0_2]) (t := 49) ?hr ?_; (case hd => rfl); (case hg => rfl); (case hr => first | (go_simp; done) | (go_simp; rfl)); intro gb111 hg w11 hbox hb; have n0_ := Aside0.mk (below_step (by repeat (first | (with_reducible first | exact HB.out | apply below_alloc | apply pw_below_drewN | apply below_drew1) | exact HB.out)) hb); have n1_ := Aside0.mk (hbox); have n2_ := Aside0.mk ((by rw [hg]; exact (below_size (by repeat (first | (with_reducible first | exact HB.out | apply below_alloc | apply pw_below_drewN | apply below_drew1) | exact HB.out))) : w.heap.size ≤ gb111)); have n3_ := Aside0.mk ((by rw [hg]; exact (below_size (by repeat (first | (with_reducible first | exact HB.out | apply below_alloc | apply pw_below_drewN | apply below_drew1) | exact HB.out))) : w.heap.size ≤ gb111)); clear HB; have HB := n0_; have BK111 := n1_; have GW111 := n2_; have GE111 := n3_; clear n0_ n1_ n2_ n3_; clear hb hbox hg; have hcz12_0 : w11.cell? ⟨gb111, 0, none⟩ = some (.string a0_0) := (blk_cell BK111.out 0).trans rfl; have hcz12_1 : w11.cell? ⟨gb111, 1, none⟩ = some (.string a0_1) := (blk_cell BK111.out 1).trans rfl; have hcz12_2 : w11.cell? ⟨gb111, 2, none⟩ = some (.int .i64 a0_2) := (blk_cell BK111.out 2).trans rfl; have hfz12_0 := blk_frozen BK111.out 0; have hfz12_1 := blk_frozen BK111.out 1; have hfz12_2 := blk_frozen BK111.out 2))
              repeat (go_quiet (first | ((with_reducible refine gate_dst (N := 3) rfl ?_); refine box_event ?hg (N := 3) ?hd (cs := #[.string a0_0, .string a0_1, .int .i64 a0_2]) (t := 49) ?hr ?_; (case hd => rfl); (case hg => rfl); (case hr => first | (go_simp; done) | (go_simp; rfl)); intro gb111 hg w11 hbox hb; have n0_ := Aside0.mk (below_step (by repeat (first | (with_reducible first | exact HB.out | apply below_alloc | apply pw_below_drewN | apply below_drew1) | exact HB.out)) hb); have n1_ := Aside0.mk (hbox); have n2_ := Aside0.mk ((by rw [hg]; exact (below_size (by repeat (first | (with_reducible first | exact HB.out | apply below_alloc | apply pw_below_drewN | apply below_drew1) | exact HB.out))) : w.heap.size ≤ gb111)); have n3_ := Aside0.mk ((by rw [hg]; exact (below_size (by repeat (first | (with_reducible first | exact HB.out | apply below_alloc | apply pw_below_drewN | apply below_drew1) | exact HB.out))) : w.heap.size ≤ gb111)); clear HB; have HB := n0_; have BK111 := n1_; have GW111 := n2_; have GE111 := n3_; clear n0_ n1_ n2_ n3_; clear hb hbox hg; have hcz12_0 : w11.cell? ⟨gb111, 0, none⟩ = some (.string a0_0) := (blk_cell BK111.out 0).trans rfl; have hcz12_1 : w11.cell? ⟨gb111, 1, none⟩ = some (.string a0_1) := (blk_cell BK111.out 1).trans rfl; have hcz12_2 : w11.cell? ⟨gb111, 2, none⟩ = some (.int .i64 a0_2) := (blk_cell BK111.out 2).trans rfl; have hfz12_0 := blk_frozen BK111.out 0; have hfz12_1 := blk_frozen BK111.out 1; have hfz12_2 := blk_frozen BK111.out 2)); try go_wp2_with (first | ((with_reducible refine gate_dst (N := 3) rfl ?_); refine box_event ?hg (N := 3) ?hd (cs := #[.string a0_0, .string a0_1, .int .i64 a0_2]) (t := 49) ?hr ?_; (case hd => rfl); (case hg => rfl); (case hr => first | (go_simp; done) | (go_simp; rfl)); intro gb111 hg w11 hbox hb; have n0_ := Aside0.mk (below_step (by repeat (first | (with_reducible first | exact HB.out | apply below_alloc | apply pw_below_drewN | apply below_drew1) | exact HB.out)) hb); have n1_ := Aside0.mk (hbox); have n2_ := Aside0.mk ((by rw [hg]; exact (below_size (by repeat (first | (with_reducible first | exact HB.out | apply below_alloc | apply pw_below_drewN | apply below_drew1) | exact HB.out))) : w.heap.size ≤ gb111)); have n3_ := Aside0.mk ((by rw [hg]; exact (below_size (by repeat (first | (with_reducible first | exact HB.out | apply below_alloc | apply pw_below_drewN | apply below_drew1) | exact HB.out))) : w.heap.size ≤ gb111)); clear HB; have HB := n0_; have BK111 := n1_; have GW111 := n2_; have GE111 := n3_; clear n0_ n1_ n2_ n3_; clear hb hbox hg; have hcz12_0 : w11.cell? ⟨gb111, 0, none⟩ = some (.string a0_0) := (blk_cell BK111.out 0).trans rfl; have hcz12_1 : w11.cell? ⟨gb111, 1, none⟩ = some (.string a0_1) := (blk_cell BK111.out 1).trans rfl; have hcz12_2 : w11.cell? ⟨gb111, 2, none⟩ = some (.int .i64 a0_2) := (blk_cell BK111.out 2).trans rfl; have hfz12_0 := blk_frozen BK111.out 0; have hfz12_1 := blk_frozen BK111.out 1; have hfz12_2 := blk_frozen BK111.out 2)))
              go_ret
              exact ⟨by first | rfl | (simp [errW_none, errW_some] <;> rfl) | (simp only [← hji7]; first | rfl | (simp [errW_none, errW_some] <;> rfl)) | (simp [*, errW_none, errW_some] <;> rfl), by repeat (first | (with_reducible first | exact HB.out | apply below_alloc | apply pw_below_drewN | apply below_drew1 | refine below_set ?_ GE111.out) | exact HB.out)⟩
            · rw [if_neg c10] at H
              exact absurd H (by simp)
          · rw [if_neg c9] at H
            exact absurd H (by simp)
        · rw [if_neg c8] at H
          exact absurd H (by simp)
      · rw [if_neg c6] at H
        exact absurd H (by simp)
    · rw [if_neg c5] at H
      exact absurd H (by simp)
  · rw [if_neg c4] at H
    exact absurd H (by simp)

-- NOT PRINTED: function 78 (rewrite_Once)

-- NOT PRINTED: function 57 (rewrite_reduce)

-- NOT PRINTED: function 32 (rewrite_Apply)

-- NOT PRINTED: function 64 (canon_begin)

-- NOT PRINTED: function 54 (alias_follow)

-- NOT PRINTED: function 55 (alias_present)

-- NOT PRINTED: function 29 (alias_Follow)

-- NOT PRINTED: function 65 (canon_next)

-- NOT PRINTED: function 40 (canon_Name)

-- NOT PRINTED: function 38 (canon_Same)

/-! ### reportescrowlaw14_names: function 61 -/
def reportescrowlaw14_names.f  : Option ((List (S49)) × (List (S40))) := some ((([(⟨(⟨#[112, 104]⟩ : ByteArray), (⟨#[102]⟩ : ByteArray), 0⟩ : S49)] : List (S49))), (([(⟨(⟨#[98, 111, 98]⟩ : ByteArray), (⟨#[114, 111, 98, 101, 114, 116]⟩ : ByteArray), 1, false⟩ : S40)] : List (S40))))
set_option maxHeartbeats 8000000 in
set_option maxRecDepth 100000 in
theorem reportescrowlaw14_names.calls  (r1 : List (S49)) (r2 : List (S40)) (w : World) (h : reportescrowlaw14_names.f  = some (r1, r2)) :
    Calls Tryd.prog 61 #[] w fun e w' => ∃ v0_ v1_ : Value, e = .returned (.agg #[v0_, v1_]) ∧ Kd.R k49 49 w' w.heap.size (fun _ => True) v0_ r1 ∧ Kd.R k40 40 w' w.heap.size (fun _ => True) v1_ r2 ∧ Below w.heap.size w w' := by
  have hu55 := Tryd.underlying55
  have hu49 := Tryd.underlying49
  have hu40 := Tryd.underlying40
  have HB := Aside0.mk (Below.refl w.heap.size w)
  have H : (some ((([(⟨(⟨#[112, 104]⟩ : ByteArray), (⟨#[102]⟩ : ByteArray), 0⟩ : S49)] : List (S49))), (([(⟨(⟨#[98, 111, 98]⟩ : ByteArray), (⟨#[114, 111, 98, 101, 114, 116]⟩ : ByteArray), 1, false⟩ : S40)] : List (S40))))) = some (r1, r2) := h
  clear h
  obtain ⟨y117, hy117⟩ : ∃ y_ : List (S49), y_ = (([(⟨(⟨#[112, 104]⟩ : ByteArray), (⟨#[102]⟩ : ByteArray), 0⟩ : S49)] : List (S49))) := ⟨_, rfl⟩
  replace H : (some (y117, (([(⟨(⟨#[98, 111, 98]⟩ : ByteArray), (⟨#[114, 111, 98, 101, 114, 116]⟩ : ByteArray), 1, false⟩ : S40)] : List (S40))))) = some (r1, r2) := by first | (rw [hy117]; with_reducible exact H) | (have H2_ := (Option.bind_some _ _).symm.trans H; rw [hy117]; with_reducible exact H2_) | (have H2_ := (Option.bind_some _ _).symm.trans H; with_reducible exact H2_) | with_reducible exact H | (rw [hy117]; exact H) | exact H
  have Ny117 := Aside0.mk hy117
  clear hy117
  obtain ⟨y120, hy120⟩ : ∃ y_ : List (S40), y_ = (([(⟨(⟨#[98, 111, 98]⟩ : ByteArray), (⟨#[114, 111, 98, 101, 114, 116]⟩ : ByteArray), 1, false⟩ : S40)] : List (S40))) := ⟨_, rfl⟩
  replace H : (some (y117, y120)) = some (r1, r2) := by first | (rw [hy120]; with_reducible exact H) | (have H2_ := (Option.bind_some _ _).symm.trans H; rw [hy120]; with_reducible exact H2_) | (have H2_ := (Option.bind_some _ _).symm.trans H; with_reducible exact H2_) | with_reducible exact H | (rw [hy120]; exact H) | exact H
  have Ny120 := Aside0.mk hy120
  clear hy120
  simp only [Option.some.injEq, Prod.mk.injEq] at H
  obtain ⟨rfl, rfl⟩ := H
  go_enter Tryd.func61, Tryd.ntmps61
  go_wp2_with (first | ((with_reducible refine gate_dst (N := 0) rfl ?_); refine box_event ?hg (N := 0) ?hd (cs := #[.slice none 0 0, .slice none 0 0]) (t := 55) ?hr ?_; (case hd => rfl); (case hg => rfl); (case hr => first | (go_simp; done) | (go_simp; rfl)); intro gb116 hg w1 hbox hb; have n0_ := Aside0.mk (below_step (by repeat (first | (with_reducible first | exact HB.out | apply below_alloc | apply pw_below_drewN | apply below_drew1) | exact HB.out)) hb); have n1_ := Aside0.mk (hbox); have n2_ := Aside0.mk ((by rw [hg]; exact (below_size (by repeat (first | (with_reducible first | exact HB.out | apply below_alloc | apply pw_below_drewN | apply below_drew1) | exact HB.out))) : w.heap.size ≤ gb116)); have n3_ := Aside0.mk ((by rw [hg]; exact (below_size (by repeat (first | (with_reducible first | exact HB.out | apply below_alloc | apply pw_below_drewN | apply below_drew1) | exact HB.out))) : w.heap.size ≤ gb116)); clear HB; have HB := n0_; have BK116 := n1_; have GW116 := n2_; have GE116 := n3_; clear n0_ n1_ n2_ n3_; clear hb hbox hg) | ((with_reducible refine gate_dst (N := 2) rfl ?_); refine Kd.R_lit k49 _ 49 ?hg (N := 2) ?hd (xs := ([(⟨(⟨#[112, 104]⟩ : ByteArray), (⟨#[102]⟩ : ByteArray), 0⟩ : S49)] : List (S49))) (inner := [.string (⟨#[112, 104]⟩ : ByteArray), .string (⟨#[102]⟩ : ByteArray), .int .i64 0]) (ok := fun _ => True) (okp := fun _ => True) ?hr ?hp (fun _ hk => hk) trivial (Below.refl _ _) (Nat.le_refl _) (by simp) ?_; (case hd => rfl); (case hg => rfl); (case hr => first | (go_simp; done) | (go_simp; rfl)); (case hp => exact (Reps.c3 (show Kd.M k49 _ _ _ (⟨(⟨#[112, 104]⟩ : ByteArray), (⟨#[102]⟩ : ByteArray), 0⟩ : S49) [.string (⟨#[112, 104]⟩ : ByteArray), .string (⟨#[102]⟩ : ByteArray), .int .i64 0] from (k49_mkM _ _ _ (⟨(⟨#[112, 104]⟩ : ByteArray), (⟨#[102]⟩ : ByteArray), 0⟩ : S49) )) (Reps.none _ _))); intro v118 w2 ho3 hb hg_ hnew_; clear hg_ hnew_; (first | rw [← Ny117.out] at ho3 | (simp only [Int.reduceToNat] at ho3; rw [← Ny117.out] at ho3)); have n0_ := Aside0.mk (Kd.R_lower ho3 (below_size (by repeat (first | (with_reducible first | exact HB.out | apply below_alloc | apply pw_below_drewN | apply below_drew1 | refine below_set ?_ GE116.out) | exact HB.out)))); have n1_ := Aside0.mk (blk_below (g := gb116) (o := .cells #[.slice none 0 0, .slice none 0 0] 55 (0, 0)) (by (with_reducible repeat (first | refine blk_drewN ?_ _ | refine blk_drew ?_ | refine blk_alloc ?_ _)); exact BK116.out) hb); have n2_ := Aside0.mk (below_step (by repeat (first | (with_reducible first | exact HB.out | apply below_alloc | apply pw_below_drewN | apply below_drew1 | refine below_set ?_ GE116.out) | exact HB.out)) hb); clear BK116; clear HB; have HO119 := n0_; have BK116 := n1_; have HB := n2_; clear n0_ n1_ n2_; clear hb ho3) | ((with_reducible refine gate_dst (N := 4) rfl ?_); refine Kd.R_lit k40 _ 40 ?hg (N := 4) ?hd (xs := ([(⟨(⟨#[98, 111, 98]⟩ : ByteArray), (⟨#[114, 111, 98, 101, 114, 116]⟩ : ByteArray), 1, false⟩ : S40)] : List (S40))) (inner := [.string (⟨#[98, 111, 98]⟩ : ByteArray), .string (⟨#[114, 111, 98, 101, 114, 116]⟩ : ByteArray), .int .i64 1, .bool false]) (ok := fun _ => True) (okp := fun _ => True) ?hr ?hp (fun _ hk => hk) trivial (Below.refl _ _) (Nat.le_refl _) (by simp) ?_; (case hd => rfl); (case hg => rfl); (case hr => first | (go_simp; done) | (go_simp; rfl)); (case hp => exact (Reps.c4 (show Kd.M k40 _ _ _ (⟨(⟨#[98, 111, 98]⟩ : ByteArray), (⟨#[114, 111, 98, 101, 114, 116]⟩ : ByteArray), 1, false⟩ : S40) [.string (⟨#[98, 111, 98]⟩ : ByteArray), .string (⟨#[114, 111, 98, 101, 114, 116]⟩ : ByteArray), .int .i64 1, .bool false] from (k40_mkM _ _ _ (⟨(⟨#[98, 111, 98]⟩ : ByteArray), (⟨#[114, 111, 98, 101, 114, 116]⟩ : ByteArray), 1, false⟩ : S40) )) (Reps.none _ _))); intro v121 w4 ho5 hb hg_ hnew_; clear hg_ hnew_; (first | rw [← Ny120.out] at ho5 | (simp only [Int.reduceToNat] at ho5; rw [← Ny120.out] at ho5)); have n0_ := Aside0.mk (Kd.R_below (by (with_reducible repeat (first | apply Kd.R_alloc | apply Kd.R_drewN | apply Kd.R_drew)); exact HO119.out) hb); have n1_ := Aside0.mk (Kd.R_lower ho5 (below_size (by repeat (first | (with_reducible first | exact HB.out | apply below_alloc | apply pw_below_drewN | apply below_drew1 | refine below_set ?_ GE116.out) | exact HB.out)))); have n2_ := Aside0.mk (blk_below (g := gb116) (o := .cells #[.slice none 0 0, .slice none 0 0] 55 (0, 0)) (by (with_reducible repeat (first | refine blk_drewN ?_ _ | refine blk_drew ?_ | refine blk_alloc ?_ _)); exact BK116.out) hb); have n3_ := Aside0.mk (below_step (by repeat (first | (with_reducible first | exact HB.out | apply below_alloc | apply pw_below_drewN | apply below_drew1 | refine below_set ?_ GE116.out) | exact HB.out)) hb); clear HO119; clear BK116; clear HB; have HO119 := n0_; have HO122 := n1_; have BK116 := n2_; have HB := n3_; clear n0_ n1_ n2_ n3_; clear hb ho5; obtain ⟨Ao6, co6, eo6⟩ := Kd.R_slice HO122.out; subst eo6; obtain ⟨Ao7, co7, eo7⟩ := Kd.R_slice HO119.out; subst eo7; have hcz8_0 : w4.cell? ⟨gb116, 0, none⟩ = some (.slice none 0 0) := (blk_cell BK116.out 0).trans rfl; have hcz8_1 : w4.cell? ⟨gb116, 1, none⟩ = some (.slice none 0 0) := (blk_cell BK116.out 1).trans rfl; have hfz8_0 := blk_frozen BK116.out 0; have hfz8_1 := blk_frozen BK116.out 1))
  refine bodyPost_ret (results_cell_row rfl _ _ gb116 55 #[.slice Ao7 y117.length co7, .slice Ao6 y120.length co6] (0, 0) _ rfl (by (with_reducible repeat (first | refine blk_drewN ?_ _ | refine blk_drew ?_ | refine blk_alloc ?_ _)); refine blk_put (cs := #[.slice Ao7 y117.length co7, .slice none 0 0]) ?_ 1 _ rfl; (with_reducible repeat (first | refine blk_drewN ?_ _ | refine blk_drew ?_ | refine blk_alloc ?_ _)); refine blk_put (cs := #[.slice none 0 0, .slice none 0 0]) ?_ 0 _ rfl; (with_reducible repeat (first | refine blk_drewN ?_ _ | refine blk_drew ?_ | refine blk_alloc ?_ _)); exact BK116.out) Tryd.underlying55 rfl (by kernel_rfl)) rfl ?_
  exact ⟨_, _, by first | rfl | (simp [errW_none, errW_some] <;> rfl) | (simp [*, errW_none, errW_some] <;> rfl), by (with_reducible repeat (first | apply Kd.R_alloc | apply Kd.R_drewN | apply Kd.R_drew)); exact Kd.R_mono (Kd.R_far (p := ⟨gb116, 1, none⟩) (Kd.R_far (p := ⟨gb116, 0, none⟩) (Kd.R_types HO119.out BK116.out (by decide)) (fun _ hk => hk.2) (.slice Ao7 y117.length co7)) (fun _ hk => hk.2) (.slice Ao6 y120.length co6)) (fun _ hk => trivial), by (with_reducible repeat (first | apply Kd.R_alloc | apply Kd.R_drewN | apply Kd.R_drew)); exact Kd.R_mono (Kd.R_far (p := ⟨gb116, 1, none⟩) (Kd.R_far (p := ⟨gb116, 0, none⟩) (Kd.R_types HO122.out BK116.out (by decide)) (fun _ hk => hk.2) (.slice Ao7 y117.length co7)) (fun _ hk => hk.2) (.slice Ao6 y120.length co6)) (fun _ hk => trivial), by repeat (first | (with_reducible first | exact HB.out | apply below_alloc | apply pw_below_drewN | apply below_drew1 | refine below_set ?_ GE116.out) | exact HB.out)⟩

-- NOT PRINTED: function 35 (reportescrowlaw14_awake)

/-! ### reportescrowkit_Mod: function 51 -/
def reportescrowkit_Mod.f (a0 : Int) (a1 : Int) : Option (Int) := if a1 < 1 then (some 0) else (if a1 = 0 then (none) else (some (Int.tmod (wrap64 ((Int.tmod a0 a1) + a1)) a1)))
set_option maxHeartbeats 8000000 in
set_option maxRecDepth 100000 in
theorem reportescrowkit_Mod.calls (a0 : Int) (a1 : Int) (r : Int) (w : World) (h : reportescrowkit_Mod.f a0 a1 = some r) :
    Calls Tryd.prog 51 #[.int .i64 a0, .int .i64 a1] w fun e w' => e = .returned (.int .i64 r) ∧ Drawn0 w w' := by
  have H : (if a1 < 1 then (some 0) else (if a1 = 0 then (none) else (some (Int.tmod (wrap64 ((Int.tmod a0 a1) + a1)) a1)))) = some r := h
  clear h
  by_cases c3 : a1 < 1
  · rw [if_pos c3] at H
    have c3b0 : decide (a1 < 1) = true := decide_eq_true c3
    clear c3
    obtain rfl := Option.some.inj H
    go_enter Tryd.func51, Tryd.ntmps51
    go_wp2
    go_ret
    exact ⟨by first | rfl | (simp; done) | (simp [*]; done), by repeat (first | exact Drawn0.refl _ | apply Drawn0.step)⟩
  · rw [if_neg c3] at H
    have c3b0 : decide (a1 < 1) = false := decide_eq_false c3
    clear c3
    by_cases c4 : a1 = 0
    · rw [if_pos c4] at H
      exact absurd H (by simp)
    · rw [if_neg c4] at H
      have c4b0 : (a1 == 0) = false := beq_eq_false_iff_ne.mpr c4
      have c4b1 : (a1 != 0) = true := bne_iff_ne.mpr c4
      obtain rfl := Option.some.inj H
      go_enter Tryd.func51, Tryd.ntmps51
      go_wp2
      go_ret
      exact ⟨by first | rfl | (simp; done) | (simp [*]; done), by repeat (first | exact Drawn0.refl _ | apply Drawn0.step)⟩

/-! ### reportescrowkit_Dice_Next: function 25 -/
def reportescrowkit_Dice_Next.f (s0_0 : List Int) (s0_1 : Int) (a1 : Int) : Option (Int × Int) := if s0_1 ≥ (s0_0.length : Int) then (some (0, s0_1)) else (if 0 ≤ (wrap64 ((wrap64 (s0_1 + 1)) - 1)) then (if (wrap64 ((wrap64 (s0_1 + 1)) - 1)) < (s0_0.length : Int) then ((reportescrowkit_Mod.f (rd s0_0 (wrap64 ((wrap64 (s0_1 + 1)) - 1))) a1).bind fun t130 => (some (t130, wrap64 (s0_1 + 1)))) else (none)) else (none))
set_option maxHeartbeats 8000000 in
set_option maxRecDepth 100000 in
theorem reportescrowkit_Dice_Next.calls (g : Nat) (s0_0 : List Int) (s0_1 : Int) (a1 : Int) (r1 : Int) (r2 : Int) (w0 w : World) (hI : IsS80 w0 w g s0_0 s0_1) (hB : Below w0.heap.size w0 w) (h : reportescrowkit_Dice_Next.f s0_0 s0_1 a1 = some (r1, r2)) :
    Calls Tryd.prog 25 #[.pointer (some ⟨g, 0, none⟩), .int .i64 a1] w fun e w' => e = .returned (.int .i64 r1) ∧ IsS80 w0 w' g s0_0 r2 ∧ Below w0.heap.size w0 w' ∧ KeepBut w w' g none := by
  have HI0 := Aside0.mk hI
  have HK := Aside0.mk (KeepBut.refl w g none)
  have HL := Aside0.mk hB.size
  clear hI
  have HW0 := Aside0.mk hB.size
  have HB := Aside0.mk hB
  clear hB
  have H : (if s0_1 ≥ (s0_0.length : Int) then (some (0, s0_1)) else (if 0 ≤ (wrap64 ((wrap64 (s0_1 + 1)) - 1)) then (if (wrap64 ((wrap64 (s0_1 + 1)) - 1)) < (s0_0.length : Int) then ((reportescrowkit_Mod.f (rd s0_0 (wrap64 ((wrap64 (s0_1 + 1)) - 1))) a1).bind fun t130 => (some (t130, wrap64 (s0_1 + 1)))) else (none)) else (none))) = some (r1, r2) := h
  clear h
  by_cases c3 : s0_1 ≥ (s0_0.length : Int)
  · rw [if_pos c3] at H
    have c3b0 : decide ((s0_0.length : Int) ≤ s0_1) = true := decide_eq_true c3
    clear c3
    simp only [Option.some.injEq, Prod.mk.injEq] at H
    obtain ⟨rfl, rfl⟩ := H
    obtain ⟨ASz4_0, cSz4_0, HGz4, hgz4, HSz4_0⟩ := HI0.out
    have hcz4_0 := cellS80_0 HGz4
    have hcz4_1 := cellS80_1 HGz4
    have hfz4_1 := blk_frozen HGz4 1
    clear HGz4 hgz4
    go_enter Tryd.func25, Tryd.ntmps25
    go_wp2
    repeat (go_quiet (fail); try go_wp2)
    go_ret
    exact ⟨by first | rfl | (simp [errW_none, errW_some] <;> rfl) | (simp [*, errW_none, errW_some] <;> rfl), by repeat (first | (with_reducible first | exact HI0.out | apply IsS80.alloc | apply IsS80.drewN | apply IsS80.drew | apply IsS80.set_1) | exact HI0.out), by repeat (first | (with_reducible first | exact HB.out | apply below_alloc | apply pw_below_drewN | apply below_drew1 | refine below_set ?_ (IsS80.ge HI0.out)) | exact HB.out), by repeat (first | (with_reducible first | exact HK.out | apply KeepBut.set_ | apply keep_drewN | apply keep_drew | apply keep_alloc) | exact HK.out)⟩
  · rw [if_neg c3] at H
    have c3b0 : decide ((s0_0.length : Int) ≤ s0_1) = false := decide_eq_false c3
    clear c3
    obtain ⟨ji5, hji5⟩ : ∃ j_ : Int, (wrap64 ((wrap64 (s0_1 + 1)) - 1)) = j_ := ⟨_, rfl⟩
    replace H : (if 0 ≤ (ji5) then (if (ji5) < (s0_0.length : Int) then ((reportescrowkit_Mod.f (rd s0_0 (ji5)) a1).bind fun t130 => (some (t130, wrap64 (s0_1 + 1)))) else (none)) else (none)) = some (r1, r2) := by first | (rw [hji5] at H; exact H) | (simp only [hji5] at H ⊢; exact H)
    have hji5w : (IntKind.i64.wrap ((wrap64 (s0_1 + 1)) - 1)) = ji5 := (i64_w _).trans hji5
    by_cases c6 : 0 ≤ (ji5)
    · rw [if_pos c6] at H
      have c6b0 : decide (0 ≤ (ji5)) = true := decide_eq_true c6
      clear c6
      by_cases c7 : (ji5) < (s0_0.length : Int)
      · rw [if_pos c7] at H
        have c7b0 : decide ((ji5) < (s0_0.length : Int)) = true := decide_eq_true c7
        clear c7
        replace H := Option.bind_eq_some_iff.mp H
        obtain ⟨t130, A80, H⟩ := H
        replace H : (some (t130, wrap64 (s0_1 + 1))) = some (r1, r2) := H
        have A8 := Aside0.mk A80
        clear A80
        simp only [Option.some.injEq, Prod.mk.injEq] at H
        obtain ⟨rfl, rfl⟩ := H
        obtain ⟨ASz9_0, cSz9_0, HGz9, hgz9, HSz9_0⟩ := HI0.out
        have hcz9_0 := cellS80_0 HGz9
        have hcz9_1 := cellS80_1 HGz9
        have hfz9_1 := blk_frozen HGz9 1
        clear HGz9 hgz9
        have p129 : 0 ≤ ((ji5) : Int) := of_decide_eq_true (by first | (with_reducible assumption) | assumption)
        have q129 : (ji5) < (s0_0.length : Int) := of_decide_eq_true (by first | (with_reducible assumption) | assumption)
        obtain ⟨ad129, e129, hx129_0⟩ := Kd.at_int HSz9_0 (ji5) p129 q129
        cases e129
        have hn129_0 : ad129.block ≠ g := Nat.ne_of_lt (Nat.lt_of_lt_of_le (by have := World.block_lt_of_cell? _ _ hx129_0; first | rwa [add_block] at this | exact this) (IsS80.ge HI0.out))
        replace hx129_0 := pw_cell_below HB.out hx129_0
        replace hx129_0 := (cell_far (p := ⟨g, 1, none⟩) (by first | (rw [add_block]; exact hn129_0) | (show (Addr.add _ _).block ≠ _; rw [add_block]; exact hn129_0) | exact hn129_0) (.int .i64 (wrap64 (s0_1 + 1)))).trans hx129_0
        (try have hy129_0 := fun (n_ : Nat) => (show (((w.drewN n_).setCell ⟨g, 1, none⟩ (.int .i64 (wrap64 (s0_1 + 1))))).cell? _ = some _ from hx129_0))
        clear hn129_0
        replace p129 := eq_true p129
        replace q129 := eq_true q129
        go_enter Tryd.func25, Tryd.ntmps25
        go_wp2_with (first | (go_at_call 51; (with_reducible refine (reportescrowkit_Mod.calls (rd s0_0 (ji5)) a1 t130 _ A8.out).mono ?_); rintro e w' ⟨rfl, ⟨nd, rfl⟩⟩; (try first | exact ⟨rfl, _, World.drewN_drewN _ _ _⟩ | exact ⟨rfl, _, Eq.trans (World.drewN_drewN _ _ _) (congrArg (World.drewN _) (Nat.add_assoc _ _ _))⟩)))
        repeat (go_quiet (first | (go_at_call 51; (with_reducible refine (reportescrowkit_Mod.calls (rd s0_0 (ji5)) a1 t130 _ A8.out).mono ?_); rintro e w' ⟨rfl, ⟨nd, rfl⟩⟩; (try first | exact ⟨rfl, _, World.drewN_drewN _ _ _⟩ | exact ⟨rfl, _, Eq.trans (World.drewN_drewN _ _ _) (congrArg (World.drewN _) (Nat.add_assoc _ _ _))⟩))); try go_wp2_with (first | (go_at_call 51; (with_reducible refine (reportescrowkit_Mod.calls (rd s0_0 (ji5)) a1 t130 _ A8.out).mono ?_); rintro e w' ⟨rfl, ⟨nd, rfl⟩⟩; (try first | exact ⟨rfl, _, World.drewN_drewN _ _ _⟩ | exact ⟨rfl, _, Eq.trans (World.drewN_drewN _ _ _) (congrArg (World.drewN _) (Nat.add_assoc _ _ _))⟩))))
        go_ret
        exact ⟨by first | rfl | (simp [errW_none, errW_some] <;> rfl) | (simp only [← hji5]; first | rfl | (simp [errW_none, errW_some] <;> rfl)) | (simp [*, errW_none, errW_some] <;> rfl), by repeat (first | (with_reducible first | exact HI0.out | apply IsS80.alloc | apply IsS80.drewN | apply IsS80.drew | apply IsS80.set_1) | exact HI0.out), by repeat (first | (with_reducible first | exact HB.out | apply below_alloc | apply pw_below_drewN | apply below_drew1 | refine below_set ?_ (IsS80.ge HI0.out)) | exact HB.out), by repeat (first | (with_reducible first | exact HK.out | apply KeepBut.set_ | apply keep_drewN | apply keep_drew | apply keep_alloc) | exact HK.out)⟩
      · rw [if_neg c7] at H
        exact absurd H (by simp)
    · rw [if_neg c6] at H
      exact absurd H (by simp)

/-! ### reportescrowkit_Dice_Word: function 30 -/
def reportescrowkit_Dice_Word.f (s0_0 : List Int) (s0_1 : Int) (l1 : List ByteArray) : Option (ByteArray × Int) := (reportescrowkit_Dice_Next.f s0_0 s0_1 (l1.length : Int)).bind fun bt131 => (if 0 ≤ bt131.1 then (if bt131.1 < (l1.length : Int) then (some (rdOf ByteArray.empty l1 bt131.1, bt131.2)) else (none)) else (none))
set_option maxHeartbeats 8000000 in
set_option maxRecDepth 100000 in
theorem reportescrowkit_Dice_Word.calls (g : Nat) (s0_0 : List Int) (s0_1 : Int) (A1 : Option Addr) (c1 : Nat) (l1 : List ByteArray) (r1 : ByteArray) (r2 : Int) (w0 w : World) (hI : IsS80 w0 w g s0_0 s0_1) (hB : Below w0.heap.size w0 w) (hr1 : Kd.C Kd.string w A1 l1.length l1) (hc1 : l1.length ≤ c1) (hf1 : ∀ ad, A1 = some ad → 0 < l1.length → ad.block ≠ g) (h : reportescrowkit_Dice_Word.f s0_0 s0_1 l1 = some (r1, r2)) :
    Calls Tryd.prog 30 #[.pointer (some ⟨g, 0, none⟩), .slice A1 l1.length c1] w fun e w' => e = .returned (.string r1) ∧ IsS80 w0 w' g s0_0 r2 ∧ Below w0.heap.size w0 w' ∧ KeepBut w w' g none := by
  have HR1 := Aside0.mk hr1
  have HC1 := Aside0.mk hc1
  clear hr1 hc1
  have HI0 := Aside0.mk hI
  have HK := Aside0.mk (KeepBut.refl w g none)
  have HL := Aside0.mk hB.size
  clear hI
  have HW0 := Aside0.mk hB.size
  have HB := Aside0.mk hB
  clear hB
  have H : ((reportescrowkit_Dice_Next.f s0_0 s0_1 (l1.length : Int)).bind fun bt131 => (if 0 ≤ bt131.1 then (if bt131.1 < (l1.length : Int) then (some (rdOf ByteArray.empty l1 bt131.1, bt131.2)) else (none)) else (none))) = some (r1, r2) := h
  clear h
  replace H := Option.bind_eq_some_iff.mp H
  obtain ⟨⟨t131, t132⟩, A30, H⟩ := H
  replace H : (if 0 ≤ t131 then (if t131 < (l1.length : Int) then (some (rdOf ByteArray.empty l1 t131, t132)) else (none)) else (none)) = some (r1, r2) := H
  have A3 := Aside0.mk A30
  clear A30
  by_cases c4 : 0 ≤ t131
  · rw [if_pos c4] at H
    have c4b0 : decide (0 ≤ t131) = true := decide_eq_true c4
    clear c4
    by_cases c5 : t131 < (l1.length : Int)
    · rw [if_pos c5] at H
      have c5b0 : decide (t131 < (l1.length : Int)) = true := decide_eq_true c5
      clear c5
      simp only [Option.some.injEq, Prod.mk.injEq] at H
      obtain ⟨rfl, rfl⟩ := H
      go_enter Tryd.func30, Tryd.ntmps30
      go_wp2_with (first | ((with_reducible refine gate_callee (f := 25) rfl ?_); refine goesL_ (some 9) rfl rfl Tryd.func25 (by kernel_rfl) rfl #[.pointer (some ⟨g, 0, none⟩), .int .i64 (l1.length : Int)] rfl (by (try simp only [List.map_toArray, List.map_cons, List.map_nil]); first | done | rfl | (simp only [List.length_drop, List.length_take]; rfl)) ?_; (with_reducible refine (reportescrowkit_Dice_Next.calls g s0_0 s0_1 (l1.length : Int) t131 t132 w0 _ ?side1 ?side2 A3.out).mono ?_); (case side1 => repeat (first | (with_reducible first | exact HI0.out | apply IsS80.alloc | apply IsS80.drewN | apply IsS80.drew | apply IsS80.set_1) | exact HI0.out)); (case side2 => repeat (first | (with_reducible first | exact HB.out | apply below_alloc | apply pw_below_drewN | apply below_drew1 | refine below_set ?_ (IsS80.ge HI0.out)) | exact HB.out)); rintro e w6 ⟨rfl, hi, hb, hk⟩; refine ⟨_, rfl, ?_⟩; have n0_ := Aside0.mk (KeepBut.trans (by repeat (first | (with_reducible first | exact HK.out | apply KeepBut.set_ | apply keep_drewN | apply keep_drew | apply keep_alloc) | exact HK.out)) hk (.inl rfl)); have n1_ := Aside0.mk (hb); have n2_ := Aside0.mk (hi); clear HK; clear HB; clear HI0; have HK := n0_; have HB := n1_; have HI0 := n2_; clear n0_ n1_ n2_; (try clear hb); (try clear hb2); (try clear hk); (try clear hi); have p133 : 0 ≤ (t131 : Int) := of_decide_eq_true (by first | (with_reducible assumption) | assumption); have q133 : t131 < (l1.length : Int) := of_decide_eq_true (by first | (with_reducible assumption) | assumption); obtain ⟨ad133, e133, hx133_0⟩ := Kd.at_string HR1.out t131 p133 q133; cases e133; replace hx133_0 := keep_cell HK.out hx133_0 (by first | (rw [add_block]; exact hf1 _ rfl (by omega)) | exact hf1 _ rfl (by omega) | exact hf1 ad133 rfl (by omega)); replace p133 := eq_true p133; replace q133 := eq_true q133))
      go_ret
      exact ⟨by first | rfl | (simp [errW_none, errW_some] <;> rfl) | (simp [*, errW_none, errW_some] <;> rfl), by repeat (first | (with_reducible first | exact HI0.out | apply IsS80.alloc | apply IsS80.drewN | apply IsS80.drew | apply IsS80.set_1) | exact HI0.out), by repeat (first | (with_reducible first | exact HB.out | apply below_alloc | apply pw_below_drewN | apply below_drew1 | refine below_set ?_ (IsS80.ge HI0.out)) | exact HB.out), by repeat (first | (with_reducible first | exact HK.out | apply KeepBut.set_ | apply keep_drewN | apply keep_drew | apply keep_alloc) | exact HK.out)⟩
    · rw [if_neg c5] at H
      exact absurd H (by simp)
  · rw [if_neg c4] at H
    exact absurd H (by simp)

-- NOT PRINTED: function 52 (reportescrowkit_Aliases)

/-! ### reportescrowkit_Rules: function 62 -/
def reportescrowkit_Rules.l0 : Nat → List (S49) → Int → Int → List Int → Int → Option ((List (S49)) × Int)
  | 0, _, _, _, _, _ => none
  | k + 1, x3, x5, x6, x1000, x1001 => if x6 < x5 then ((some (([(⟨(⟨#[112, 104]⟩ : ByteArray), (⟨#[102]⟩ : ByteArray), 0⟩ : S49), (⟨(⟨#[106, 114]⟩ : ByteArray), (⟨#[]⟩ : ByteArray), 3⟩ : S49), (⟨(⟨#[100, 114, 32]⟩ : ByteArray), (⟨#[]⟩ : ByteArray), 1⟩ : S49), (⟨(⟨#[97, 97]⟩ : ByteArray), (⟨#[97]⟩ : ByteArray), 0⟩ : S49), (⟨(⟨#[109, 117, 101, 108, 108, 101, 114]⟩ : ByteArray), (⟨#[109, 117, 108, 108, 101, 114]⟩ : ByteArray), 2⟩ : S49), (⟨(⟨#[122]⟩ : ByteArray), (⟨#[115]⟩ : ByteArray), 0⟩ : S49), (⟨(⟨#[97, 98]⟩ : ByteArray), (⟨#[98]⟩ : ByteArray), 0⟩ : S49), (⟨(⟨#[97, 32, 98]⟩ : ByteArray), (⟨#[99]⟩ : ByteArray), 0⟩ : S49), (⟨(⟨#[]⟩ : ByteArray), (⟨#[]⟩ : ByteArray), 0⟩ : S49), (⟨(⟨#[97]⟩ : ByteArray), (⟨#[97, 97]⟩ : ByteArray), 0⟩ : S49), (⟨(⟨#[65]⟩ : ByteArray), (⟨#[]⟩ : ByteArray), 0⟩ : S49), (⟨(⟨#[102]⟩ : ByteArray), (⟨#[112, 104]⟩ : ByteArray), 4⟩ : S49)] : List (S49)) : List (S49))).bind fun y156 => ((reportescrowkit_Dice_Next.f x1000 x1001 2).bind fun bt159 => ((reportescrowkit_Dice_Next.f x1000 bt159.2 (wrap64 (8 + (wrap64 (bt159.1 * 4))))).bind fun bt161 => (if 0 ≤ bt161.1 then (if bt161.1 < (y156.length : Int) then (if x3.length < 3518437208883 then (reportescrowkit_Rules.l0 k (x3 ++ [(⟨(rd_T49 y156 bt161.1).f0, (rd_T49 y156 bt161.1).f1, (rd_T49 y156 bt161.1).f2⟩ : S49)]) x5 (wrap64 (x6 + 1)) x1000 bt161.2) else (none)) else (none)) else (none))))) else (some (x3, x1001))
def reportescrowkit_Rules.f (k : Nat) (s0_0 : List Int) (s0_1 : Int) : Option ((List (S49)) × Int) := (reportescrowkit_Dice_Next.f s0_0 s0_1 4).bind fun bt154 => (reportescrowkit_Rules.l0 k ([] : List (S49)) bt154.1 0 s0_0 bt154.2)
theorem reportescrowkit_Rules.mono_l : ∀ k, (∀ y0 y1 y2 y3 y4, LeO (reportescrowkit_Rules.l0 k y0 y1 y2 y3 y4) (reportescrowkit_Rules.l0 (k + 1) y0 y1 y2 y3 y4))
  | 0 => fun _ _ _ _ _ r h => by simp [reportescrowkit_Rules.l0] at h
  | k + 1 => by
    have ih0 := reportescrowkit_Rules.mono_l k
    · intro y0 y1 y2 y3 y4
      unfold reportescrowkit_Rules.l0
      repeat' first
      | (with_reducible exact ih0 _ _ _ _ _)
      | (with_reducible exact LeO.refl _)
      | (with_reducible exact LeO.none _)
      | (with_reducible refine LeO.ite ?_ ?_)
      | (with_reducible refine LeO.bind ?_ (fun _ => ?_))
      | exact ih0 _ _ _ _ _
      | exact LeO.none _
      | refine LeO.ite ?_ ?_
      | refine LeO.bind ?_ (fun _ => ?_)
theorem reportescrowkit_Rules.mono : ∀ a0 a1 k, LeO (reportescrowkit_Rules.f k a0 a1) (reportescrowkit_Rules.f (k + 1) a0 a1) := by
  intro a0 a1 k
  have ih0 := reportescrowkit_Rules.mono_l k
  unfold reportescrowkit_Rules.f
  repeat' first
      | (with_reducible exact ih0 _ _ _ _ _)
      | (with_reducible exact LeO.refl _)
      | (with_reducible exact LeO.none _)
      | (with_reducible refine LeO.ite ?_ ?_)
      | (with_reducible refine LeO.bind ?_ (fun _ => ?_))
      | exact ih0 _ _ _ _ _
      | exact LeO.none _
      | refine LeO.ite ?_ ?_
      | refine LeO.bind ?_ (fun _ => ?_)
set_option maxHeartbeats 8000000 in
set_option maxRecDepth 100000 in
theorem reportescrowkit_Rules.calls (k : Nat) (g : Nat) (s0_0 : List Int) (s0_1 : Int) (r1 : List (S49)) (r2 : Int) (w0 w : World) (hI : IsS80 w0 w g s0_0 s0_1) (hB : Below w0.heap.size w0 w) (h : reportescrowkit_Rules.f k s0_0 s0_1 = some (r1, r2)) :
    Calls Tryd.prog 62 #[.pointer (some ⟨g, 0, none⟩)] w fun e w' => ∃ v0_ : Value, e = .returned (v0_) ∧ Kd.R k49 49 w' w.heap.size (fun _ => True) v0_ r1 ∧ IsS80 w0 w' g s0_0 r2 ∧ Below w0.heap.size w0 w' ∧ KeepBut w w' g none := by
  have hu49 := Tryd.underlying49
  have HI0 := Aside0.mk hI
  have HK := Aside0.mk (KeepBut.refl w g none)
  have HL := Aside0.mk hB.size
  clear hI
  have HW0 := Aside0.mk hB.size
  have HB := Aside0.mk hB
  clear hB
  have H : ((reportescrowkit_Dice_Next.f s0_0 s0_1 4).bind fun bt154 => (reportescrowkit_Rules.l0 k ([] : List (S49)) bt154.1 0 s0_0 bt154.2)) = some (r1, r2) := h
  clear h
  replace H := Option.bind_eq_some_iff.mp H
  obtain ⟨⟨t154, t155⟩, A20, H⟩ := H
  replace H : (reportescrowkit_Rules.l0 k ([] : List (S49)) t154 0 s0_0 t155) = some (r1, r2) := H
  have A2 := Aside0.mk A20
  clear A20
  have H' := Aside0.mk H
  clear H
  go_enter Tryd.func62, Tryd.ntmps62
  go_wp2_with (first | ((with_reducible refine gate_callee (f := 25) rfl ?_); refine goesL_ (some 5) rfl rfl Tryd.func25 (by kernel_rfl) rfl #[.pointer (some ⟨g, 0, none⟩), .int .i64 4] rfl (by (try simp only [List.map_toArray, List.map_cons, List.map_nil]); first | done | rfl | (simp only [List.length_drop, List.length_take]; rfl)) ?_; (with_reducible refine (reportescrowkit_Dice_Next.calls g s0_0 s0_1 4 t154 t155 w0 _ ?side1 ?side2 A2.out).mono ?_); (case side1 => repeat (first | (with_reducible first | exact HI0.out | apply IsS80.alloc | apply IsS80.drewN | apply IsS80.drew | apply IsS80.set_1) | exact HI0.out)); (case side2 => repeat (first | (with_reducible first | exact HB.out | apply below_alloc | apply pw_below_drewN | apply below_drew1 | refine below_set ?_ (IsS80.ge HI0.out)) | exact HB.out)); rintro e w3 ⟨rfl, hi, hb, hk⟩; refine ⟨_, rfl, ?_⟩; have n0_ := Aside0.mk (KeepBut.trans (by repeat (first | (with_reducible first | exact HK.out | apply KeepBut.set_ | apply keep_drewN | apply keep_drew | apply keep_alloc) | exact HK.out)) hk (.inl rfl)); have n1_ := Aside0.mk (hb); have n2_ := Aside0.mk (hi); clear HK; clear HB; clear HI0; have HK := n0_; have HB := n1_; have HI0 := n2_; clear n0_ n1_ n2_; (try clear hb); (try clear hb2); (try clear hk); (try clear hi)))
  go_loopg [3, 6] k (fun kq v3 v6 w' => ∃ (x3_1 : List (S49)) (x6_1 : Int) (x1001_1 : Int), v6 = .int .i64 x6_1 ∧ Aside0 (reportescrowkit_Rules.l0 kq x3_1 t154 x6_1 s0_0 x1001_1 = some (r1, r2)) ∧ Aside0 (kq ≤ k) ∧ Aside0 (Kd.R k49 49 w' w.heap.size (fun _ => True) v3 x3_1) ∧ Aside0 (IsS80 w0 w' g s0_0 x1001_1) ∧ Aside0 (KeepBut w w' g none) ∧ Aside0 (Below w0.heap.size w0 w'))
  case atStart => exact ⟨(([] : List (S49))), (0), (t155), (by first | rfl | (simp; done) | (simp [*]; done)), H', ⟨Nat.le_refl _⟩, ⟨by first | exact Kd.R_nil _ _ _ _ _ | exact Kd.N_nil _ _ _ _ _ | exact Kd.V_nil _ _ _ _ _ | exact Kd.Q_nil _ _ _ _ _ | exact Kd.S_nil _ _ _ _ _⟩, ⟨by repeat (first | (with_reducible first | exact HI0.out | apply IsS80.alloc | apply IsS80.drewN | apply IsS80.drew | apply IsS80.set_1) | exact HI0.out)⟩, ⟨by repeat (first | (with_reducible first | exact HK.out | apply KeepBut.set_ | apply keep_drewN | apply keep_drew | apply keep_alloc) | exact HK.out)⟩, ⟨by repeat (first | (with_reducible first | exact HB.out | apply below_alloc | apply pw_below_drewN | apply below_drew1 | refine below_set ?_ (IsS80.ge HI0.out)) | exact HB.out)⟩⟩
  case round =>
    clear H'
    try clear c2
    try clear p2
    obtain ⟨x3_1, x6_1, x1001_1, rfl, HA, HK1, HO_3, HI0, HK, HB⟩ := hrel
    cases gk with
    | zero => exact absurd HA.out (by simp [reportescrowkit_Rules.l0])
    | succ k1 =>
      have H := HA.out
      clear HA
      simp only [reportescrowkit_Rules.l0] at H
      by_cases c4 : x6_1 < t154
      · rw [if_pos c4] at H
        have c4b0 : decide (x6_1 < t154) = true := decide_eq_true c4
        clear c4
        obtain ⟨y156, hy156⟩ : ∃ y_ : List (S49), y_ = (([(⟨(⟨#[112, 104]⟩ : ByteArray), (⟨#[102]⟩ : ByteArray), 0⟩ : S49), (⟨(⟨#[106, 114]⟩ : ByteArray), (⟨#[]⟩ : ByteArray), 3⟩ : S49), (⟨(⟨#[100, 114, 32]⟩ : ByteArray), (⟨#[]⟩ : ByteArray), 1⟩ : S49), (⟨(⟨#[97, 97]⟩ : ByteArray), (⟨#[97]⟩ : ByteArray), 0⟩ : S49), (⟨(⟨#[109, 117, 101, 108, 108, 101, 114]⟩ : ByteArray), (⟨#[109, 117, 108, 108, 101, 114]⟩ : ByteArray), 2⟩ : S49), (⟨(⟨#[122]⟩ : ByteArray), (⟨#[115]⟩ : ByteArray), 0⟩ : S49), (⟨(⟨#[97, 98]⟩ : ByteArray), (⟨#[98]⟩ : ByteArray), 0⟩ : S49), (⟨(⟨#[97, 32, 98]⟩ : ByteArray), (⟨#[99]⟩ : ByteArray), 0⟩ : S49), (⟨(⟨#[]⟩ : ByteArray), (⟨#[]⟩ : ByteArray), 0⟩ : S49), (⟨(⟨#[97]⟩ : ByteArray), (⟨#[97, 97]⟩ : ByteArray), 0⟩ : S49), (⟨(⟨#[65]⟩ : ByteArray), (⟨#[]⟩ : ByteArray), 0⟩ : S49), (⟨(⟨#[102]⟩ : ByteArray), (⟨#[112, 104]⟩ : ByteArray), 4⟩ : S49)] : List (S49))) := ⟨_, rfl⟩
        replace H : ((reportescrowkit_Dice_Next.f s0_0 x1001_1 2).bind fun bt159 => ((reportescrowkit_Dice_Next.f s0_0 bt159.2 (wrap64 (8 + (wrap64 (bt159.1 * 4))))).bind fun bt161 => (if 0 ≤ bt161.1 then (if bt161.1 < (y156.length : Int) then (if x3_1.length < 3518437208883 then (reportescrowkit_Rules.l0 k1 (x3_1 ++ [(⟨(rd_T49 y156 bt161.1).f0, (rd_T49 y156 bt161.1).f1, (rd_T49 y156 bt161.1).f2⟩ : S49)]) t154 (wrap64 (x6_1 + 1)) s0_0 bt161.2) else (none)) else (none)) else (none)))) = some (r1, r2) := by first | (rw [hy156]; with_reducible exact H) | (have H2_ := (Option.bind_some _ _).symm.trans H; rw [hy156]; with_reducible exact H2_) | (have H2_ := (Option.bind_some _ _).symm.trans H; with_reducible exact H2_) | with_reducible exact H | (rw [hy156]; exact H) | exact H
        have Ny156 := Aside0.mk hy156
        clear hy156
        replace H := Option.bind_eq_some_iff.mp H
        obtain ⟨⟨t159, t160⟩, A50, H⟩ := H
        replace H : ((reportescrowkit_Dice_Next.f s0_0 t160 (wrap64 (8 + (wrap64 (t159 * 4))))).bind fun bt161 => (if 0 ≤ bt161.1 then (if bt161.1 < (y156.length : Int) then (if x3_1.length < 3518437208883 then (reportescrowkit_Rules.l0 k1 (x3_1 ++ [(⟨(rd_T49 y156 bt161.1).f0, (rd_T49 y156 bt161.1).f1, (rd_T49 y156 bt161.1).f2⟩ : S49)]) t154 (wrap64 (x6_1 + 1)) s0_0 bt161.2) else (none)) else (none)) else (none))) = some (r1, r2) := H
        have A5 := Aside0.mk A50
        clear A50
        replace H := Option.bind_eq_some_iff.mp H
        obtain ⟨⟨t161, t162⟩, A60, H⟩ := H
        replace H : (if 0 ≤ t161 then (if t161 < (y156.length : Int) then (if x3_1.length < 3518437208883 then (reportescrowkit_Rules.l0 k1 (x3_1 ++ [(⟨(rd_T49 y156 t161).f0, (rd_T49 y156 t161).f1, (rd_T49 y156 t161).f2⟩ : S49)]) t154 (wrap64 (x6_1 + 1)) s0_0 t162) else (none)) else (none)) else (none)) = some (r1, r2) := H
        have A6 := Aside0.mk A60
        clear A60
        by_cases c7 : 0 ≤ t161
        · rw [if_pos c7] at H
          have c7b0 : decide (0 ≤ t161) = true := decide_eq_true c7
          clear c7
          by_cases c8 : t161 < (y156.length : Int)
          · rw [if_pos c8] at H
            have c8b0 : decide (t161 < (y156.length : Int)) = true := decide_eq_true c8
            clear c8
            by_cases c9 : x3_1.length < 3518437208883
            · rw [if_pos c9] at H
              have LMc9 := Aside0.mk c9
              clear c9
              obtain ⟨y164, hy164⟩ : ∃ y_ : List (S49), y_ = (x3_1 ++ [(⟨(rd_T49 y156 t161).f0, (rd_T49 y156 t161).f1, (rd_T49 y156 t161).f2⟩ : S49)]) := ⟨_, rfl⟩
              replace H : (reportescrowkit_Rules.l0 k1 y164 t154 (wrap64 (x6_1 + 1)) s0_0 t162) = some (r1, r2) := by first | (rw [hy164]; with_reducible exact H) | (have H2_ := (Option.bind_some _ _).symm.trans H; rw [hy164]; with_reducible exact H2_) | (have H2_ := (Option.bind_some _ _).symm.trans H; with_reducible exact H2_) | with_reducible exact H | (rw [hy164]; exact H) | exact H
              have Ny164 := Aside0.mk hy164
              clear hy164
              have H' := Aside0.mk H
              clear H
              go_wp2_with (first | ((with_reducible refine gate_dst (N := 21) rfl ?_); refine Kd.R_lit k49 _ 49 ?hg (N := 21) ?hd (xs := ([(⟨(⟨#[112, 104]⟩ : ByteArray), (⟨#[102]⟩ : ByteArray), 0⟩ : S49), (⟨(⟨#[106, 114]⟩ : ByteArray), (⟨#[]⟩ : ByteArray), 3⟩ : S49), (⟨(⟨#[100, 114, 32]⟩ : ByteArray), (⟨#[]⟩ : ByteArray), 1⟩ : S49), (⟨(⟨#[97, 97]⟩ : ByteArray), (⟨#[97]⟩ : ByteArray), 0⟩ : S49), (⟨(⟨#[109, 117, 101, 108, 108, 101, 114]⟩ : ByteArray), (⟨#[109, 117, 108, 108, 101, 114]⟩ : ByteArray), 2⟩ : S49), (⟨(⟨#[122]⟩ : ByteArray), (⟨#[115]⟩ : ByteArray), 0⟩ : S49), (⟨(⟨#[97, 98]⟩ : ByteArray), (⟨#[98]⟩ : ByteArray), 0⟩ : S49), (⟨(⟨#[97, 32, 98]⟩ : ByteArray), (⟨#[99]⟩ : ByteArray), 0⟩ : S49), (⟨(⟨#[]⟩ : ByteArray), (⟨#[]⟩ : ByteArray), 0⟩ : S49), (⟨(⟨#[97]⟩ : ByteArray), (⟨#[97, 97]⟩ : ByteArray), 0⟩ : S49), (⟨(⟨#[65]⟩ : ByteArray), (⟨#[]⟩ : ByteArray), 0⟩ : S49), (⟨(⟨#[102]⟩ : ByteArray), (⟨#[112, 104]⟩ : ByteArray), 4⟩ : S49)] : List (S49))) (inner := [.string (⟨#[112, 104]⟩ : ByteArray), .string (⟨#[102]⟩ : ByteArray), .int .i64 0, .string (⟨#[106, 114]⟩ : ByteArray), .string (⟨#[]⟩ : ByteArray), .int .i64 3, .string (⟨#[100, 114, 32]⟩ : ByteArray), .string (⟨#[]⟩ : ByteArray), .int .i64 1, .string (⟨#[97, 97]⟩ : ByteArray), .string (⟨#[97]⟩ : ByteArray), .int .i64 0, .string (⟨#[109, 117, 101, 108, 108, 101, 114]⟩ : ByteArray), .string (⟨#[109, 117, 108, 108, 101, 114]⟩ : ByteArray), .int .i64 2, .string (⟨#[122]⟩ : ByteArray), .string (⟨#[115]⟩ : ByteArray), .int .i64 0, .string (⟨#[97, 98]⟩ : ByteArray), .string (⟨#[98]⟩ : ByteArray), .int .i64 0, .string (⟨#[97, 32, 98]⟩ : ByteArray), .string (⟨#[99]⟩ : ByteArray), .int .i64 0, .string (⟨#[]⟩ : ByteArray), .string (⟨#[]⟩ : ByteArray), .int .i64 0, .string (⟨#[97]⟩ : ByteArray), .string (⟨#[97, 97]⟩ : ByteArray), .int .i64 0, .string (⟨#[65]⟩ : ByteArray), .string (⟨#[]⟩ : ByteArray), .int .i64 0, .string (⟨#[102]⟩ : ByteArray), .string (⟨#[112, 104]⟩ : ByteArray), .int .i64 4]) (ok := fun _ => True) (okp := fun _ => True) ?hr ?hp (fun _ hk => hk) trivial (Below.refl _ _) (Nat.le_refl _) (by simp) ?_; (case hd => rfl); (case hg => rfl); (case hr => first | (go_simp; done) | (go_simp; rfl)); (case hp => exact (Reps.c3 (show Kd.M k49 _ _ _ (⟨(⟨#[112, 104]⟩ : ByteArray), (⟨#[102]⟩ : ByteArray), 0⟩ : S49) [.string (⟨#[112, 104]⟩ : ByteArray), .string (⟨#[102]⟩ : ByteArray), .int .i64 0] from (k49_mkM _ _ _ (⟨(⟨#[112, 104]⟩ : ByteArray), (⟨#[102]⟩ : ByteArray), 0⟩ : S49) )) (Reps.c3 (show Kd.M k49 _ _ _ (⟨(⟨#[106, 114]⟩ : ByteArray), (⟨#[]⟩ : ByteArray), 3⟩ : S49) [.string (⟨#[106, 114]⟩ : ByteArray), .string (⟨#[]⟩ : ByteArray), .int .i64 3] from (k49_mkM _ _ _ (⟨(⟨#[106, 114]⟩ : ByteArray), (⟨#[]⟩ : ByteArray), 3⟩ : S49) )) (Reps.c3 (show Kd.M k49 _ _ _ (⟨(⟨#[100, 114, 32]⟩ : ByteArray), (⟨#[]⟩ : ByteArray), 1⟩ : S49) [.string (⟨#[100, 114, 32]⟩ : ByteArray), .string (⟨#[]⟩ : ByteArray), .int .i64 1] from (k49_mkM _ _ _ (⟨(⟨#[100, 114, 32]⟩ : ByteArray), (⟨#[]⟩ : ByteArray), 1⟩ : S49) )) (Reps.c3 (show Kd.M k49 _ _ _ (⟨(⟨#[97, 97]⟩ : ByteArray), (⟨#[97]⟩ : ByteArray), 0⟩ : S49) [.string (⟨#[97, 97]⟩ : ByteArray), .string (⟨#[97]⟩ : ByteArray), .int .i64 0] from (k49_mkM _ _ _ (⟨(⟨#[97, 97]⟩ : ByteArray), (⟨#[97]⟩ : ByteArray), 0⟩ : S49) )) (Reps.c3 (show Kd.M k49 _ _ _ (⟨(⟨#[109, 117, 101, 108, 108, 101, 114]⟩ : ByteArray), (⟨#[109, 117, 108, 108, 101, 114]⟩ : ByteArray), 2⟩ : S49) [.string (⟨#[109, 117, 101, 108, 108, 101, 114]⟩ : ByteArray), .string (⟨#[109, 117, 108, 108, 101, 114]⟩ : ByteArray), .int .i64 2] from (k49_mkM _ _ _ (⟨(⟨#[109, 117, 101, 108, 108, 101, 114]⟩ : ByteArray), (⟨#[109, 117, 108, 108, 101, 114]⟩ : ByteArray), 2⟩ : S49) )) (Reps.c3 (show Kd.M k49 _ _ _ (⟨(⟨#[122]⟩ : ByteArray), (⟨#[115]⟩ : ByteArray), 0⟩ : S49) [.string (⟨#[122]⟩ : ByteArray), .string (⟨#[115]⟩ : ByteArray), .int .i64 0] from (k49_mkM _ _ _ (⟨(⟨#[122]⟩ : ByteArray), (⟨#[115]⟩ : ByteArray), 0⟩ : S49) )) (Reps.c3 (show Kd.M k49 _ _ _ (⟨(⟨#[97, 98]⟩ : ByteArray), (⟨#[98]⟩ : ByteArray), 0⟩ : S49) [.string (⟨#[97, 98]⟩ : ByteArray), .string (⟨#[98]⟩ : ByteArray), .int .i64 0] from (k49_mkM _ _ _ (⟨(⟨#[97, 98]⟩ : ByteArray), (⟨#[98]⟩ : ByteArray), 0⟩ : S49) )) (Reps.c3 (show Kd.M k49 _ _ _ (⟨(⟨#[97, 32, 98]⟩ : ByteArray), (⟨#[99]⟩ : ByteArray), 0⟩ : S49) [.string (⟨#[97, 32, 98]⟩ : ByteArray), .string (⟨#[99]⟩ : ByteArray), .int .i64 0] from (k49_mkM _ _ _ (⟨(⟨#[97, 32, 98]⟩ : ByteArray), (⟨#[99]⟩ : ByteArray), 0⟩ : S49) )) (Reps.c3 (show Kd.M k49 _ _ _ (⟨(⟨#[]⟩ : ByteArray), (⟨#[]⟩ : ByteArray), 0⟩ : S49) [.string (⟨#[]⟩ : ByteArray), .string (⟨#[]⟩ : ByteArray), .int .i64 0] from (k49_mkM _ _ _ (⟨(⟨#[]⟩ : ByteArray), (⟨#[]⟩ : ByteArray), 0⟩ : S49) )) (Reps.c3 (show Kd.M k49 _ _ _ (⟨(⟨#[97]⟩ : ByteArray), (⟨#[97, 97]⟩ : ByteArray), 0⟩ : S49) [.string (⟨#[97]⟩ : ByteArray), .string (⟨#[97, 97]⟩ : ByteArray), .int .i64 0] from (k49_mkM _ _ _ (⟨(⟨#[97]⟩ : ByteArray), (⟨#[97, 97]⟩ : ByteArray), 0⟩ : S49) )) (Reps.c3 (show Kd.M k49 _ _ _ (⟨(⟨#[65]⟩ : ByteArray), (⟨#[]⟩ : ByteArray), 0⟩ : S49) [.string (⟨#[65]⟩ : ByteArray), .string (⟨#[]⟩ : ByteArray), .int .i64 0] from (k49_mkM _ _ _ (⟨(⟨#[65]⟩ : ByteArray), (⟨#[]⟩ : ByteArray), 0⟩ : S49) )) (Reps.c3 (show Kd.M k49 _ _ _ (⟨(⟨#[102]⟩ : ByteArray), (⟨#[112, 104]⟩ : ByteArray), 4⟩ : S49) [.string (⟨#[102]⟩ : ByteArray), .string (⟨#[112, 104]⟩ : ByteArray), .int .i64 4] from (k49_mkM _ _ _ (⟨(⟨#[102]⟩ : ByteArray), (⟨#[112, 104]⟩ : ByteArray), 4⟩ : S49) )) (Reps.none _ _)))))))))))))); intro v157 w10 ho11 hb hg_ hnew_; clear hg_ hnew_; (first | rw [← Ny156.out] at ho11 | (simp only [Int.reduceToNat] at ho11; rw [← Ny156.out] at ho11)); have n0_ := Aside0.mk (Kd.R_elder' (by (with_reducible repeat (first | apply Kd.R_alloc | apply Kd.R_drewN | apply Kd.R_drew)); exact HO_3.out) (Kd.R_base ho11) hb); have n1_ := Aside0.mk (Kd.R_lower (Kd.R_new' ho11 (Kd.R_lt (by (with_reducible repeat (first | apply Kd.R_alloc | apply Kd.R_drewN | apply Kd.R_drew)); exact HO_3.out))) (keep_size (w := w) (g := g) (row := none) (by repeat (first | (with_reducible first | exact HK.out | apply KeepBut.set_ | apply keep_drewN | apply keep_drew | apply keep_alloc) | exact HK.out)))); have n2_ := Aside0.mk (IsS80.below (by repeat (first | (with_reducible first | exact HI0.out | apply IsS80.alloc | apply IsS80.drewN | apply IsS80.drew | apply IsS80.set_1) | exact HI0.out)) hb); have n3_ := Aside0.mk (KeepBut.trans (by repeat (first | (with_reducible first | exact HK.out | apply KeepBut.set_ | apply keep_drewN | apply keep_drew | apply keep_alloc) | exact HK.out)) (KeepBut.of_below hb g none) (.inl rfl)); have n4_ := Aside0.mk (below_step (by repeat (first | (with_reducible first | exact HB.out | apply below_alloc | apply pw_below_drewN | apply below_drew1 | refine below_set ?_ (IsS80.ge HI0.out)) | exact HB.out)) hb); clear HO_3; clear HI0; clear HK; clear HB; have HO_3 := n0_; have HO158 := n1_; have HI0 := n2_; have HK := n3_; have HB := n4_; clear n0_ n1_ n2_ n3_ n4_; clear hb ho11) | ((with_reducible refine gate_callee (f := 25) rfl ?_); refine goesL_ (some 24) rfl rfl Tryd.func25 (by kernel_rfl) rfl #[.pointer (some ⟨g, 0, none⟩), .int .i64 2] rfl (by (try simp only [List.map_toArray, List.map_cons, List.map_nil]); first | done | rfl | (simp only [List.length_drop, List.length_take]; rfl)) ?_; (with_reducible refine (reportescrowkit_Dice_Next.calls g s0_0 x1001_1 2 t159 t160 w0 _ ?side1 ?side2 A5.out).mono ?_); (case side1 => repeat (first | (with_reducible first | exact HI0.out | apply IsS80.alloc | apply IsS80.drewN | apply IsS80.drew | apply IsS80.set_1) | exact HI0.out)); (case side2 => repeat (first | (with_reducible first | exact HB.out | apply below_alloc | apply pw_below_drewN | apply below_drew1 | refine below_set ?_ (IsS80.ge HI0.out)) | exact HB.out)); rintro e w12 ⟨rfl, hi, hb, hk⟩; refine ⟨_, rfl, ?_⟩; have n0_ := Aside0.mk (Kd.R_mono (Kd.R_keep (IsS80.apart (show IsS80 w0 _ g s0_0 x1001_1 from by repeat (first | (with_reducible first | exact HI0.out | apply IsS80.alloc | apply IsS80.drewN | apply IsS80.drew | apply IsS80.set_1) | exact HI0.out)) (by (with_reducible repeat (first | apply Kd.R_alloc | apply Kd.R_drewN | apply Kd.R_drew)); exact HO_3.out) (by decide)) hk (fun _ h => h.2)) (fun _ h => h.1)); have n1_ := Aside0.mk (Kd.R_mono (Kd.R_keep (IsS80.apart (show IsS80 w0 _ g s0_0 x1001_1 from by repeat (first | (with_reducible first | exact HI0.out | apply IsS80.alloc | apply IsS80.drewN | apply IsS80.drew | apply IsS80.set_1) | exact HI0.out)) (by (with_reducible repeat (first | apply Kd.R_alloc | apply Kd.R_drewN | apply Kd.R_drew)); exact HO158.out) (by decide)) hk (fun _ h => h.2)) (fun _ h => h.1)); have n2_ := Aside0.mk (KeepBut.trans (by repeat (first | (with_reducible first | exact HK.out | apply KeepBut.set_ | apply keep_drewN | apply keep_drew | apply keep_alloc) | exact HK.out)) hk (.inl rfl)); have n3_ := Aside0.mk (hb); have n4_ := Aside0.mk (hi); clear HO_3; clear HO158; clear HK; clear HB; clear HI0; have HO_3 := n0_; have HO158 := n1_; have HK := n2_; have HB := n3_; have HI0 := n4_; clear n0_ n1_ n2_ n3_ n4_; (try clear hb); (try clear hb2); (try clear hk); (try clear hi)) | ((with_reducible refine gate_callee (f := 25) rfl ?_); refine goesL_ (some 27) rfl rfl Tryd.func25 (by kernel_rfl) rfl #[.pointer (some ⟨g, 0, none⟩), .int .i64 (wrap64 (8 + (wrap64 (t159 * 4))))] rfl (by (try simp only [List.map_toArray, List.map_cons, List.map_nil]); first | done | rfl | (simp only [List.length_drop, List.length_take]; rfl)) ?_; (with_reducible refine (reportescrowkit_Dice_Next.calls g s0_0 t160 (wrap64 (8 + (wrap64 (t159 * 4)))) t161 t162 w0 _ ?side1 ?side2 A6.out).mono ?_); (case side1 => repeat (first | (with_reducible first | exact HI0.out | apply IsS80.alloc | apply IsS80.drewN | apply IsS80.drew | apply IsS80.set_1) | exact HI0.out)); (case side2 => repeat (first | (with_reducible first | exact HB.out | apply below_alloc | apply pw_below_drewN | apply below_drew1 | refine below_set ?_ (IsS80.ge HI0.out)) | exact HB.out)); rintro e w13 ⟨rfl, hi, hb, hk⟩; refine ⟨_, rfl, ?_⟩; have n0_ := Aside0.mk (Kd.R_mono (Kd.R_keep (IsS80.apart (show IsS80 w0 _ g s0_0 t160 from by repeat (first | (with_reducible first | exact HI0.out | apply IsS80.alloc | apply IsS80.drewN | apply IsS80.drew | apply IsS80.set_1) | exact HI0.out)) (by (with_reducible repeat (first | apply Kd.R_alloc | apply Kd.R_drewN | apply Kd.R_drew)); exact HO_3.out) (by decide)) hk (fun _ h => h.2)) (fun _ h => h.1)); have n1_ := Aside0.mk (Kd.R_mono (Kd.R_keep (IsS80.apart (show IsS80 w0 _ g s0_0 t160 from by repeat (first | (with_reducible first | exact HI0.out | apply IsS80.alloc | apply IsS80.drewN | apply IsS80.drew | apply IsS80.set_1) | exact HI0.out)) (by (with_reducible repeat (first | apply Kd.R_alloc | apply Kd.R_drewN | apply Kd.R_drew)); exact HO158.out) (by decide)) hk (fun _ h => h.2)) (fun _ h => h.1)); have n2_ := Aside0.mk (KeepBut.trans (by repeat (first | (with_reducible first | exact HK.out | apply KeepBut.set_ | apply keep_drewN | apply keep_drew | apply keep_alloc) | exact HK.out)) hk (.inl rfl)); have n3_ := Aside0.mk (hb); have n4_ := Aside0.mk (hi); clear HO_3; clear HO158; clear HK; clear HB; clear HI0; have HO_3 := n0_; have HO158 := n1_; have HK := n2_; have HB := n3_; have HI0 := n4_; clear n0_ n1_ n2_ n3_ n4_; (try clear hb); (try clear hb2); (try clear hk); (try clear hi); obtain ⟨Ao14, co14, eo14⟩ := Kd.R_slice HO158.out; subst eo14; have p163 : 0 ≤ (t161 : Int) := of_decide_eq_true (by first | (with_reducible assumption) | assumption); have q163 : t161 < (y156.length : Int) := of_decide_eq_true (by first | (with_reducible assumption) | assumption); obtain ⟨ad163, e163, hx163_0, hx163_1, hx163_2⟩ := at_T49 (Kd.R_reads' HO158.out).2.2 t161 p163 q163; cases e163; replace p163 := eq_true p163; replace q163 := eq_true q163) | ((with_reducible refine gate_builtin (b := .append) (xs := #[.tmp 8, .tmp 30]) rfl ?_); at_builtin; refine Kd.R_append k49 w.heap.size rfl (.tmp 8) (.tmp 30) 47 49 (.agg #[(.string ⟨#[]⟩), (.string ⟨#[]⟩), (.int .i64 0)]) 40 rfl Tryd.underlying47 info49 rfl (by decide) (by omega) u3 x3_1 (⟨(rd_T49 y156 t161).f0, (rd_T49 y156 t161).f1, (rd_T49 y156 t161).f2⟩ : S49) [.string ((rd_T49 y156 t161).f0), .string ((rd_T49 y156 t161).f1), .int .i64 ((rd_T49 y156 t161).f2)] (fun k_ => some k_ ≠ (.slice (some ad163) y156.length co14 : Value).ownBlock) (fun _ => False) rfl rfl ?aP (fun _ hk => hk.elim) ?aF ?aO (Below.refl _ _) ?aS ?aL ?_; (case aP => exact k49_mkM _ _ _ (⟨(rd_T49 y156 t161).f0, (rd_T49 y156 t161).f1, (rd_T49 y156 t161).f2⟩ : S49)); (case aF => exact (fun k_ hk => Kd.fresh' (Kd.R_lt (by (with_reducible repeat (first | apply Kd.R_alloc | apply Kd.R_drewN | apply Kd.R_drew)); exact HO158.out)) k_ hk)); (case aO => exact (by (with_reducible repeat (first | apply Kd.R_alloc | apply Kd.R_drewN | apply Kd.R_drew)); exact Kd.R_mono HO_3.out (fun _ hk => hk.2))); (case aS => exact (keep_size (w := w) (g := g) (row := none) (by repeat (first | (with_reducible first | exact HK.out | apply KeepBut.set_ | apply keep_drewN | apply keep_drew | apply keep_alloc) | exact HK.out)))); (case aL => have := LMc9.out; omega); intro v165 w15 ho hb hg hat; rw [← Ny164.out] at ho; have n0_ := Aside0.mk (IsS80.grown (by repeat (first | (with_reducible first | exact HI0.out | apply IsS80.alloc | apply IsS80.drewN | apply IsS80.drew | apply IsS80.set_1) | exact HI0.out)) hg (IsS80.own_ne HI0.out HO_3.out (by decide))); have n1_ := Aside0.mk (Kd.R_after (ok := (fun _ => True)) (by (with_reducible repeat (first | apply Kd.R_alloc | apply Kd.R_drewN | apply Kd.R_drew)); exact HO158.out) hg hat); have n2_ := Aside0.mk (below_weaken (by repeat (first | (with_reducible first | exact HB.out | apply below_alloc | apply pw_below_drewN | apply below_drew1 | refine below_set ?_ (IsS80.ge HI0.out)) | exact HB.out)) HL.out hb); have n3_ := Aside0.mk (KeepBut.trans (by repeat (first | (with_reducible first | exact HK.out | apply KeepBut.set_ | apply keep_drewN | apply keep_drew | apply keep_alloc) | exact HK.out)) (KeepBut.of_grown hg g) (Kd.R_base2 HO_3.out)); have n4_ := Aside0.mk (ho); clear HI0; clear HO158; clear HB; clear HK; clear HO_3; have HI0 := n0_; have HO158 := n1_; have HB := n2_; have HK := n3_; have HO166 := n4_; clear n0_ n1_ n2_ n3_ n4_; clear ho hb hg hat))
              go_roundg k1
              case measure => have := HK1.out; omega
              case rel => exact ⟨(y164), (wrap64 (x6_1 + 1)), (t162), (by first | rfl | (simp; done) | (simp [*]; done)), H', ⟨by have := HK1.out; omega⟩, ⟨by (with_reducible repeat (first | apply Kd.R_alloc | apply Kd.R_drewN | apply Kd.R_drew)); exact Kd.R_mono HO166.out (fun _ hk => trivial)⟩, ⟨by repeat (first | (with_reducible first | exact HI0.out | apply IsS80.alloc | apply IsS80.drewN | apply IsS80.drew | apply IsS80.set_1) | exact HI0.out)⟩, ⟨by repeat (first | (with_reducible first | exact HK.out | apply KeepBut.set_ | apply keep_drewN | apply keep_drew | apply keep_alloc) | exact HK.out)⟩, ⟨by repeat (first | (with_reducible first | exact HB.out | apply below_alloc | apply pw_below_drewN | apply below_drew1 | refine below_set ?_ (IsS80.ge HI0.out)) | exact HB.out)⟩⟩
            · rw [if_neg c9] at H
              exact absurd H (by simp)
          · rw [if_neg c8] at H
            exact absurd H (by simp)
        · rw [if_neg c7] at H
          exact absurd H (by simp)
      · rw [if_neg c4] at H
        have c4b0 : decide (x6_1 < t154) = false := decide_eq_false c4
        clear c4
        simp only [Option.some.injEq, Prod.mk.injEq] at H
        obtain ⟨rfl, rfl⟩ := H
        go_wp2
        go_ret
        exact ⟨_, by first | rfl | (simp [errW_none, errW_some] <;> rfl) | (simp [*, errW_none, errW_some] <;> rfl), by (with_reducible repeat (first | apply Kd.R_alloc | apply Kd.R_drewN | apply Kd.R_drew)); exact HO_3.out, by repeat (first | (with_reducible first | exact HI0.out | apply IsS80.alloc | apply IsS80.drewN | apply IsS80.drew | apply IsS80.set_1) | exact HI0.out), by repeat (first | (with_reducible first | exact HB.out | apply below_alloc | apply pw_below_drewN | apply below_drew1 | refine below_set ?_ (IsS80.ge HI0.out)) | exact HB.out), by repeat (first | (with_reducible first | exact HK.out | apply KeepBut.set_ | apply keep_drewN | apply keep_drew | apply keep_alloc) | exact HK.out)⟩

-- NOT PRINTED: function 36 (reportescrowlaw14_some)

/-! ### reportescrowkit_Name: function 37 -/
def reportescrowkit_Name.f (s0_0 : List Int) (s0_1 : Int) : Option (ByteArray × Int) := (reportescrowkit_Dice_Word.f s0_0 s0_1 (([(⟨#[82, 111, 98, 101, 114, 116]⟩ : ByteArray), (⟨#[114, 111, 98, 101, 114, 116]⟩ : ByteArray), (⟨#[66, 111, 98]⟩ : ByteArray), (⟨#[68, 114, 46, 32, 82, 111, 98, 101, 114, 116]⟩ : ByteArray), (⟨#[79, 39, 66, 114, 105, 101, 110, 45, 77, 195, 188, 108, 108, 101, 114]⟩ : ByteArray), (⟨#[111, 98, 114, 105, 101, 110, 32, 109, 117, 101, 108, 108, 101, 114]⟩ : ByteArray), (⟨#[74, 79, 83, 69, 80, 72, 32, 32, 106, 114]⟩ : ByteArray), (⟨#[106, 111, 115, 101, 102]⟩ : ByteArray), (⟨#[65, 110, 110]⟩ : ByteArray), (⟨#[97, 110, 110]⟩ : ByteArray), (⟨#[195, 132, 110, 110, 99, 104, 101, 110]⟩ : ByteArray), (⟨#[120]⟩ : ByteArray), (⟨#[]⟩ : ByteArray), (⟨#[97, 97, 97, 97]⟩ : ByteArray), (⟨#[112, 104, 112, 104]⟩ : ByteArray), (⟨#[97, 32, 98, 32, 97, 32, 98]⟩ : ByteArray), (⟨#[32]⟩ : ByteArray)] : List ByteArray))).bind fun bt175 => (some (bt175.1, bt175.2))
set_option maxHeartbeats 8000000 in
set_option maxRecDepth 100000 in
theorem reportescrowkit_Name.calls (g : Nat) (s0_0 : List Int) (s0_1 : Int) (r1 : ByteArray) (r2 : Int) (w0 w : World) (hI : IsS80 w0 w g s0_0 s0_1) (hB : Below w0.heap.size w0 w) (h : reportescrowkit_Name.f s0_0 s0_1 = some (r1, r2)) :
    Calls Tryd.prog 37 #[.pointer (some ⟨g, 0, none⟩)] w fun e w' => e = .returned (.string r1) ∧ IsS80 w0 w' g s0_0 r2 ∧ Below w0.heap.size w0 w' ∧ KeepBut w w' g none := by
  have HI0 := Aside0.mk hI
  have HK := Aside0.mk (KeepBut.refl w g none)
  have HL := Aside0.mk hB.size
  clear hI
  have HW0 := Aside0.mk hB.size
  have HB := Aside0.mk hB
  clear hB
  have H : ((reportescrowkit_Dice_Word.f s0_0 s0_1 (([(⟨#[82, 111, 98, 101, 114, 116]⟩ : ByteArray), (⟨#[114, 111, 98, 101, 114, 116]⟩ : ByteArray), (⟨#[66, 111, 98]⟩ : ByteArray), (⟨#[68, 114, 46, 32, 82, 111, 98, 101, 114, 116]⟩ : ByteArray), (⟨#[79, 39, 66, 114, 105, 101, 110, 45, 77, 195, 188, 108, 108, 101, 114]⟩ : ByteArray), (⟨#[111, 98, 114, 105, 101, 110, 32, 109, 117, 101, 108, 108, 101, 114]⟩ : ByteArray), (⟨#[74, 79, 83, 69, 80, 72, 32, 32, 106, 114]⟩ : ByteArray), (⟨#[106, 111, 115, 101, 102]⟩ : ByteArray), (⟨#[65, 110, 110]⟩ : ByteArray), (⟨#[97, 110, 110]⟩ : ByteArray), (⟨#[195, 132, 110, 110, 99, 104, 101, 110]⟩ : ByteArray), (⟨#[120]⟩ : ByteArray), (⟨#[]⟩ : ByteArray), (⟨#[97, 97, 97, 97]⟩ : ByteArray), (⟨#[112, 104, 112, 104]⟩ : ByteArray), (⟨#[97, 32, 98, 32, 97, 32, 98]⟩ : ByteArray), (⟨#[32]⟩ : ByteArray)] : List ByteArray))).bind fun bt175 => (some (bt175.1, bt175.2))) = some (r1, r2) := h
  clear h
  obtain ⟨y172, hy172⟩ : ∃ y_ : List ByteArray, y_ = (([(⟨#[82, 111, 98, 101, 114, 116]⟩ : ByteArray), (⟨#[114, 111, 98, 101, 114, 116]⟩ : ByteArray), (⟨#[66, 111, 98]⟩ : ByteArray), (⟨#[68, 114, 46, 32, 82, 111, 98, 101, 114, 116]⟩ : ByteArray), (⟨#[79, 39, 66, 114, 105, 101, 110, 45, 77, 195, 188, 108, 108, 101, 114]⟩ : ByteArray), (⟨#[111, 98, 114, 105, 101, 110, 32, 109, 117, 101, 108, 108, 101, 114]⟩ : ByteArray), (⟨#[74, 79, 83, 69, 80, 72, 32, 32, 106, 114]⟩ : ByteArray), (⟨#[106, 111, 115, 101, 102]⟩ : ByteArray), (⟨#[65, 110, 110]⟩ : ByteArray), (⟨#[97, 110, 110]⟩ : ByteArray), (⟨#[195, 132, 110, 110, 99, 104, 101, 110]⟩ : ByteArray), (⟨#[120]⟩ : ByteArray), (⟨#[]⟩ : ByteArray), (⟨#[97, 97, 97, 97]⟩ : ByteArray), (⟨#[112, 104, 112, 104]⟩ : ByteArray), (⟨#[97, 32, 98, 32, 97, 32, 98]⟩ : ByteArray), (⟨#[32]⟩ : ByteArray)] : List ByteArray)) := ⟨_, rfl⟩
  replace H : ((reportescrowkit_Dice_Word.f s0_0 s0_1 y172).bind fun bt175 => (some (bt175.1, bt175.2))) = some (r1, r2) := by first | (rw [hy172]; with_reducible exact H) | (have H2_ := (Option.bind_some _ _).symm.trans H; rw [hy172]; with_reducible exact H2_) | (have H2_ := (Option.bind_some _ _).symm.trans H; with_reducible exact H2_) | with_reducible exact H | (rw [hy172]; exact H) | exact H
  have Ny172 := Aside0.mk hy172
  clear hy172
  replace H := Option.bind_eq_some_iff.mp H
  obtain ⟨⟨t175, t176⟩, A20, H⟩ := H
  replace H : (some (t175, t176)) = some (r1, r2) := H
  have A2 := Aside0.mk A20
  clear A20
  simp only [Option.some.injEq, Prod.mk.injEq] at H
  obtain ⟨rfl, rfl⟩ := H
  go_enter Tryd.func37, Tryd.ntmps37
  go_wp2_with (first | ((with_reducible refine gate_dst (N := 4) rfl ?_); refine Kd.R_lit Kd.string _ 9 ?hg (N := 4) ?hd (xs := ([(⟨#[82, 111, 98, 101, 114, 116]⟩ : ByteArray), (⟨#[114, 111, 98, 101, 114, 116]⟩ : ByteArray), (⟨#[66, 111, 98]⟩ : ByteArray), (⟨#[68, 114, 46, 32, 82, 111, 98, 101, 114, 116]⟩ : ByteArray), (⟨#[79, 39, 66, 114, 105, 101, 110, 45, 77, 195, 188, 108, 108, 101, 114]⟩ : ByteArray), (⟨#[111, 98, 114, 105, 101, 110, 32, 109, 117, 101, 108, 108, 101, 114]⟩ : ByteArray), (⟨#[74, 79, 83, 69, 80, 72, 32, 32, 106, 114]⟩ : ByteArray), (⟨#[106, 111, 115, 101, 102]⟩ : ByteArray), (⟨#[65, 110, 110]⟩ : ByteArray), (⟨#[97, 110, 110]⟩ : ByteArray), (⟨#[195, 132, 110, 110, 99, 104, 101, 110]⟩ : ByteArray), (⟨#[120]⟩ : ByteArray), (⟨#[]⟩ : ByteArray), (⟨#[97, 97, 97, 97]⟩ : ByteArray), (⟨#[112, 104, 112, 104]⟩ : ByteArray), (⟨#[97, 32, 98, 32, 97, 32, 98]⟩ : ByteArray), (⟨#[32]⟩ : ByteArray)] : List ByteArray)) (inner := [.string (⟨#[82, 111, 98, 101, 114, 116]⟩ : ByteArray), .string (⟨#[114, 111, 98, 101, 114, 116]⟩ : ByteArray), .string (⟨#[66, 111, 98]⟩ : ByteArray), .string (⟨#[68, 114, 46, 32, 82, 111, 98, 101, 114, 116]⟩ : ByteArray), .string (⟨#[79, 39, 66, 114, 105, 101, 110, 45, 77, 195, 188, 108, 108, 101, 114]⟩ : ByteArray), .string (⟨#[111, 98, 114, 105, 101, 110, 32, 109, 117, 101, 108, 108, 101, 114]⟩ : ByteArray), .string (⟨#[74, 79, 83, 69, 80, 72, 32, 32, 106, 114]⟩ : ByteArray), .string (⟨#[106, 111, 115, 101, 102]⟩ : ByteArray), .string (⟨#[65, 110, 110]⟩ : ByteArray), .string (⟨#[97, 110, 110]⟩ : ByteArray), .string (⟨#[195, 132, 110, 110, 99, 104, 101, 110]⟩ : ByteArray), .string (⟨#[120]⟩ : ByteArray), .string (⟨#[]⟩ : ByteArray), .string (⟨#[97, 97, 97, 97]⟩ : ByteArray), .string (⟨#[112, 104, 112, 104]⟩ : ByteArray), .string (⟨#[97, 32, 98, 32, 97, 32, 98]⟩ : ByteArray), .string (⟨#[32]⟩ : ByteArray)]) (ok := fun _ => True) (okp := fun _ => True) ?hr ?hp (fun _ hk => hk) trivial (Below.refl _ _) (Nat.le_refl _) (by simp) ?_; (case hd => rfl); (case hg => rfl); (case hr => first | (go_simp; done) | (go_simp; rfl)); (case hp => exact (Reps.one (show Kd.M Kd.string _ _ _ (⟨#[82, 111, 98, 101, 114, 116]⟩ : ByteArray) [.string (⟨#[82, 111, 98, 101, 114, 116]⟩ : ByteArray)] from rfl) (Reps.one (show Kd.M Kd.string _ _ _ (⟨#[114, 111, 98, 101, 114, 116]⟩ : ByteArray) [.string (⟨#[114, 111, 98, 101, 114, 116]⟩ : ByteArray)] from rfl) (Reps.one (show Kd.M Kd.string _ _ _ (⟨#[66, 111, 98]⟩ : ByteArray) [.string (⟨#[66, 111, 98]⟩ : ByteArray)] from rfl) (Reps.one (show Kd.M Kd.string _ _ _ (⟨#[68, 114, 46, 32, 82, 111, 98, 101, 114, 116]⟩ : ByteArray) [.string (⟨#[68, 114, 46, 32, 82, 111, 98, 101, 114, 116]⟩ : ByteArray)] from rfl) (Reps.one (show Kd.M Kd.string _ _ _ (⟨#[79, 39, 66, 114, 105, 101, 110, 45, 77, 195, 188, 108, 108, 101, 114]⟩ : ByteArray) [.string (⟨#[79, 39, 66, 114, 105, 101, 110, 45, 77, 195, 188, 108, 108, 101, 114]⟩ : ByteArray)] from rfl) (Reps.one (show Kd.M Kd.string _ _ _ (⟨#[111, 98, 114, 105, 101, 110, 32, 109, 117, 101, 108, 108, 101, 114]⟩ : ByteArray) [.string (⟨#[111, 98, 114, 105, 101, 110, 32, 109, 117, 101, 108, 108, 101, 114]⟩ : ByteArray)] from rfl) (Reps.one (show Kd.M Kd.string _ _ _ (⟨#[74, 79, 83, 69, 80, 72, 32, 32, 106, 114]⟩ : ByteArray) [.string (⟨#[74, 79, 83, 69, 80, 72, 32, 32, 106, 114]⟩ : ByteArray)] from rfl) (Reps.one (show Kd.M Kd.string _ _ _ (⟨#[106, 111, 115, 101, 102]⟩ : ByteArray) [.string (⟨#[106, 111, 115, 101, 102]⟩ : ByteArray)] from rfl) (Reps.one (show Kd.M Kd.string _ _ _ (⟨#[65, 110, 110]⟩ : ByteArray) [.string (⟨#[65, 110, 110]⟩ : ByteArray)] from rfl) (Reps.one (show Kd.M Kd.string _ _ _ (⟨#[97, 110, 110]⟩ : ByteArray) [.string (⟨#[97, 110, 110]⟩ : ByteArray)] from rfl) (Reps.one (show Kd.M Kd.string _ _ _ (⟨#[195, 132, 110, 110, 99, 104, 101, 110]⟩ : ByteArray) [.string (⟨#[195, 132, 110, 110, 99, 104, 101, 110]⟩ : ByteArray)] from rfl) (Reps.one (show Kd.M Kd.string _ _ _ (⟨#[120]⟩ : ByteArray) [.string (⟨#[120]⟩ : ByteArray)] from rfl) (Reps.one (show Kd.M Kd.string _ _ _ (⟨#[]⟩ : ByteArray) [.string (⟨#[]⟩ : ByteArray)] from rfl) (Reps.one (show Kd.M Kd.string _ _ _ (⟨#[97, 97, 97, 97]⟩ : ByteArray) [.string (⟨#[97, 97, 97, 97]⟩ : ByteArray)] from rfl) (Reps.one (show Kd.M Kd.string _ _ _ (⟨#[112, 104, 112, 104]⟩ : ByteArray) [.string (⟨#[112, 104, 112, 104]⟩ : ByteArray)] from rfl) (Reps.one (show Kd.M Kd.string _ _ _ (⟨#[97, 32, 98, 32, 97, 32, 98]⟩ : ByteArray) [.string (⟨#[97, 32, 98, 32, 97, 32, 98]⟩ : ByteArray)] from rfl) (Reps.one (show Kd.M Kd.string _ _ _ (⟨#[32]⟩ : ByteArray) [.string (⟨#[32]⟩ : ByteArray)] from rfl) (Reps.none _ _))))))))))))))))))); intro v173 w3 ho4 hb hg_ hnew_; clear hg_ hnew_; (first | rw [← Ny172.out] at ho4 | (simp only [Int.reduceToNat] at ho4; rw [← Ny172.out] at ho4)); have n0_ := Aside0.mk (Kd.R_lower ho4 (keep_size (w := w) (g := g) (row := none) (by repeat (first | (with_reducible first | exact HK.out | apply KeepBut.set_ | apply keep_drewN | apply keep_drew | apply keep_alloc) | exact HK.out)))); have n1_ := Aside0.mk (IsS80.below (by repeat (first | (with_reducible first | exact HI0.out | apply IsS80.alloc | apply IsS80.drewN | apply IsS80.drew | apply IsS80.set_1) | exact HI0.out)) hb); have n2_ := Aside0.mk (KeepBut.trans (by repeat (first | (with_reducible first | exact HK.out | apply KeepBut.set_ | apply keep_drewN | apply keep_drew | apply keep_alloc) | exact HK.out)) (KeepBut.of_below hb g none) (.inl rfl)); have n3_ := Aside0.mk (below_step (by repeat (first | (with_reducible first | exact HB.out | apply below_alloc | apply pw_below_drewN | apply below_drew1 | refine below_set ?_ (IsS80.ge HI0.out)) | exact HB.out)) hb); clear HI0; clear HK; clear HB; have HO174 := n0_; have HI0 := n1_; have HK := n2_; have HB := n3_; clear n0_ n1_ n2_ n3_; clear hb ho4; obtain ⟨Ao5, co5, eo5⟩ := Kd.R_slice HO174.out; subst eo5) | ((with_reducible refine gate_callee (f := 30) rfl ?_); refine goesL_ (some 5) rfl rfl Tryd.func30 (by kernel_rfl) rfl #[.pointer (some ⟨g, 0, none⟩), .slice Ao5 y172.length co5] rfl (by (try simp only [List.map_toArray, List.map_cons, List.map_nil]); first | done | rfl | (simp only [List.length_drop, List.length_take]; rfl)) ?_; (with_reducible refine (reportescrowkit_Dice_Word.calls g s0_0 s0_1 _ _ y172 t175 t176 w0 _ ?side1 ?side2 ?side3 ?side4 ?side5 A2.out).mono ?_); (case side1 => repeat (first | (with_reducible first | exact HI0.out | apply IsS80.alloc | apply IsS80.drewN | apply IsS80.drew | apply IsS80.set_1) | exact HI0.out)); (case side2 => repeat (first | (with_reducible first | exact HB.out | apply below_alloc | apply pw_below_drewN | apply below_drew1 | refine below_set ?_ (IsS80.ge HI0.out)) | exact HB.out)); (case side3 => repeat (first | exact (Kd.R_reads' HO174.out).2.2 | (with_reducible refine Kd.C_alloc ?_ _) | (with_reducible refine Kd.C_drewN ?_ _) | (with_reducible refine Kd.C_drew ?_))); (case side4 => exact (Kd.R_reads' HO174.out).2.1); (case side5 => exact far_slice (IsS80.own_ne HI0.out HO174.out (by decide))); rintro e w6 ⟨rfl, hi, hb, hk⟩; refine ⟨_, rfl, ?_⟩; have n0_ := Aside0.mk (Kd.R_mono (Kd.R_keep (IsS80.apart (show IsS80 w0 _ g s0_0 s0_1 from by repeat (first | (with_reducible first | exact HI0.out | apply IsS80.alloc | apply IsS80.drewN | apply IsS80.drew | apply IsS80.set_1) | exact HI0.out)) (by (with_reducible repeat (first | apply Kd.R_alloc | apply Kd.R_drewN | apply Kd.R_drew)); exact HO174.out) (by decide)) hk (fun _ h => h.2)) (fun _ h => h.1)); have n1_ := Aside0.mk (KeepBut.trans (by repeat (first | (with_reducible first | exact HK.out | apply KeepBut.set_ | apply keep_drewN | apply keep_drew | apply keep_alloc) | exact HK.out)) hk (.inl rfl)); have n2_ := Aside0.mk (hb); have n3_ := Aside0.mk (hi); clear HO174; clear HK; clear HB; clear HI0; have HO174 := n0_; have HK := n1_; have HB := n2_; have HI0 := n3_; clear n0_ n1_ n2_ n3_; (try clear hb); (try clear hb2); (try clear hk); (try clear hi)))
  go_ret
  exact ⟨by first | rfl | (simp [errW_none, errW_some] <;> rfl) | (simp [*, errW_none, errW_some] <;> rfl), by repeat (first | (with_reducible first | exact HI0.out | apply IsS80.alloc | apply IsS80.drewN | apply IsS80.drew | apply IsS80.set_1) | exact HI0.out), by repeat (first | (with_reducible first | exact HB.out | apply below_alloc | apply pw_below_drewN | apply below_drew1 | refine below_set ?_ (IsS80.ge HI0.out)) | exact HB.out), by repeat (first | (with_reducible first | exact HK.out | apply KeepBut.set_ | apply keep_drewN | apply keep_drew | apply keep_alloc) | exact HK.out)⟩

-- NOT PRINTED: function 12 (reportescrowlaw14_CanonEqual)

end Go.Proofs.YtpejnnnkamodbaaDoor.PCanonEqual
