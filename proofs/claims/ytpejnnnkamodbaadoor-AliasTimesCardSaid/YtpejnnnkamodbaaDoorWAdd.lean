/- The package alias: Clone, Add. -/
import Derived.Test.YtpejnnnkamodbaaDoorWFollow
import Derived.Lib.SliceRun
namespace Go.Proofs.YtpejnnnkamodbaaDoor
open Go Go.RowKit Go.Maps Go.WideMaps Go.Proofs.YtpejnnnkamodbaaDoorW.PrintWords Go.Proofs.YtpejnnnkamodbaaDoorW.PrintLast
open PCanonEqual (S40 k40 z40 rd_T40 at_T40 k40_open k40_mk k40_openM k40_mkM)

theorem info40 : (Tryd.prog.info? 40).map (fun i => (i.zero, i.size, i.bytes)) = some (some (.agg #[(.string ⟨#[]⟩), (.string ⟨#[]⟩), (.int .i64 0), (.bool false)]), 4, 48) := by kernel_rfl
theorem k40_free {w w' : World} {base : Nat} {ok : Nat → Prop} {x : S40} {cs : List Value} (h : k40.K w x cs) : k40.M w' base ok x cs := by
  rw [k40_open h]
  exact k40_mkM w' base ok x
/-- An owned list with nothing in it. -/
theorem R_empty {w : World} {base g : Nat} (hg : w.heap[g]? = some (.cells #[] 40 (0, 0))) (hb : base ≤ g) : Kd.R k40 40 w base (fun _ => True) (.slice (some ⟨g, 0, none⟩) 0 0) [] :=
  ⟨fun _ _ => trivial, [], ⟨rfl, .inr ⟨g, 0, #[], rfl, hb, hg, Nat.le_refl _, by unfold maxLen; omega, rfl, rfl⟩⟩, Reps.none _ _⟩
set_option maxHeartbeats 2000000 in
set_option maxRecDepth 100000 in
theorem clone_ok (A : Option Addr) (c : Nat) (l : List S40) (w : World) (hr : Kd.C k40 w A l.length l) (hl : l.length ≤ 1000000) (hA : A = none → l = []) :
    Calls Tryd.prog 56 #[.slice A l.length c] w fun e w' => ∃ v, e = .returned v ∧ Kd.R k40 40 w' w.heap.size (fun _ => True) v l ∧ Below w.heap.size w w' := by
  replace hr := Lib.hid hr
  have heq := fun w a n c => Lib.run_eql_slice_nil (P := Tryd.prog) w 36 40 a n c 0 0 Tryd.underlying36
  cases A with
  | none =>
    obtain rfl := hA rfl
    go_enter Tryd.func56, Tryd.ntmps56
    go_wp2_with fail
    go_ret
    exact ⟨_, rfl, Kd.R_nil _ _ _ _ _, Below.refl _ _⟩
  | some ad =>
    have hb1 : Below w.heap.size w (w.alloc (Obj.cells #[] 40)) := (Below.refl _ _).alloc (Nat.le_refl _) _
    have hR0 := R_empty (base := w.heap.size) (heap_alloc_new w (Obj.cells #[] 40)) (Nat.le_refl _)
    have hC := Kd.C_below hr.out hb1
    go_enter Tryd.func56, Tryd.ntmps56
    go_wp2_with (at_builtin; refine Kd.R_append_rows k40 w.heap.size rfl _ _ 36 40 _ 48 rfl Tryd.underlying36 info40 rfl (by decide) (by decide) _ [] l (some ad) l.length c (fun _ => True) (fun _ => False) rfl rfl hR0 hC (fun x cs h => k40_free h) (fun k h => h.elim) (fun _ _ => trivial) hb1 hb1.size (by simp; omega) ?_; intro v1 w2 hR2 hb2 hg2 hat2)
    go_ret
    exact ⟨_, rfl, hR2, hb2⟩
theorem size_ad (w : World) (o : Obj) : (w.alloc o).drew.heap.size = w.heap.size + 1 := by
  show (w.heap.push o).size = _
  simp
/-- A box of one element is a row that is read. -/
theorem box_reads {w : World} {gb : Nat} {a : S40} (h : w.heap[gb]? = some (.cells #[.string a.f0, .string a.f1, .int .i64 a.f2, .bool a.f3] 40 (0, 0))) : ReadsRow (k40.K w) k40.sz w (some ⟨gb, 0, none⟩) 1 [a] := by
  refine ⟨rfl, by decide, fun _ => ⟨_, rfl, fun j p hj => ?_⟩⟩
  rcases j with _ | j
  · simp only [List.getElem?_cons_zero, Option.some.injEq] at hj
    subst hj
    refine ⟨_, rfl, k40_mk w a, fun i u hi => ?_⟩
    have e : (⟨gb, 0, none⟩ : Addr).add (0 * k40.sz + i) = ⟨gb, i, none⟩ := by simp [Addr.add]; omega
    rw [e, cell_row h]
    simpa using hi
  · simp at hj
theorem follow_ok2 (b n : Nat) (f : ByteArray → Option S40) (s : ByteArray) (w : World) (L : List ByteArray) (hD : Dict enc40 Tryd.prog 9 w b n f) (hL : ∀ k, f k ≠ none → k ∈ L) (hn : L.length ≤ 1000000) (hs : s.size ≤ 1000000) (hv : ∀ k a, f k = some a → a.f1.size ≤ 1000000) :
    Calls Tryd.prog 54 #[.map (some b), .string s] w fun e w' => (∃ r k, e = .returned (.tuple #[.string r, .bool k]) ∧ ((k = true ∧ Leads f s r) ∨ (k = false ∧ Loops f s))) ∧ Below w.heap.size w w' :=
  (follow_ok b n f s w L hD hL hn hs hv).mono fun _ _ ⟨hp, hb⟩ => ⟨by
    rcases hp with ⟨t, ht, rfl⟩ | ⟨hl, rfl⟩
    · exact ⟨_, _, rfl, Or.inl ⟨rfl, ht⟩⟩
    · exact ⟨_, _, rfl, Or.inr ⟨rfl, hl⟩⟩, hb⟩
theorem C_none {w : World} {A : Option Addr} {l : List S40} (h : Kd.C k40 w A l.length l) : A = none → l = [] := by
  rintro rfl
  cases l with
  | nil => rfl
  | cons x l =>
    obtain ⟨ad, e, _⟩ := h.2.2 (by simp)
    cases e
def earlyT (l : List S40) (a : S40) : Bool := decide (0 < l.length) && decide (a.f2 < (l.getD (l.length - 1) z40).f2)
/-- What Add tells: 0 OK, 1 invalid, 16 the time, 3 the limit, 11 a circle. -/
def AddT (l : List S40) (a : S40) (n : Int) : Prop :=
  ((validT l = false ∨ rightT a = false) ∧ n = 1) ∨
  (validT l = true ∧ rightT a = true ∧ ((earlyT l a = true ∧ n = 16) ∨ (earlyT l a = false ∧ ((256 ≤ l.length ∧ n = 3) ∨ (l.length < 256 ∧
    ((Loops (presT (l ++ [a]) a.f2) a.f0 ∧ a.f3 = false ∧ n = 11) ∨ ((¬ Loops (presT (l ++ [a]) a.f2) a.f0 ∨ a.f3 = true) ∧ n = 0)))))))
def AddPost (l : List S40) (a : S40) (w w' : World) (e : Ending) : Prop :=
  ∃ v n, AddT l a n ∧ e = .returned (.tuple #[v, .int .i64 n]) ∧ ((n ≠ 0 ∧ v = .slice none 0 0) ∨ (n = 0 ∧ Kd.R k40 40 w' w.heap.size (fun _ => True) v (l ++ [a])))
set_option maxHeartbeats 4000000 in
set_option maxRecDepth 100000 in
set_option linter.unusedSimpArgs false in
theorem add_ok (A : Option Addr) (c : Nat) (l : List S40) (a : S40) (w : World) (hT : Tabs w) (hr : Kd.C k40 w A l.length l) :
    Calls Tryd.prog 31 #[.slice A l.length c, .agg #[.string a.f0, .string a.f1, .int .i64 a.f2, .bool a.f3]] w fun e w' => AddPost l a w w' e ∧ Below w.heap.size w w' := by
  obtain ⟨n, o, ti, g⟩ := a
  simp only
  have hb0 : Below w.heap.size w (w.alloc (Obj.cells #[Value.string n, Value.string o, Value.int IntKind.i64 ti, Value.bool g] 40)) := (Below.refl _ _).alloc (Nat.le_refl _) _
  have hk0 := heap_alloc_new w (Obj.cells #[Value.string n, Value.string o, Value.int IntKind.i64 ti, Value.bool g] 40)
  have cv := valid_ok A c l _ (hT.below hb0 hT.six) (Kd.C_below hr hb0)
  have cR := Lib.hid (fun w1 hT => right_ok ⟨n, o, ti, g⟩ w1 hT)
  generalize hG : w.alloc (Obj.cells #[Value.string n, Value.string o, Value.int IntKind.i64 ti, Value.bool g] 40) = w0 at hb0 hk0 cv
  have r0 := Lib.hid (Kd.C_below hr hb0)
  cases hv : validT l with
  | false =>
    rw [hv] at cv
    replace cv := Lib.hid cv
    replace hr := Lib.hid hr
    go_enter Tryd.func31, Tryd.ntmps31
    go_wp2_with fail
    refine cv.out.mono ?_
    rintro e w1 ⟨rfl, hb1⟩
    go_wp2_with fail
    go_ret2
    exact ⟨⟨_, _, Or.inl ⟨Or.inl hv, rfl⟩, rfl, Or.inl ⟨by decide, rfl⟩⟩, hb0.trans (hb1.mono hb0.size)⟩
  | true =>
    rw [hv] at cv
    replace cv := Lib.hid cv
    go_enter Tryd.func31, Tryd.ntmps31
    go_wp2_with fail
    refine cv.out.mono ?_
    rintro e w1 ⟨rfl, hb1⟩
    have hb1' := hb0.trans (hb1.mono hb0.size)
    have hT1 : Tabs w1 := hT.below hb1' hT.six
    have hk1 := (hb1.block _ (Array.getElem?_eq_some_iff.1 hk0).1).trans hk0
    have K1 : Hid (w1.cell? ⟨w.heap.size, 0, none⟩ = some (.string n) ∧ w1.cell? ⟨w.heap.size, 1, none⟩ = some (.string o) ∧ w1.cell? ⟨w.heap.size, 2, none⟩ = some (.int .i64 ti) ∧ w1.cell? ⟨w.heap.size, 3, none⟩ = some (.bool g)) := ⟨(cell_row hk1 0).trans rfl, (cell_row hk1 1).trans rfl, (cell_row hk1 2).trans rfl, (cell_row hk1 3).trans rfl⟩
    have q0 := K1.out.1
    have q1 := K1.out.2.1
    have q2 := K1.out.2.2.1
    have q3 := K1.out.2.2.2
    have cR1 := cR.out w1 hT1
    clear hk1 hk0 hG
    cases hR : rightT ⟨n, o, ti, g⟩ with
    | false =>
      rw [hR] at cR1
      replace cR1 := Lib.hid cR1
      go_wp2_with fail
      refine cR1.out.mono ?_
      rintro e w2 ⟨rfl, hb2⟩
      go_wp2_with fail
      go_ret2
      exact ⟨⟨_, _, Or.inl ⟨Or.inr hR, rfl⟩, rfl, Or.inl ⟨by decide, rfl⟩⟩, hb1'.trans (hb2.mono hb1'.size)⟩
    | true =>
      rw [hR] at cR1
      replace cR1 := Lib.hid cR1
      go_wp2_with fail
      refine cR1.out.mono ?_
      rintro e w2 ⟨rfl, hb2⟩
      have hb2' := hb1'.trans (hb2.mono hb1'.size)
      have K2 : Hid (w2.drew.cell? ⟨w.heap.size, 0, none⟩ = some (.string n) ∧ w2.drew.cell? ⟨w.heap.size, 1, none⟩ = some (.string o) ∧ w2.drew.cell? ⟨w.heap.size, 2, none⟩ = some (.int .i64 ti) ∧ w2.drew.cell? ⟨w.heap.size, 3, none⟩ = some (.bool g)) := ⟨pw_cell_below hb2 q0, pw_cell_below hb2 q1, pw_cell_below hb2 q2, pw_cell_below hb2 q3⟩
      have r2 := Lib.hid (Kd.C_below hr hb2')
      clear q0 q1 q2 q3 K1
      cases hE : earlyT l ⟨n, o, ti, g⟩ with
      | true =>
        simp only [earlyT, Bool.and_eq_true, decide_eq_true_eq] at hE
        obtain ⟨ad, rfl, -, -, d2, -⟩ := at_T40 r2.out ((l.length - 1 : Nat) : Int) (by omega) (by omega)
        rw [Int.toNat_natCast] at d2
        rw [show rd_T40 l ((l.length - 1 : Nat) : Int) = l.getD (l.length - 1) z40 from by simp [rd_T40]] at d2
        have hlt := hE.2
        have hlen := hE.1
        generalize hp : (l.getD (l.length - 1) z40).f2 = p at d2 hlt
        obtain ⟨q, k1⟩ : ∃ q : Int, (l.length : Int) - 1 = q := ⟨_, rfl⟩
        have k2 : (0 : Int) ≤ q := by omega
        have k3 : q < (l.length : Int) := by omega
        have hll : l.length ≤ 256 := by simp only [validT, Bool.and_eq_true, decide_eq_true_eq] at hv; exact hv.1
        have k4 : wrap64 q = q := by unfold wrap64; omega
        rw [show (l.length - 1) * 4 = q.toNat * 4 from by omega] at d2
        have e0 : decide (0 < l.length) = true := decide_eq_true hlen
        have e1 : decide (ti < p) = true := decide_eq_true hlt
        replace hp := Lib.hid hp
        replace hE := Lib.hid hE
        clear hlt hll hlen
        go_wp2_with fail
        refine start_ (n := 16) (S := fun w' => w'.cell? ⟨w.heap.size, 0, none⟩ = some (.string n) ∧ w'.cell? ⟨w.heap.size, 1, none⟩ = some (.string o) ∧ w'.cell? ⟨w.heap.size, 2, none⟩ = some (.int .i64 ti) ∧ w'.cell? ⟨w.heap.size, 3, none⟩ = some (.bool g) ∧ w'.cell? ⟨(ad.add (q.toNat * 4)).block, (ad.add (q.toNat * 4)).off + 2, none⟩ = some (.int .i64 p)) (ds := []) #[false, false, false, false, false, false, false, false, false, false, false, false, false, false, false, false] (by kernel_rfl) rfl rfl ⟨(K2.out.1), (K2.out.2.1), (K2.out.2.2.1), (K2.out.2.2.2), d2⟩ (fun hHeld => ?_)
        refine pure_ (i := 0) (N := some 19) (v := ?_) (a' := ?_) #[true, false, false, false, false, false, false, false, false, false, false, false, false, false, false, false] rfl rfl (by kernel_rfl) (fun _ _ _ h => h) (Or.inl ⟨by rfl, ?_⟩) ?_ ?_
        rotate_left
        · intro w'
          go_simp
          with_reducible rfl
        rotate_left
        · simp only [Act.put, List.setIfInBounds_toArray, List.set_cons_zero, List.set_cons_succ, i64_w, i32_w]
          rfl
        refine pure_ (i := 1) (N := some 20) (v := ?_) (a' := ?_) #[true, true, false, false, false, false, false, false, false, false, false, false, false, false, false, false] rfl rfl (by kernel_rfl) (fun _ _ _ h => h) (Or.inl ⟨by rfl, ?_⟩) ?_ ?_
        rotate_left
        · intro w'
          go_simp
          with_reducible rfl
        rotate_left
        · simp only [Act.put, List.setIfInBounds_toArray, List.set_cons_zero, List.set_cons_succ, i64_w, i32_w]
          rfl
        refine pure_ (i := 2) (N := some 21) (v := ?_) (a' := ?_) #[true, true, true, false, false, false, false, false, false, false, false, false, false, false, false, false] rfl rfl (by kernel_rfl) (fun _ _ _ h => h) (Or.inl ⟨by rfl, ?_⟩) ?_ ?_
        rotate_left
        · intro w'
          go_simp
          with_reducible rfl
        rotate_left
        · simp only [Act.put, List.setIfInBounds_toArray, List.set_cons_zero, List.set_cons_succ, i64_w, i32_w]
          rfl
        refine pure_ (i := 3) (N := some 22) (v := ?_) (a' := ?_) #[true, true, true, true, false, false, false, false, false, false, false, false, false, false, false, false] rfl rfl (by kernel_rfl) (fun _ _ _ h => h) (Or.inl ⟨by rfl, ?_⟩) ?_ ?_
        rotate_left
        · intro w'
          go_simp
          with_reducible rfl
        rotate_left
        · simp only [Act.put, List.setIfInBounds_toArray, List.set_cons_zero, List.set_cons_succ, i64_w, i32_w]
          rfl
        refine pure_ (i := 4) (N := some 23) (v := ?_) (a' := ?_) #[true, true, true, true, true, false, false, false, false, false, false, false, false, false, false, false] rfl rfl (by kernel_rfl) (fun _ _ _ h => h) (Or.inl ⟨by rfl, ?_⟩) ?_ ?_
        rotate_left
        · intro w'
          go_simp
          with_reducible rfl
        rotate_left
        · simp only [Act.put, List.setIfInBounds_toArray, List.set_cons_zero, List.set_cons_succ, i64_w, i32_w]
          rfl
        refine pure_ (i := 6) (N := some 25) (v := ?_) (a' := ?_) #[true, true, true, true, true, false, true, false, false, false, false, false, false, false, false, false] rfl rfl (by kernel_rfl) (fun _ _ _ h => h) (Or.inl ⟨by rfl, ?_⟩) ?_ ?_
        rotate_left
        · intro w'
          go_simp
          with_reducible rfl
        rotate_left
        · simp only [Act.put, List.setIfInBounds_toArray, List.set_cons_zero, List.set_cons_succ, i64_w, i32_w]
          rfl
        refine pure_ (i := 7) (N := some 26) (v := ?_) (a' := ?_) #[true, true, true, true, true, false, true, true, false, false, false, false, false, false, false, false] rfl rfl (by kernel_rfl) (fun _ _ _ h => h) (Or.inl ⟨by rfl, ?_⟩) ?_ ?_
        rotate_left
        · intro w'
          go_simp
          with_reducible rfl
        rotate_left
        · simp only [Act.put, List.setIfInBounds_toArray, List.set_cons_zero, List.set_cons_succ, i64_w, i32_w]
          rfl
        refine pure_ (i := 8) (N := some 27) (v := ?_) (a' := ?_) #[true, true, true, true, true, false, true, true, true, false, false, false, false, false, false, false] rfl rfl (by kernel_rfl) (fun _ _ _ h => h) (Or.inl ⟨by rfl, ?_⟩) ?_ ?_
        rotate_left
        · intro w'
          go_simp
          with_reducible rfl
        rotate_left
        · simp only [Act.put, List.setIfInBounds_toArray, List.set_cons_zero, List.set_cons_succ, i64_w, i32_w]
          rfl
        refine pure_ (i := 9) (N := some 28) (v := ?_) (a' := ?_) #[true, true, true, true, true, false, true, true, true, true, false, false, false, false, false, false] rfl rfl (by kernel_rfl) (fun _ _ _ h => h) (Or.inl ⟨by rfl, ?_⟩) ?_ ?_
        rotate_left
        · intro w'
          go_simp
          with_reducible rfl
        rotate_left
        · simp only [Act.put, List.setIfInBounds_toArray, List.set_cons_zero, List.set_cons_succ, i64_w, i32_w]
          rfl
        refine pure_ (i := 10) (N := some 29) (v := ?_) (a' := ?_) #[true, true, true, true, true, false, true, true, true, true, true, false, false, false, false, false] rfl rfl (by kernel_rfl) (fun _ _ _ h => h) (Or.inl ⟨by rfl, ?_⟩) ?_ ?_
        rotate_left
        · intro w'
          go_simp
          with_reducible rfl
        rotate_left
        · simp only [Act.put, List.setIfInBounds_toArray, List.set_cons_zero, List.set_cons_succ, i64_w, i32_w]
          rfl
        refine pure_ (i := 11) (N := some 30) (v := ?_) (a' := ?_) #[true, true, true, true, true, false, true, true, true, true, true, true, false, false, false, false] rfl rfl (by kernel_rfl) (fun _ _ _ h => h) (Or.inl ⟨by rfl, ?_⟩) ?_ ?_
        rotate_left
        · intro w'
          go_simp
          with_reducible rfl
        rotate_left
        · simp only [Act.put, List.setIfInBounds_toArray, List.set_cons_zero, List.set_cons_succ, i64_w, i32_w]
          rfl
        refine take_ (i := 5) (N := some 24) (v := ?_) (a' := ?_) #[true, true, true, true, true, true, true, true, true, true, true, true, false, false, false, false] rfl rfl (by kernel_rfl) (fun _ _ _ h => h) (Or.inl ⟨by rfl, ?_⟩) hHeld ?_ ?_
        rotate_left
        · rintro w' ⟨s0, s1, s2, s3, s4⟩
          go_simp
          with_reducible rfl
        rotate_left
        · simp only [Act.put, List.setIfInBounds_toArray, List.set_cons_zero, List.set_cons_succ, i64_w, i32_w]
          rfl
        refine take_ (i := 12) (N := some 31) (v := ?_) (a' := ?_) #[true, true, true, true, true, true, true, true, true, true, true, true, true, false, false, false] rfl rfl (by kernel_rfl) (fun _ _ _ h => h) (Or.inl ⟨by rfl, ?_⟩) hHeld ?_ ?_
        rotate_left
        · rintro w' ⟨s0, s1, s2, s3, s4⟩
          go_simp
          with_reducible rfl
        rotate_left
        · simp only [Act.put, List.setIfInBounds_toArray, List.set_cons_zero, List.set_cons_succ, i64_w, i32_w]
          rfl
        refine pure_ (i := 13) (N := some 32) (v := ?_) (a' := ?_) #[true, true, true, true, true, true, true, true, true, true, true, true, true, true, false, false] rfl rfl (by kernel_rfl) (fun _ _ _ h => h) (Or.inl ⟨by rfl, ?_⟩) ?_ ?_
        rotate_left
        · intro w'
          go_simp
          with_reducible rfl
        rotate_left
        · simp only [Act.put, List.setIfInBounds_toArray, List.set_cons_zero, List.set_cons_succ, i64_w, i32_w]
          rfl
        refine pure_ (i := 14) (N := some 33) (v := ?_) (a' := ?_) #[true, true, true, true, true, true, true, true, true, true, true, true, true, true, true, false] rfl rfl (by kernel_rfl) (fun _ _ _ h => h) (Or.inl ⟨by rfl, ?_⟩) ?_ ?_
        rotate_left
        · intro w'
          go_simp
          with_reducible rfl
        rotate_left
        · simp only [Act.put, List.setIfInBounds_toArray, List.set_cons_zero, List.set_cons_succ, i64_w, i32_w]
          rfl
        refine pure_ (i := 15) (N := some 18) (v := ?_) (a' := ?_) #[true, true, true, true, true, true, true, true, true, true, true, true, true, true, true, true] rfl rfl (by kernel_rfl) (fun _ _ _ h => h) (Or.inl ⟨by rfl, ?_⟩) ?_ ?_
        rotate_left
        · intro w'
          go_simp
          with_reducible rfl
        rotate_left
        · simp only [Act.put, List.setIfInBounds_toArray, List.set_cons_zero, List.set_cons_succ, i64_w, i32_w]
          rfl
        refine done_ (by kernel_rfl) ?_
        go_wp2
        go_ret2
        exact ⟨⟨_, _, Or.inr ⟨hv, hR, Or.inl ⟨by simp only [earlyT, Bool.and_eq_true, decide_eq_true_eq]; exact hE.out, rfl⟩⟩, rfl, Or.inl ⟨by decide, rfl⟩⟩, hb2'.trans (Below.refl _ _).drew⟩
      | false =>
        have hll : l.length ≤ 256 := by simp only [validT, Bool.and_eq_true, decide_eq_true_eq] at hv; exact hv.1
        have hv' := Lib.hid hv
        have hR' := Lib.hid hR
        have hE' := Lib.hid hE
        by_cases hlen : 0 < l.length
        case' pos =>
          obtain ⟨ad, rfl, -, -, d2, -⟩ := at_T40 r2.out ((l.length - 1 : Nat) : Int) (by omega) (by omega)
          rw [Int.toNat_natCast] at d2
          rw [show rd_T40 l ((l.length - 1 : Nat) : Int) = l.getD (l.length - 1) z40 from by simp [rd_T40]] at d2
          have hlt : ¬ ti < (l.getD (l.length - 1) z40).f2 := by
            intro h
            simp only [earlyT, Bool.and_eq_false_iff, decide_eq_false_iff_not] at hE
            rcases hE with hE | hE
            · exact hE hlen
            · exact hE h
          generalize hp : (l.getD (l.length - 1) z40).f2 = p at d2 hlt
          obtain ⟨q, k1⟩ : ∃ q : Int, (l.length : Int) - 1 = q := ⟨_, rfl⟩
          have k2 : (0 : Int) ≤ q := by omega
          have k3 : q < (l.length : Int) := by omega
          have k4 : wrap64 q = q := by unfold wrap64; omega
          rw [show (l.length - 1) * 4 = q.toNat * 4 from by omega] at d2
          have e0 : decide (0 < l.length) = true := decide_eq_true hlen
          have e1 : decide (ti < p) = false := decide_eq_false hlt
          replace hp := Lib.hid hp
          clear hlt hlen hE hv hR
          replace hll := Lib.hid hll
          go_wp2_with fail
          refine start_ (n := 16) (S := fun w' => w'.cell? ⟨w.heap.size, 0, none⟩ = some (.string n) ∧ w'.cell? ⟨w.heap.size, 1, none⟩ = some (.string o) ∧ w'.cell? ⟨w.heap.size, 2, none⟩ = some (.int .i64 ti) ∧ w'.cell? ⟨w.heap.size, 3, none⟩ = some (.bool g) ∧ w'.cell? ⟨(ad.add (q.toNat * 4)).block, (ad.add (q.toNat * 4)).off + 2, none⟩ = some (.int .i64 p)) (ds := []) #[false, false, false, false, false, false, false, false, false, false, false, false, false, false, false, false] (by kernel_rfl) rfl rfl ⟨(K2.out.1), (K2.out.2.1), (K2.out.2.2.1), (K2.out.2.2.2), d2⟩ (fun hHeld => ?_)
          refine pure_ (i := 0) (N := some 19) (v := ?_) (a' := ?_) #[true, false, false, false, false, false, false, false, false, false, false, false, false, false, false, false] rfl rfl (by kernel_rfl) (fun _ _ _ h => h) (Or.inl ⟨by rfl, ?_⟩) ?_ ?_
          rotate_left
          · intro w'
            go_simp
            with_reducible rfl
          rotate_left
          · simp only [Act.put, List.setIfInBounds_toArray, List.set_cons_zero, List.set_cons_succ, i64_w, i32_w]
            rfl
          refine pure_ (i := 1) (N := some 20) (v := ?_) (a' := ?_) #[true, true, false, false, false, false, false, false, false, false, false, false, false, false, false, false] rfl rfl (by kernel_rfl) (fun _ _ _ h => h) (Or.inl ⟨by rfl, ?_⟩) ?_ ?_
          rotate_left
          · intro w'
            go_simp
            with_reducible rfl
          rotate_left
          · simp only [Act.put, List.setIfInBounds_toArray, List.set_cons_zero, List.set_cons_succ, i64_w, i32_w]
            rfl
          refine pure_ (i := 2) (N := some 21) (v := ?_) (a' := ?_) #[true, true, true, false, false, false, false, false, false, false, false, false, false, false, false, false] rfl rfl (by kernel_rfl) (fun _ _ _ h => h) (Or.inl ⟨by rfl, ?_⟩) ?_ ?_
          rotate_left
          · intro w'
            go_simp
            with_reducible rfl
          rotate_left
          · simp only [Act.put, List.setIfInBounds_toArray, List.set_cons_zero, List.set_cons_succ, i64_w, i32_w]
            rfl
          refine pure_ (i := 3) (N := some 22) (v := ?_) (a' := ?_) #[true, true, true, true, false, false, false, false, false, false, false, false, false, false, false, false] rfl rfl (by kernel_rfl) (fun _ _ _ h => h) (Or.inl ⟨by rfl, ?_⟩) ?_ ?_
          rotate_left
          · intro w'
            go_simp
            with_reducible rfl
          rotate_left
          · simp only [Act.put, List.setIfInBounds_toArray, List.set_cons_zero, List.set_cons_succ, i64_w, i32_w]
            rfl
          refine pure_ (i := 4) (N := some 23) (v := ?_) (a' := ?_) #[true, true, true, true, true, false, false, false, false, false, false, false, false, false, false, false] rfl rfl (by kernel_rfl) (fun _ _ _ h => h) (Or.inl ⟨by rfl, ?_⟩) ?_ ?_
          rotate_left
          · intro w'
            go_simp
            with_reducible rfl
          rotate_left
          · simp only [Act.put, List.setIfInBounds_toArray, List.set_cons_zero, List.set_cons_succ, i64_w, i32_w]
            rfl
          refine pure_ (i := 6) (N := some 25) (v := ?_) (a' := ?_) #[true, true, true, true, true, false, true, false, false, false, false, false, false, false, false, false] rfl rfl (by kernel_rfl) (fun _ _ _ h => h) (Or.inl ⟨by rfl, ?_⟩) ?_ ?_
          rotate_left
          · intro w'
            go_simp
            with_reducible rfl
          rotate_left
          · simp only [Act.put, List.setIfInBounds_toArray, List.set_cons_zero, List.set_cons_succ, i64_w, i32_w]
            rfl
          refine pure_ (i := 7) (N := some 26) (v := ?_) (a' := ?_) #[true, true, true, true, true, false, true, true, false, false, false, false, false, false, false, false] rfl rfl (by kernel_rfl) (fun _ _ _ h => h) (Or.inl ⟨by rfl, ?_⟩) ?_ ?_
          rotate_left
          · intro w'
            go_simp
            with_reducible rfl
          rotate_left
          · simp only [Act.put, List.setIfInBounds_toArray, List.set_cons_zero, List.set_cons_succ, i64_w, i32_w]
            rfl
          refine pure_ (i := 8) (N := some 27) (v := ?_) (a' := ?_) #[true, true, true, true, true, false, true, true, true, false, false, false, false, false, false, false] rfl rfl (by kernel_rfl) (fun _ _ _ h => h) (Or.inl ⟨by rfl, ?_⟩) ?_ ?_
          rotate_left
          · intro w'
            go_simp
            with_reducible rfl
          rotate_left
          · simp only [Act.put, List.setIfInBounds_toArray, List.set_cons_zero, List.set_cons_succ, i64_w, i32_w]
            rfl
          refine pure_ (i := 9) (N := some 28) (v := ?_) (a' := ?_) #[true, true, true, true, true, false, true, true, true, true, false, false, false, false, false, false] rfl rfl (by kernel_rfl) (fun _ _ _ h => h) (Or.inl ⟨by rfl, ?_⟩) ?_ ?_
          rotate_left
          · intro w'
            go_simp
            with_reducible rfl
          rotate_left
          · simp only [Act.put, List.setIfInBounds_toArray, List.set_cons_zero, List.set_cons_succ, i64_w, i32_w]
            rfl
          refine pure_ (i := 10) (N := some 29) (v := ?_) (a' := ?_) #[true, true, true, true, true, false, true, true, true, true, true, false, false, false, false, false] rfl rfl (by kernel_rfl) (fun _ _ _ h => h) (Or.inl ⟨by rfl, ?_⟩) ?_ ?_
          rotate_left
          · intro w'
            go_simp
            with_reducible rfl
          rotate_left
          · simp only [Act.put, List.setIfInBounds_toArray, List.set_cons_zero, List.set_cons_succ, i64_w, i32_w]
            rfl
          refine pure_ (i := 11) (N := some 30) (v := ?_) (a' := ?_) #[true, true, true, true, true, false, true, true, true, true, true, true, false, false, false, false] rfl rfl (by kernel_rfl) (fun _ _ _ h => h) (Or.inl ⟨by rfl, ?_⟩) ?_ ?_
          rotate_left
          · intro w'
            go_simp
            with_reducible rfl
          rotate_left
          · simp only [Act.put, List.setIfInBounds_toArray, List.set_cons_zero, List.set_cons_succ, i64_w, i32_w]
            rfl
          refine take_ (i := 5) (N := some 24) (v := ?_) (a' := ?_) #[true, true, true, true, true, true, true, true, true, true, true, true, false, false, false, false] rfl rfl (by kernel_rfl) (fun _ _ _ h => h) (Or.inl ⟨by rfl, ?_⟩) hHeld ?_ ?_
          rotate_left
          · rintro w' ⟨s0, s1, s2, s3, s4⟩
            go_simp
            with_reducible rfl
          rotate_left
          · simp only [Act.put, List.setIfInBounds_toArray, List.set_cons_zero, List.set_cons_succ, i64_w, i32_w]
            rfl
          refine take_ (i := 12) (N := some 31) (v := ?_) (a' := ?_) #[true, true, true, true, true, true, true, true, true, true, true, true, true, false, false, false] rfl rfl (by kernel_rfl) (fun _ _ _ h => h) (Or.inl ⟨by rfl, ?_⟩) hHeld ?_ ?_
          rotate_left
          · rintro w' ⟨s0, s1, s2, s3, s4⟩
            go_simp
            with_reducible rfl
          rotate_left
          · simp only [Act.put, List.setIfInBounds_toArray, List.set_cons_zero, List.set_cons_succ, i64_w, i32_w]
            rfl
          refine pure_ (i := 13) (N := some 32) (v := ?_) (a' := ?_) #[true, true, true, true, true, true, true, true, true, true, true, true, true, true, false, false] rfl rfl (by kernel_rfl) (fun _ _ _ h => h) (Or.inl ⟨by rfl, ?_⟩) ?_ ?_
          rotate_left
          · intro w'
            go_simp
            with_reducible rfl
          rotate_left
          · simp only [Act.put, List.setIfInBounds_toArray, List.set_cons_zero, List.set_cons_succ, i64_w, i32_w]
            rfl
          refine pure_ (i := 14) (N := some 33) (v := ?_) (a' := ?_) #[true, true, true, true, true, true, true, true, true, true, true, true, true, true, true, false] rfl rfl (by kernel_rfl) (fun _ _ _ h => h) (Or.inl ⟨by rfl, ?_⟩) ?_ ?_
          rotate_left
          · intro w'
            go_simp
            with_reducible rfl
          rotate_left
          · simp only [Act.put, List.setIfInBounds_toArray, List.set_cons_zero, List.set_cons_succ, i64_w, i32_w]
            rfl
          refine pure_ (i := 15) (N := some 18) (v := ?_) (a' := ?_) #[true, true, true, true, true, true, true, true, true, true, true, true, true, true, true, true] rfl rfl (by kernel_rfl) (fun _ _ _ h => h) (Or.inl ⟨by rfl, ?_⟩) ?_ ?_
          rotate_left
          · intro w'
            go_simp
            with_reducible rfl
          rotate_left
          · simp only [Act.put, List.setIfInBounds_toArray, List.set_cons_zero, List.set_cons_succ, i64_w, i32_w]
            rfl
          refine done_ (by kernel_rfl) ?_
          clear hHeld d2 k1 k2 k3 k4 e0 e1 hp
          obtain ⟨AA, hAA⟩ : ∃ AA, AA = some ad := ⟨_, rfl⟩
          have hAn : AA = none → l = [] := fun h => by rw [hAA] at h; cases h
          rw [← hAA] at hr r0 cv r2 ⊢
          clear hAA
          replace hr := Lib.hid hr
        case' neg =>
          have e0 : decide (0 < l.length) = false := decide_eq_false hlen
          clear hlen hE hv hR
          replace hll := Lib.hid hll
          go_wp2_with fail
          refine start_ (n := 16) (S := fun w' => True) (ds := []) #[false, false, false, false, false, false, false, false, false, false, false, false, false, false, false, false] (by kernel_rfl) rfl rfl trivial (fun hHeld => ?_)
          refine pure_ (i := 0) (N := some 19) (v := ?_) (a' := ?_) #[true, false, false, false, false, false, false, false, false, false, false, false, false, false, false, false] rfl rfl (by kernel_rfl) (fun _ _ _ h => h) (Or.inl ⟨by rfl, ?_⟩) ?_ ?_
          rotate_left
          · intro w'
            go_simp
            with_reducible rfl
          rotate_left
          · simp only [Act.put, List.setIfInBounds_toArray, List.set_cons_zero, List.set_cons_succ, i64_w, i32_w]
            rfl
          refine pure_ (i := 1) (N := some 20) (v := ?_) (a' := ?_) #[true, true, false, false, false, false, false, false, false, false, false, false, false, false, false, false] rfl rfl (by kernel_rfl) (fun _ _ _ h => h) (Or.inl ⟨by rfl, ?_⟩) ?_ ?_
          rotate_left
          · intro w'
            go_simp
            with_reducible rfl
          rotate_left
          · simp only [Act.put, List.setIfInBounds_toArray, List.set_cons_zero, List.set_cons_succ, i64_w, i32_w]
            rfl
          refine pure_ (i := 2) (N := some 21) (v := ?_) (a' := ?_) #[true, true, true, false, false, false, false, false, false, false, false, false, false, false, false, false] rfl rfl (by kernel_rfl) (fun _ _ _ h => h) (Or.inl ⟨by rfl, ?_⟩) ?_ ?_
          rotate_left
          · intro w'
            go_simp
            with_reducible rfl
          rotate_left
          · simp only [Act.put, List.setIfInBounds_toArray, List.set_cons_zero, List.set_cons_succ, i64_w, i32_w]
            rfl
          refine pure_ (i := 3) (N := some 22) (v := ?_) (a' := ?_) #[true, true, true, true, false, false, false, false, false, false, false, false, false, false, false, false] rfl rfl (by kernel_rfl) (fun _ _ _ h => h) (Or.inl ⟨by rfl, ?_⟩) ?_ ?_
          rotate_left
          · intro w'
            go_simp
            with_reducible rfl
          rotate_left
          · simp only [Act.put, List.setIfInBounds_toArray, List.set_cons_zero, List.set_cons_succ, i64_w, i32_w]
            rfl
          refine pure_ (i := 4) (N := some 23) (v := undef) (a' := ?_) #[true, true, true, true, true, false, false, false, false, false, false, false, false, false, false, false] rfl rfl (by kernel_rfl) (fun _ _ _ h => h) (Or.inr ⟨by rfl, rfl⟩) ?_ ?_
          rotate_left
          · simp only [Act.put, List.setIfInBounds_toArray, List.set_cons_zero, List.set_cons_succ, i64_w, i32_w]
            rfl
          refine pure_ (i := 5) (N := some 24) (v := undef) (a' := ?_) #[true, true, true, true, true, true, false, false, false, false, false, false, false, false, false, false] rfl rfl (by kernel_rfl) (fun _ _ _ h => h) (Or.inr ⟨by rfl, rfl⟩) ?_ ?_
          rotate_left
          · simp only [Act.put, List.setIfInBounds_toArray, List.set_cons_zero, List.set_cons_succ, i64_w, i32_w]
            rfl
          refine pure_ (i := 6) (N := some 25) (v := undef) (a' := ?_) #[true, true, true, true, true, true, true, false, false, false, false, false, false, false, false, false] rfl rfl (by kernel_rfl) (fun _ _ _ h => h) (Or.inr ⟨by rfl, rfl⟩) ?_ ?_
          rotate_left
          · simp only [Act.put, List.setIfInBounds_toArray, List.set_cons_zero, List.set_cons_succ, i64_w, i32_w]
            rfl
          refine pure_ (i := 7) (N := some 26) (v := undef) (a' := ?_) #[true, true, true, true, true, true, true, true, false, false, false, false, false, false, false, false] rfl rfl (by kernel_rfl) (fun _ _ _ h => h) (Or.inr ⟨by rfl, rfl⟩) ?_ ?_
          rotate_left
          · simp only [Act.put, List.setIfInBounds_toArray, List.set_cons_zero, List.set_cons_succ, i64_w, i32_w]
            rfl
          refine pure_ (i := 8) (N := some 27) (v := undef) (a' := ?_) #[true, true, true, true, true, true, true, true, true, false, false, false, false, false, false, false] rfl rfl (by kernel_rfl) (fun _ _ _ h => h) (Or.inr ⟨by rfl, rfl⟩) ?_ ?_
          rotate_left
          · simp only [Act.put, List.setIfInBounds_toArray, List.set_cons_zero, List.set_cons_succ, i64_w, i32_w]
            rfl
          refine pure_ (i := 9) (N := some 28) (v := undef) (a' := ?_) #[true, true, true, true, true, true, true, true, true, true, false, false, false, false, false, false] rfl rfl (by kernel_rfl) (fun _ _ _ h => h) (Or.inr ⟨by rfl, rfl⟩) ?_ ?_
          rotate_left
          · simp only [Act.put, List.setIfInBounds_toArray, List.set_cons_zero, List.set_cons_succ, i64_w, i32_w]
            rfl
          refine pure_ (i := 10) (N := some 29) (v := undef) (a' := ?_) #[true, true, true, true, true, true, true, true, true, true, true, false, false, false, false, false] rfl rfl (by kernel_rfl) (fun _ _ _ h => h) (Or.inr ⟨by rfl, rfl⟩) ?_ ?_
          rotate_left
          · simp only [Act.put, List.setIfInBounds_toArray, List.set_cons_zero, List.set_cons_succ, i64_w, i32_w]
            rfl
          refine pure_ (i := 11) (N := some 30) (v := undef) (a' := ?_) #[true, true, true, true, true, true, true, true, true, true, true, true, false, false, false, false] rfl rfl (by kernel_rfl) (fun _ _ _ h => h) (Or.inr ⟨by rfl, rfl⟩) ?_ ?_
          rotate_left
          · simp only [Act.put, List.setIfInBounds_toArray, List.set_cons_zero, List.set_cons_succ, i64_w, i32_w]
            rfl
          refine pure_ (i := 12) (N := some 31) (v := undef) (a' := ?_) #[true, true, true, true, true, true, true, true, true, true, true, true, true, false, false, false] rfl rfl (by kernel_rfl) (fun _ _ _ h => h) (Or.inr ⟨by rfl, rfl⟩) ?_ ?_
          rotate_left
          · simp only [Act.put, List.setIfInBounds_toArray, List.set_cons_zero, List.set_cons_succ, i64_w, i32_w]
            rfl
          refine pure_ (i := 13) (N := some 32) (v := undef) (a' := ?_) #[true, true, true, true, true, true, true, true, true, true, true, true, true, true, false, false] rfl rfl (by kernel_rfl) (fun _ _ _ h => h) (Or.inr ⟨by rfl, rfl⟩) ?_ ?_
          rotate_left
          · simp only [Act.put, List.setIfInBounds_toArray, List.set_cons_zero, List.set_cons_succ, i64_w, i32_w]
            rfl
          refine pure_ (i := 14) (N := some 33) (v := ?_) (a' := ?_) #[true, true, true, true, true, true, true, true, true, true, true, true, true, true, true, false] rfl rfl (by kernel_rfl) (fun _ _ _ h => h) (Or.inl ⟨by rfl, ?_⟩) ?_ ?_
          rotate_left
          · intro w'
            go_simp
            with_reducible rfl
          rotate_left
          · simp only [Act.put, List.setIfInBounds_toArray, List.set_cons_zero, List.set_cons_succ, i64_w, i32_w]
            rfl
          refine pure_ (i := 15) (N := some 18) (v := ?_) (a' := ?_) #[true, true, true, true, true, true, true, true, true, true, true, true, true, true, true, true] rfl rfl (by kernel_rfl) (fun _ _ _ h => h) (Or.inl ⟨by rfl, ?_⟩) ?_ ?_
          rotate_left
          · intro w'
            go_simp
            with_reducible rfl
          rotate_left
          · simp only [Act.put, List.setIfInBounds_toArray, List.set_cons_zero, List.set_cons_succ, i64_w, i32_w]
            rfl
          refine done_ (by kernel_rfl) ?_
          clear hHeld e0
          have hAn : A = none → l = [] := C_none hr
          obtain ⟨AA, hAA⟩ : ∃ AA, AA = A := ⟨_, rfl⟩
          rw [← hAA] at hr r0 cv r2 hAn ⊢
          clear hAA
          replace hr := Lib.hid hr
        all_goals
          have r3 := Kd.C_below r2.out (Below.refl _ _).drew
          have hb3 := hb2'.trans (Below.refl w.heap.size w2).drew
          have hT3 := hT.below hb3 hT.six
          clear r2 hb2' hb2 r0 hb0 hb1 hb1' cR cR1 cv hT1
          generalize w2.drew = w3 at K2 r3 hb3 hT3 ⊢
          clear w2 w1 w0
          by_cases h256 : 256 ≤ l.length
          · have e2 : decide (256 ≤ l.length) = true := decide_eq_true h256
            go_wp2_with fail
            go_ret2
            exact ⟨⟨_, _, Or.inr ⟨hv'.out, hR'.out, Or.inr ⟨hE'.out, Or.inl ⟨h256, rfl⟩⟩⟩, rfl, Or.inl ⟨by decide, rfl⟩⟩, hb3⟩
          · have e2 : decide (256 ≤ l.length) = false := decide_eq_false h256
            have hl256 : l.length < 256 := by omega
            go_wp2_with fail
            refine start_ (n := 6) (S := fun w' => w'.cell? ⟨w.heap.size, 0, none⟩ = some (.string n) ∧ w'.cell? ⟨w.heap.size, 1, none⟩ = some (.string o) ∧ w'.cell? ⟨w.heap.size, 2, none⟩ = some (.int .i64 ti) ∧ w'.cell? ⟨w.heap.size, 3, none⟩ = some (.bool g) ∧ Below w3.heap.size w3 w') (ds := []) #[false, false, false, false, false, false] (by kernel_rfl) rfl rfl ⟨K2.out.1, K2.out.2.1, K2.out.2.2.1, K2.out.2.2.2, (Below.refl _ _).drew⟩ (fun hHeld => ?_)
            refine pure_ (i := 0) (N := some 38) (v := ?_) (a' := ?_) #[true, false, false, false, false, false] rfl rfl (by kernel_rfl) (fun _ _ _ h => h) (Or.inl ⟨by rfl, ?_⟩) ?_ ?_
            rotate_left
            · intro w'
              go_simp
              with_reducible rfl
            rotate_left
            · simp only [Act.put, List.setIfInBounds_toArray, List.set_cons_zero, List.set_cons_succ, i64_w, i32_w]
              rfl
            refine take_ (i := 2) (N := some 40) (v := ?_) (a' := ?_) #[true, false, true, false, false, false] rfl rfl (by kernel_rfl) (fun _ _ _ h => h) (Or.inl ⟨by rfl, ?_⟩) hHeld ?_ ?_
            rotate_left
            · rintro w' ⟨s0, s1, s2, s3, s4⟩
              go_simp
              with_reducible rfl
            rotate_left
            · simp only [Act.put, List.setIfInBounds_toArray, List.set_cons_zero, List.set_cons_succ, i64_w, i32_w]
              rfl
            refine join_ (σ := Value × Nat) 2 #[true, true, true, true, false, false] (fun s_ => [(39, s_.1), (41, .slice (some ⟨s_.2, 0, none⟩) 1 1)]) (fun s_ w' => (w'.cell? ⟨w.heap.size, 0, none⟩ = some (.string n) ∧ w'.cell? ⟨w.heap.size, 1, none⟩ = some (.string o) ∧ w'.cell? ⟨w.heap.size, 2, none⟩ = some (.int .i64 ti) ∧ w'.cell? ⟨w.heap.size, 3, none⟩ = some (.bool g) ∧ Below w3.heap.size w3 w') ∧ Kd.R k40 40 w' w3.heap.size (fun _ => True) s_.1 l ∧ w'.heap[s_.2]? = some (.cells #[.string n, .string o, .int .i64 ti, .bool g] 40 (0, 0))) ?_ ?_
            rotate_left
            · intro hCont
              refine two_ (i := 1) (j := 3) (Ni := some 39) (Nj := some 41) #[true, true, true, false, false, false] #[true, false, true, true, false, false] rfl rfl rfl rfl (by kernel_rfl) (by decide) (by decide) (fun K hK => ?_) (fun K hK => ?_)
              · skip
                refine goes_ Tryd.func56 (by kernel_rfl) rfl #[.slice AA l.length c] (by rfl) rfl rfl (by simp only [List.map_toArray, List.map_cons, List.map_nil]; rfl) ?_
                with_reducible refine (clone_ok AA c l _ (Kd.C_below r3 hHeld.2.2.2.2) (by omega) hAn).mono ?_
                rintro e w5 ⟨v5, rfl, hR5, hb5⟩
                refine ⟨_, rfl, ?_⟩
                refine hK.out _ _ ⟨pw_cell_below (hHeld.2.2.2.2.trans (hb5.mono hHeld.2.2.2.2.size)) K2.out.1, pw_cell_below (hHeld.2.2.2.2.trans (hb5.mono hHeld.2.2.2.2.size)) K2.out.2.1, pw_cell_below (hHeld.2.2.2.2.trans (hb5.mono hHeld.2.2.2.2.size)) K2.out.2.2.1, pw_cell_below (hHeld.2.2.2.2.trans (hb5.mono hHeld.2.2.2.2.size)) K2.out.2.2.2, hHeld.2.2.2.2.trans (hb5.mono hHeld.2.2.2.2.size)⟩ (fun hHeld => ?_)
                clear hK K
                refine norm_ (a' := ?_) ?_ ?_
                rotate_left
                · show Act.put _ (some 39) _ = _
                  simp only [Act.put, List.setIfInBounds_toArray, List.set_cons_zero, List.set_cons_succ, i64_w, i32_w]
                  rfl
                refine one_ (i := 3) (N := some 41) #[true, true, true, true, false, false] rfl rfl (by kernel_rfl) (by decide) (fun K hK => ?_)
                refine value_ (w1 := ?_) (v := ?_) (by rfl) rfl ?_ ?_
                rotate_left 2
                · go_simp
                  constructor
                  · rfl
                  · rfl
                refine hK.out _ _ ⟨pw_cell_below (hHeld.2.2.2.2.trans ((Below.alloc (Below.refl _ _) (Nat.le_refl _) _).mono hHeld.2.2.2.2.size)) K2.out.1, pw_cell_below (hHeld.2.2.2.2.trans ((Below.alloc (Below.refl _ _) (Nat.le_refl _) _).mono hHeld.2.2.2.2.size)) K2.out.2.1, pw_cell_below (hHeld.2.2.2.2.trans ((Below.alloc (Below.refl _ _) (Nat.le_refl _) _).mono hHeld.2.2.2.2.size)) K2.out.2.2.1, pw_cell_below (hHeld.2.2.2.2.trans ((Below.alloc (Below.refl _ _) (Nat.le_refl _) _).mono hHeld.2.2.2.2.size)) K2.out.2.2.2, hHeld.2.2.2.2.trans ((Below.alloc (Below.refl _ _) (Nat.le_refl _) _).mono hHeld.2.2.2.2.size)⟩ (fun hHeld => ?_)
                clear hK K
                refine norm_ (a' := ?_) ?_ ?_
                rotate_left
                · show Act.put _ (some 41) _ = _
                  simp only [Act.put, List.setIfInBounds_toArray, List.set_cons_zero, List.set_cons_succ, i64_w, i32_w]
                  rfl
                exact norm_ (by simp only [putAll, Act.put, List.setIfInBounds_toArray, List.set_cons_zero, List.set_cons_succ]) (hCont (v5, w5.heap.size) _ ⟨hHeld, Kd.R_lower (Kd.R_alloc hR5 _) (Nat.le_refl _), heap_alloc_new w5 _⟩)
              · skip
                refine value_ (w1 := ?_) (v := ?_) (by rfl) rfl ?_ ?_
                rotate_left 2
                · go_simp
                  constructor
                  · rfl
                  · rfl
                refine hK.out _ _ ⟨pw_cell_below (hHeld.2.2.2.2.trans ((Below.alloc (Below.refl _ _) (Nat.le_refl _) _).mono hHeld.2.2.2.2.size)) K2.out.1, pw_cell_below (hHeld.2.2.2.2.trans ((Below.alloc (Below.refl _ _) (Nat.le_refl _) _).mono hHeld.2.2.2.2.size)) K2.out.2.1, pw_cell_below (hHeld.2.2.2.2.trans ((Below.alloc (Below.refl _ _) (Nat.le_refl _) _).mono hHeld.2.2.2.2.size)) K2.out.2.2.1, pw_cell_below (hHeld.2.2.2.2.trans ((Below.alloc (Below.refl _ _) (Nat.le_refl _) _).mono hHeld.2.2.2.2.size)) K2.out.2.2.2, hHeld.2.2.2.2.trans ((Below.alloc (Below.refl _ _) (Nat.le_refl _) _).mono hHeld.2.2.2.2.size)⟩ (fun hHeld => ?_)
                clear hK K
                refine norm_ (a' := ?_) ?_ ?_
                rotate_left
                · show Act.put _ (some 41) _ = _
                  simp only [Act.put, List.setIfInBounds_toArray, List.set_cons_zero, List.set_cons_succ, i64_w, i32_w]
                  rfl
                refine one_ (i := 1) (N := some 39) #[true, true, true, true, false, false] rfl rfl (by kernel_rfl) (by decide) (fun K hK => ?_)
                refine goes_ Tryd.func56 (by kernel_rfl) rfl #[.slice AA l.length c] (by rfl) rfl rfl (by simp only [List.map_toArray, List.map_cons, List.map_nil]; rfl) ?_
                with_reducible refine (clone_ok AA c l _ (Kd.C_below r3 hHeld.2.2.2.2) (by omega) hAn).mono ?_
                rintro e w5 ⟨v5, rfl, hR5, hb5⟩
                refine ⟨_, rfl, ?_⟩
                refine hK.out _ _ ⟨pw_cell_below (hHeld.2.2.2.2.trans (hb5.mono hHeld.2.2.2.2.size)) K2.out.1, pw_cell_below (hHeld.2.2.2.2.trans (hb5.mono hHeld.2.2.2.2.size)) K2.out.2.1, pw_cell_below (hHeld.2.2.2.2.trans (hb5.mono hHeld.2.2.2.2.size)) K2.out.2.2.1, pw_cell_below (hHeld.2.2.2.2.trans (hb5.mono hHeld.2.2.2.2.size)) K2.out.2.2.2, hHeld.2.2.2.2.trans (hb5.mono hHeld.2.2.2.2.size)⟩ (fun hHeld => ?_)
                clear hK K
                refine norm_ (a' := ?_) ?_ ?_
                rotate_left
                · show Act.put _ (some 39) _ = _
                  simp only [Act.put, List.setIfInBounds_toArray, List.set_cons_zero, List.set_cons_succ, i64_w, i32_w]
                  rfl
                exact norm_ (by simp only [putAll, Act.put, List.setIfInBounds_toArray, List.set_cons_zero, List.set_cons_succ]) (hCont (v5, w3.heap.size) _ ⟨hHeld, Kd.R_lower hR5 (by rw [size_ad]; exact Nat.le_succ _), (hb5.block _ (by rw [size_ad]; exact Nat.lt_succ_self _)).trans (heap_alloc_new w3 _)⟩)
            rintro ⟨v5, gb⟩ w6 ⟨hS_, hR6, hbx⟩
            have hHeld : w6.cell? ⟨w.heap.size, 0, none⟩ = some (.string n) ∧ w6.cell? ⟨w.heap.size, 1, none⟩ = some (.string o) ∧ w6.cell? ⟨w.heap.size, 2, none⟩ = some (.int .i64 ti) ∧ w6.cell? ⟨w.heap.size, 3, none⟩ = some (.bool g) ∧ Below w3.heap.size w3 w6 := hS_
            refine norm_ (a' := ?_) ?_ ?_
            rotate_left
            · simp only [putAll, Act.put, List.setIfInBounds_toArray, List.set_cons_zero, List.set_cons_succ]
              rfl
            refine one_ (i := 4) (N := some 42) #[true, true, true, true, true, false] rfl rfl (by kernel_rfl) (by decide) (fun K hK => ?_)
            refine Kd.R_append_rows_step k40 w3.heap.size (by rfl) _ _ 36 40 _ 48 rfl Tryd.underlying36 info40 rfl (by decide) (by decide) v5 l [⟨n, o, ti, g⟩] (some ⟨gb, 0, none⟩) 1 1 (fun _ => True) (fun _ => False) rfl rfl hR6 (box_reads hbx) (fun x cs h => k40_free h) (fun k h => h.elim) (fun _ _ => trivial) hHeld.2.2.2.2 hHeld.2.2.2.2.size (by omega) ?_
            intro v7 w7 hR7 hb7 hg7 hat7
            refine hK.out _ _ ⟨pw_cell_below (hb7) K2.out.1, pw_cell_below (hb7) K2.out.2.1, pw_cell_below (hb7) K2.out.2.2.1, pw_cell_below (hb7) K2.out.2.2.2, hb7⟩ (fun hHeld => ?_)
            clear hK K
            refine norm_ (a' := ?_) ?_ ?_
            rotate_left
            · show Act.put _ (some 42) _ = _
              simp only [Act.put, List.setIfInBounds_toArray, List.set_cons_zero, List.set_cons_succ, i64_w, i32_w]
              rfl
            refine pure_ (i := 5) (N := some 6) (v := ?_) (a' := ?_) #[true, true, true, true, true, true] rfl rfl (by kernel_rfl) (fun _ _ _ h => h) (Or.inl ⟨by rfl, ?_⟩) ?_ ?_
            rotate_left
            · intro w'
              go_simp
              with_reducible rfl
            rotate_left
            · simp only [Act.put, List.setIfInBounds_toArray, List.set_cons_zero, List.set_cons_succ, i64_w, i32_w]
              rfl
            refine done_ (by kernel_rfl) ?_
            obtain ⟨A7, c7, rfl, hc7, hC7⟩ := Kd.R_reads hR7
            have K7 : Hid (w7.cell? ⟨w.heap.size, 0, none⟩ = some (.string n) ∧ w7.cell? ⟨w.heap.size, 1, none⟩ = some (.string o) ∧ w7.cell? ⟨w.heap.size, 2, none⟩ = some (.int .i64 ti) ∧ w7.cell? ⟨w.heap.size, 3, none⟩ = some (.bool g)) := ⟨pw_cell_below hb7 K2.out.1, pw_cell_below hb7 K2.out.2.1, pw_cell_below hb7 K2.out.2.2.1, pw_cell_below hb7 K2.out.2.2.2⟩
            have hb7' := hb3.trans (hb7.mono hb3.size)
            clear hHeld hat7
            have hD0 := fun w8 b8 (hD8 : Dict enc40 Tryd.prog 9 w8 b8 (l ++ [(⟨n, o, ti, g⟩ : S40)]).length (presT (l ++ [⟨n, o, ti, g⟩]) ti)) => follow_ok2 b8 _ (presT (l ++ [⟨n, o, ti, g⟩]) ti) n w8 ((l ++ [(⟨n, o, ti, g⟩ : S40)]).map (·.f0)) hD8 (fun k hk => by
              cases hp : presT (l ++ [⟨n, o, ti, g⟩]) ti k with
              | none => exact absurd hp hk
              | some x =>
                obtain ⟨h1, h2, _⟩ := presT_mem _ ti k x hp
                exact List.mem_map.2 ⟨x, h1, h2⟩) (by rw [List.length_map, List.length_append]; have := hll.out; simp; omega) (by have := (right_sizes hR'.out).1; simp only at this; omega) (fun k x hx => by
                have h1 := (presT_mem _ ti k x hx).1
                rcases List.mem_append.1 h1 with h1 | h1
                · have := (right_sizes (valid_mem hv'.out x h1)).2; omega
                · rw [List.mem_singleton.1 h1]; have := (right_sizes hR'.out).2; omega)
            have hP0 := fun w8 h => present_ok A7 c7 (l ++ [(⟨n, o, ti, g⟩ : S40)]) ti w8 (Kd.C_below hC7 h) (by rw [List.length_append]; have := hll.out; simp; omega) (fun x hx => by
                rcases List.mem_append.1 hx with h1 | h1
                · have := (right_sizes (valid_mem hv'.out x h1)).1; omega
                · rw [List.mem_singleton.1 h1]; have := (right_sizes hR'.out).1; omega)
            replace hD0 := Lib.hid hD0
            replace hP0 := Lib.hid hP0
            replace hR7 := Lib.hid hR7
            generalize hLA : l ++ [(⟨n, o, ti, g⟩ : S40)] = LA at hC7 hR7 hD0 hP0 hc7 ⊢
            replace hLA := Lib.hid hLA
            go_wp2_with fail
            refine start_ (n := 12) (S := fun w' => w'.cell? ⟨w.heap.size, 0, none⟩ = some (.string n) ∧ w'.cell? ⟨w.heap.size, 1, none⟩ = some (.string o) ∧ w'.cell? ⟨w.heap.size, 2, none⟩ = some (.int .i64 ti) ∧ w'.cell? ⟨w.heap.size, 3, none⟩ = some (.bool g) ∧ Below w7.heap.size w7 w') (ds := []) #[false, false, false, false, false, false, false, false, false, false, false, false] (by kernel_rfl) rfl rfl ⟨K7.out.1, K7.out.2.1, K7.out.2.2.1, K7.out.2.2.2, (Below.refl _ _).drew⟩ (fun hHeld => ?_)
            refine pure_ (i := 0) (N := some 44) (v := ?_) (a' := ?_) #[true, false, false, false, false, false, false, false, false, false, false, false] rfl rfl (by kernel_rfl) (fun _ _ _ h => h) (Or.inl ⟨by rfl, ?_⟩) ?_ ?_
            rotate_left
            · intro w'
              go_simp
              with_reducible rfl
            rotate_left
            · simp only [Act.put, List.setIfInBounds_toArray, List.set_cons_zero, List.set_cons_succ, i64_w, i32_w]
              rfl
            refine pure_ (i := 1) (N := some 45) (v := ?_) (a' := ?_) #[true, true, false, false, false, false, false, false, false, false, false, false] rfl rfl (by kernel_rfl) (fun _ _ _ h => h) (Or.inl ⟨by rfl, ?_⟩) ?_ ?_
            rotate_left
            · intro w'
              go_simp
              with_reducible rfl
            rotate_left
            · simp only [Act.put, List.setIfInBounds_toArray, List.set_cons_zero, List.set_cons_succ, i64_w, i32_w]
              rfl
            refine pure_ (i := 4) (N := some 48) (v := ?_) (a' := ?_) #[true, true, false, false, true, false, false, false, false, false, false, false] rfl rfl (by kernel_rfl) (fun _ _ _ h => h) (Or.inl ⟨by rfl, ?_⟩) ?_ ?_
            rotate_left
            · intro w'
              go_simp
              with_reducible rfl
            rotate_left
            · simp only [Act.put, List.setIfInBounds_toArray, List.set_cons_zero, List.set_cons_succ, i64_w, i32_w]
              rfl
            refine take_ (i := 2) (N := some 46) (v := ?_) (a' := ?_) #[true, true, true, false, true, false, false, false, false, false, false, false] rfl rfl (by kernel_rfl) (fun _ _ _ h => h) (Or.inl ⟨by rfl, ?_⟩) hHeld ?_ ?_
            rotate_left
            · rintro w' ⟨s0, s1, s2, s3, s4⟩
              go_simp
              with_reducible rfl
            rotate_left
            · simp only [Act.put, List.setIfInBounds_toArray, List.set_cons_zero, List.set_cons_succ, i64_w, i32_w]
              rfl
            refine take_ (i := 5) (N := some 49) (v := ?_) (a' := ?_) #[true, true, true, false, true, true, false, false, false, false, false, false] rfl rfl (by kernel_rfl) (fun _ _ _ h => h) (Or.inl ⟨by rfl, ?_⟩) hHeld ?_ ?_
            rotate_left
            · rintro w' ⟨s0, s1, s2, s3, s4⟩
              go_simp
              with_reducible rfl
            rotate_left
            · simp only [Act.put, List.setIfInBounds_toArray, List.set_cons_zero, List.set_cons_succ, i64_w, i32_w]
              rfl
            refine one_ (i := 3) (N := some 47) #[true, true, true, true, true, true, false, false, false, false, false, false] rfl rfl (by kernel_rfl) (by decide) (fun K hK => ?_)
            refine goes_ Tryd.func55 (by kernel_rfl) rfl #[.slice A7 LA.length c7, .int .i64 ti] (by rfl) rfl rfl (by simp only [List.map_toArray, List.map_cons, List.map_nil]; rfl) ?_
            with_reducible refine (hP0.out _ hHeld.2.2.2.2).mono ?_
            rintro e w8 ⟨b8, rfl, hb8, hD8, hw8⟩
            refine ⟨_, rfl, ?_⟩
            refine hK.out _ _ ⟨pw_cell_below (hHeld.2.2.2.2.trans (hw8.mono hHeld.2.2.2.2.size)) K7.out.1, pw_cell_below (hHeld.2.2.2.2.trans (hw8.mono hHeld.2.2.2.2.size)) K7.out.2.1, pw_cell_below (hHeld.2.2.2.2.trans (hw8.mono hHeld.2.2.2.2.size)) K7.out.2.2.1, pw_cell_below (hHeld.2.2.2.2.trans (hw8.mono hHeld.2.2.2.2.size)) K7.out.2.2.2, hHeld.2.2.2.2.trans (hw8.mono hHeld.2.2.2.2.size)⟩ (fun hHeld => ?_)
            clear hK K
            refine norm_ (a' := ?_) ?_ ?_
            rotate_left
            · show Act.put _ (some 47) _ = _
              simp only [Act.put, List.setIfInBounds_toArray, List.set_cons_zero, List.set_cons_succ, i64_w, i32_w]
              rfl
            refine one_ (i := 6) (N := some 50) #[true, true, true, true, true, true, true, false, false, false, false, false] rfl rfl (by kernel_rfl) (by decide) (fun K hK => ?_)
            refine goes_ Tryd.func54 (by kernel_rfl) rfl #[.map (some b8), .string n] (by rfl) rfl rfl (by simp only [List.map_toArray, List.map_cons, List.map_nil]; rfl) ?_
            with_reducible refine (hD0.out _ b8 (hD8.below (Below.refl _ _))).mono ?_
            rintro e w9 ⟨⟨r9, k9, rfl, hp9⟩, hb9⟩
            refine ⟨_, rfl, ?_⟩
            refine hK.out _ _ ⟨pw_cell_below (hHeld.2.2.2.2.trans (hb9.mono hHeld.2.2.2.2.size)) K7.out.1, pw_cell_below (hHeld.2.2.2.2.trans (hb9.mono hHeld.2.2.2.2.size)) K7.out.2.1, pw_cell_below (hHeld.2.2.2.2.trans (hb9.mono hHeld.2.2.2.2.size)) K7.out.2.2.1, pw_cell_below (hHeld.2.2.2.2.trans (hb9.mono hHeld.2.2.2.2.size)) K7.out.2.2.2, hHeld.2.2.2.2.trans (hb9.mono hHeld.2.2.2.2.size)⟩ (fun hHeld => ?_)
            clear hK K
            refine norm_ (a' := ?_) ?_ ?_
            rotate_left
            · show Act.put _ (some 50) _ = _
              simp only [Act.put, List.setIfInBounds_toArray, List.set_cons_zero, List.set_cons_succ, i64_w, i32_w]
              rfl
            refine pure_ (i := 7) (N := some 43) (v := ?_) (a' := ?_) #[true, true, true, true, true, true, true, true, false, false, false, false] rfl rfl (by kernel_rfl) (fun _ _ _ h => h) (Or.inl ⟨by rfl, ?_⟩) ?_ ?_
            rotate_left
            · intro w'
              go_simp
              with_reducible rfl
            rotate_left
            · simp only [Act.put, List.setIfInBounds_toArray, List.set_cons_zero, List.set_cons_succ, i64_w, i32_w]
              rfl
            refine pure_ (i := 8) (N := some 51) (v := ?_) (a' := ?_) #[true, true, true, true, true, true, true, true, true, false, false, false] rfl rfl (by kernel_rfl) (fun _ _ _ h => h) (Or.inl ⟨by rfl, ?_⟩) ?_ ?_
            rotate_left
            · intro w'
              go_simp
              with_reducible rfl
            rotate_left
            · simp only [Act.put, List.setIfInBounds_toArray, List.set_cons_zero, List.set_cons_succ, i64_w, i32_w]
              rfl
            refine pure_ (i := 9) (N := some 52) (v := ?_) (a' := ?_) #[true, true, true, true, true, true, true, true, true, true, false, false] rfl rfl (by kernel_rfl) (fun _ _ _ h => h) (Or.inl ⟨by rfl, ?_⟩) ?_ ?_
            rotate_left
            · intro w'
              go_simp
              with_reducible rfl
            rotate_left
            · simp only [Act.put, List.setIfInBounds_toArray, List.set_cons_zero, List.set_cons_succ, i64_w, i32_w]
              rfl
            refine pure_ (i := 10) (N := some 7) (v := ?_) (a' := ?_) #[true, true, true, true, true, true, true, true, true, true, true, false] rfl rfl (by kernel_rfl) (fun _ _ _ h => h) (Or.inl ⟨by rfl, ?_⟩) ?_ ?_
            rotate_left
            · intro w'
              go_simp
              with_reducible rfl
            rotate_left
            · simp only [Act.put, List.setIfInBounds_toArray, List.set_cons_zero, List.set_cons_succ, i64_w, i32_w]
              rfl
            refine pure_ (i := 11) (N := some 8) (v := ?_) (a' := ?_) #[true, true, true, true, true, true, true, true, true, true, true, true] rfl rfl (by kernel_rfl) (fun _ _ _ h => h) (Or.inl ⟨by rfl, ?_⟩) ?_ ?_
            rotate_left
            · intro w'
              go_simp
              with_reducible rfl
            rotate_left
            · simp only [Act.put, List.setIfInBounds_toArray, List.set_cons_zero, List.set_cons_succ, i64_w, i32_w]
              rfl
            refine done_ (by kernel_rfl) ?_
            have hb9' := hb7'.trans (hHeld.2.2.2.2.mono hb7'.size)
            have q93 := hHeld.2.2.2.1
            have hR9 := Lib.hid (Kd.R_lower (Kd.R_below hR7.out hHeld.2.2.2.2) hb3.size)
            clear hHeld
            have hLA' := hLA.out
            clear hLA hD0 hP0 hR7 hC7
            subst hLA'
            replace hl256 := Lib.hid hl256
            rcases hp9 with ⟨rfl, hlead⟩ | ⟨rfl, hloop⟩
            · replace hlead := Lib.hid hlead
              go_wp2_with fail
              go_ret2
              exact ⟨⟨_, _, Or.inr ⟨hv'.out, hR'.out, Or.inr ⟨hE'.out, Or.inr ⟨hl256.out, Or.inr ⟨Or.inl (fun h => h ⟨_, hlead.out⟩), rfl⟩⟩⟩⟩, rfl, Or.inr ⟨rfl, hR9.out⟩⟩, hb9'⟩
            · replace hloop := Lib.hid hloop
              cases g
              · go_wp2_with fail
                go_ret2
                exact ⟨⟨_, _, Or.inr ⟨hv'.out, hR'.out, Or.inr ⟨hE'.out, Or.inr ⟨hl256.out, Or.inl ⟨hloop.out, rfl, rfl⟩⟩⟩⟩, rfl, Or.inl ⟨by decide, rfl⟩⟩, hb9'⟩
              · go_wp2_with fail
                go_ret2
                exact ⟨⟨_, _, Or.inr ⟨hv'.out, hR'.out, Or.inr ⟨hE'.out, Or.inr ⟨hl256.out, Or.inr ⟨Or.inr rfl, rfl⟩⟩⟩⟩, rfl, Or.inr ⟨rfl, hR9.out⟩⟩, hb9'⟩
#print axioms add_ok
end Go.Proofs.YtpejnnnkamodbaaDoor
