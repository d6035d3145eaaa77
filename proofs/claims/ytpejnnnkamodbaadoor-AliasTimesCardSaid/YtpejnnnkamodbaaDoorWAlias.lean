/- The package alias: name, right, Valid, present, follow, Follow. -/
import Derived.Test.YtpejnnnkamodbaaDoorWDict
import Derived.Test.YtpejnnnkamodbaaDoorWInts
import Derived.Test.YtpejnnnkamodbaaDoorWLast
import Derived.Deep.QuietTactic
import Derived.BigQuiet
namespace Go.Proofs.YtpejnnnkamodbaaDoor
open Go Go.RowKit Go.Maps Go.WideMaps Go.Proofs.YtpejnnnkamodbaaDoorW.PrintWords Go.Proofs.YtpejnnnkamodbaaDoorW.PrintLast
open PCanonEqual (S40 k40 z40 rd_T40 at_T40 k40_open k40_mk)

def nameT (s : ByteArray) : Bool := !s.toList.isEmpty && decide (s.size ≤ 256) && plainT s.data.toList
def rightT (a : S40) : Bool := nameT a.f0 && nameT a.f1 && !(a.f0.toList == a.f1.toList) && decide (0 ≤ a.f2) && decide (a.f2 ≤ 1099511627776)
set_option maxHeartbeats 1000000 in
theorem name_ok (s : ByteArray) (w : World) (hT : Tabs w) : Calls Tryd.prog 77 #[.string s] w fun e w' => e = .returned (.bool (nameT s)) ∧ Below w.heap.size w w' := by
  unfold nameT
  by_cases h0 : s.size = 0
  · have hs : s = ⟨#[]⟩ := ByteArray.ext (Array.size_eq_zero_iff.1 h0)
    subst hs
    go_enter Tryd.func77, Tryd.ntmps77
    go_wp2_with fail
    go_ret
    exact ⟨ret_bool (by rw [ByteArray.toList_eq]; rfl), Below.refl _ _⟩
  · have hne0 : s.toList ≠ [] := by
      rw [ByteArray.toList_eq]
      intro h
      apply h0
      show s.data.size = 0
      rw [← Array.length_toList, h]
      rfl
    have hne : (s.toList = []) = False := eq_false hne0
    have e0 : s.toList.isEmpty = false := by simpa using hne0
    clear hne0
    by_cases h1 : s.size ≤ 256
    · have cs := Lib.hid (plaintext_any s w (by omega) hT)
      have e1 : decide (s.size ≤ 256) = true := decide_eq_true h1
      have h1' : (s.size : Int) ≤ 256 := by omega
      clear h0
      go_enter Tryd.func77, Tryd.ntmps77
      go_wp2_with fail
      refine cs.out.mono ?_
      rintro e w1 ⟨rfl, hb1⟩
      go_wp2_with fail
      go_ret
      exact ⟨ret_bool (by rw [e0, e1]; rfl), hb1⟩
    · have h1' : ¬ (s.size : Int) ≤ 256 := by omega
      have e1 : decide (s.size ≤ 256) = false := decide_eq_false h1
      clear h0
      go_enter Tryd.func77, Tryd.ntmps77
      go_wp2_with fail
      go_ret
      exact ⟨ret_bool (by first | rfl | (rw [e1]; simp; done)), Below.refl _ _⟩
set_option maxHeartbeats 1000000 in
theorem right_ok (a : S40) (w : World) (hT : Tabs w) : Calls Tryd.prog 53 #[.agg #[.string a.f0, .string a.f1, .int .i64 a.f2, .bool a.f3]] w fun e w' => e = .returned (.bool (rightT a)) ∧ Below w.heap.size w w' := by
  have hb0 : Below w.heap.size w (w.alloc (Obj.cells #[Value.string a.f0, Value.string a.f1, Value.int IntKind.i64 a.f2, Value.bool a.f3] 40)) := (Below.refl _ _).alloc (Nat.le_refl _) _
  have c0 := name_ok a.f0 _ (hT.below hb0 hT.six)
  have c1 := fun w1 h => name_ok a.f1 w1 h
  unfold rightT
  obtain ⟨n, o, t, g⟩ := a
  simp only at c0 c1 hb0 ⊢
  generalize nameT n = x0 at c0 ⊢
  generalize nameT o = x1 at c1 ⊢
  cases x0
  · go_enter Tryd.func53, Tryd.ntmps53
    go_wp2_with fail
    refine c0.mono ?_
    rintro e w1 ⟨rfl, hb1⟩
    go_wp2_with fail
    go_ret
    exact ⟨rfl, hb0.trans (hb1.mono hb0.size)⟩
  · go_enter Tryd.func53, Tryd.ntmps53
    go_wp2_with fail
    refine c0.mono ?_
    rintro e w1 ⟨rfl, hb1⟩
    have hb1' := hb0.trans (hb1.mono hb0.size)
    have hT1 := hT.below hb1' hT.six
    replace c1 := c1 w1 hT1
    have hk1 : w1.heap[w.heap.size]? = some (Obj.cells #[Value.string n, Value.string o, Value.int IntKind.i64 t, Value.bool g] 40 (0, 0)) := (hb1.block _ (by rw [World.size_alloc]; omega)).trans (heap_alloc_new w _)
    have k1 : w1.cell? ⟨w.heap.size, 1, none⟩ = some (.string o) := (cell_row hk1 1).trans rfl
    go_wp2_with fail
    refine c1.mono ?_
    rintro e w2 ⟨rfl, hb2⟩
    have hk2 := (hb2.block _ (Array.getElem?_eq_some_iff.1 hk1).1).trans hk1
    have k20 : w2.cell? ⟨w.heap.size, 0, none⟩ = some (.string n) := (cell_row hk2 0).trans rfl
    have k21 : w2.cell? ⟨w.heap.size, 1, none⟩ = some (.string o) := (cell_row hk2 1).trans rfl
    have k22 : w2.cell? ⟨w.heap.size, 2, none⟩ = some (.int .i64 t) := (cell_row hk2 2).trans rfl
    clear c1 hk2 hk1 k1
    cases x1
    · go_wp2_with fail
      go_ret
      exact ⟨rfl, hb1'.trans (hb2.mono hb1'.size)⟩
    · go_wp2_with fail
      all_goals
        go_ret
        refine ⟨ret_bool ?_, hb1'.trans (hb2.mono hb1'.size)⟩
        simp_all <;> omega

/-- The tables, behind a name that a region's tactic does not open. -/
structure TabsH (w : World) : Prop where mk :: (out : Tabs w)
theorem TabsH.below {w w' : World} (h : TabsH w) (hb : Below w.heap.size w w') : TabsH w' := ⟨h.out.below hb h.out.six⟩
theorem TabsH.drew {w : World} (h : TabsH w) : TabsH w.drew := h.below (Below.refl _ _).drew
/-- The list is valid from place i on. -/
def validFrom (l : List S40) (i : Nat) : Bool := (List.range (l.length - i)).all fun j => rightT (l.getD (i + j) z40) && !(decide (0 < i + j) && decide ((l.getD (i + j - 1) z40).f2 > (l.getD (i + j) z40).f2))
def validT (l : List S40) : Bool := decide (l.length ≤ 256) && validFrom l 0
theorem validFrom_end (l : List S40) : validFrom l l.length = true := by simp [validFrom]
theorem validFrom_step (l : List S40) (i : Nat) (h : i < l.length) : validFrom l i = ((rightT (l.getD i z40) && !(decide (0 < i) && decide ((l.getD (i - 1) z40).f2 > (l.getD i z40).f2))) && validFrom l (i + 1)) := by
  unfold validFrom
  obtain ⟨n, hn⟩ : ∃ n, l.length - i = n + 1 := ⟨l.length - i - 1, by omega⟩
  rw [hn, List.range_succ_eq_map, List.all_cons, List.all_map]
  have e : l.length - (i + 1) = n := by omega
  rw [e]
  congr 1
  apply congrArg (fun f => (List.range n).all f)
  funext j
  simp [Nat.add_assoc, Nat.add_comm 1 j]

set_option maxHeartbeats 4000000 in
set_option maxRecDepth 100000 in
set_option linter.unusedSimpArgs false in
theorem valid_ok (A : Option Addr) (c : Nat) (l : List S40) (w : World) (hT : Tabs w) (hr : Kd.C k40 w A l.length l) :
    Calls Tryd.prog 28 #[.slice A l.length c] w fun e w' => e = .returned (.bool (validT l)) ∧ Below w.heap.size w w' := by
  unfold validT
  by_cases h1 : l.length ≤ 256
  · have e1 : decide (l.length ≤ 256) = true := decide_eq_true h1
    have e2 : decide (256 < l.length) = false := decide_eq_false (by omega)
    rw [e1]
    generalize hv : validFrom l 0 = V
    replace hv := Lib.hid hv
    replace hr := Lib.hid hr
    go_enter Tryd.func28, Tryd.ntmps28
    go_wp2_with fail
    go_loopw [10] (fun v wr => ∃ i : Nat, i ≤ l.length ∧ v = .int .i64 i ∧ Aside (validFrom l i = V) ∧ Below w.heap.size w wr) (fun v _ => l.length - (intOf v).toNat)
    case atStart => exact ⟨0, Nat.zero_le _, rfl, hv.out, Below.refl _ _⟩
    case round =>
      obtain ⟨i, hi, rfl, hvi, hbr⟩ := hrel
      have hTr := hT.below hbr hT.six
      by_cases hlt : i < l.length
      · have e3 : decide (i < l.length) = true := decide_eq_true hlt
        have hrr : Kd.C k40 wr A l.length l := Kd.C_below hr.out hbr
        obtain ⟨ad, rfl, d0, d1, d2, d3⟩ := at_T40 hrr i (by omega) (by omega)
        rw [Int.toNat_natCast] at d0 d1 d2 d3
        have hst := validFrom_step l i hlt
        have hra : rd_T40 l i = l.getD i z40 := by simp [rd_T40]
        rw [hra] at d0 d1 d2 d3
        generalize l.getD i z40 = a at d0 d1 d2 d3 hst
        by_cases hR : rightT a = true
        · have cR := fun w h => right_ok a w h
          rw [hR] at cR
          rw [hR] at hst
          replace cR := Lib.hid cR
          obtain ⟨n, o, t, g⟩ := a
          clear hR hra
          by_cases hpos : 0 < i
          · have e5 : decide (0 < i) = true := decide_eq_true hpos
            obtain ⟨ad', had', -, -, d2', -⟩ := at_T40 hrr ((i - 1 : Nat) : Int) (by omega) (by omega)
            obtain rfl := Option.some.inj had'
            rw [Int.toNat_natCast] at d2'
            rw [show rd_T40 l ((i - 1 : Nat) : Int) = l.getD (i - 1) z40 from by simp [rd_T40]] at d2'
            generalize l.getD (i - 1) z40 = pa at d2' hst
            generalize hp : pa.f2 = p at d2' hst
            obtain ⟨q, k1⟩ : ∃ q : Int, (i : Int) - 1 = q := ⟨_, rfl⟩
            have k2 : (0 : Int) ≤ q := by omega
            have k3 : q < (l.length : Int) := by omega
            have k4 : wrap64 q = q := by unfold wrap64; omega
            rw [show (i - 1) * 4 = q.toNat * 4 from by omega] at d2'
            clear hrr hp
            have hbq : Below wr.heap.size wr (wr.alloc (Obj.cells #[Value.string n, Value.string o, Value.int IntKind.i64 t, Value.bool g] 40)) := (Below.refl _ _).alloc (Nat.le_refl _) _
            have hblk := heap_alloc_new wr (Obj.cells #[Value.string n, Value.string o, Value.int IntKind.i64 t, Value.bool g] 40)
            go_wp2_with fail
            generalize wr.alloc (Obj.cells #[Value.string n, Value.string o, Value.int IntKind.i64 t, Value.bool g] 40) = wq at hbq hblk ⊢
            have q0 : wq.cell? ⟨wr.heap.size, 0, none⟩ = some (.string n) := (cell_row hblk 0).trans rfl
            have q1 : wq.cell? ⟨wr.heap.size, 1, none⟩ = some (.string o) := (cell_row hblk 1).trans rfl
            have q2 : wq.cell? ⟨wr.heap.size, 2, none⟩ = some (.int .i64 t) := (cell_row hblk 2).trans rfl
            have q3 : wq.cell? ⟨wr.heap.size, 3, none⟩ = some (.bool g) := (cell_row hblk 3).trans rfl
            have hTq : TabsH wq := ⟨hTr.below hbq hTr.six⟩
            have hbq' := hbr.trans (hbq.mono hbr.size)
            have q4 := pw_cell_below hbq d2'
            generalize wr.heap.size = G at q0 q1 q2 q3 hbq ⊢
            refine start_ (n := 18) (S := fun w' => TabsH w' ∧ w'.cell? ⟨G, 0, none⟩ = some (.string n) ∧ w'.cell? ⟨G, 1, none⟩ = some (.string o) ∧ w'.cell? ⟨G, 2, none⟩ = some (.int .i64 t) ∧ w'.cell? ⟨G, 3, none⟩ = some (.bool g) ∧ w'.cell? ⟨(ad.add (q.toNat * 4)).block, (ad.add (q.toNat * 4)).off + 2, none⟩ = some (.int .i64 p)) (ds := []) #[false, false, false, false, false, false, false, false, false, false, false, false, false, false, false, false, false, false] (by kernel_rfl) rfl rfl ⟨TabsH.drew hTq, q0, q1, q2, q3, q4⟩ (fun hHeld => ?_)
            refine take_ (i := 0) (N := some 15) (v := ?_) (a' := ?_) #[true, false, false, false, false, false, false, false, false, false, false, false, false, false, false, false, false, false] rfl rfl (by kernel_rfl) (fun _ _ _ h => h) (Or.inl ⟨by rfl, ?_⟩) hHeld ?_ ?_
            rotate_left
            · rintro w' ⟨s0, s1, s2, s3, s4, s5⟩
              go_simp
              with_reducible rfl
            rotate_left
            · simp only [Act.put, List.setIfInBounds_toArray, List.set_cons_zero, List.set_cons_succ, i64_w, i32_w]
              rfl
            refine one_ (i := 1) (N := some 16) #[true, true, false, false, false, false, false, false, false, false, false, false, false, false, false, false, false, false] rfl rfl (by kernel_rfl) (by decide) (fun K hK => ?_)
            refine goes_ Tryd.func53 (by kernel_rfl) rfl #[.agg #[.string n, .string o, .int .i64 t, .bool g]] (by rfl) rfl rfl (by simp only [List.map_toArray, List.map_cons, List.map_nil]; rfl) ?_
            with_reducible refine (cR.out _ (TabsH.out hHeld.1)).mono ?_
            rintro e w3 ⟨rfl, hb1⟩
            refine ⟨_, rfl, ?_⟩
            refine hK.out _ _ ⟨TabsH.below hHeld.1 hb1, pw_cell_below hb1 hHeld.2.1, pw_cell_below hb1 hHeld.2.2.1, pw_cell_below hb1 hHeld.2.2.2.1, pw_cell_below hb1 hHeld.2.2.2.2.1, pw_cell_below hb1 hHeld.2.2.2.2.2⟩ (fun hHeld => ?_)
            clear hK K
            refine norm_ (a' := ?_) ?_ ?_
            rotate_left
            · show Act.put _ (some 16) _ = _
              simp only [Act.put, List.setIfInBounds_toArray, List.set_cons_zero, List.set_cons_succ, i64_w, i32_w]
              rfl
            refine pure_ (i := 2) (N := some 17) (v := ?_) (a' := ?_) #[true, true, true, false, false, false, false, false, false, false, false, false, false, false, false, false, false, false] rfl rfl (by kernel_rfl) (fun _ _ _ h => h) (Or.inl ⟨by rfl, ?_⟩) ?_ ?_
            rotate_left
            · intro w'
              go_simp
              with_reducible rfl
            rotate_left
            · simp only [Act.put, List.setIfInBounds_toArray, List.set_cons_zero, List.set_cons_succ, i64_w, i32_w]
              rfl
            refine pure_ (i := 3) (N := some 18) (v := ?_) (a' := ?_) #[true, true, true, true, false, false, false, false, false, false, false, false, false, false, false, false, false, false] rfl rfl (by kernel_rfl) (fun _ _ _ h => h) (Or.inl ⟨by rfl, ?_⟩) ?_ ?_
            rotate_left
            · intro w'
              go_simp
              with_reducible rfl
            rotate_left
            · simp only [Act.put, List.setIfInBounds_toArray, List.set_cons_zero, List.set_cons_succ, i64_w, i32_w]
              rfl
            refine pure_ (i := 4) (N := some 19) (v := ?_) (a' := ?_) #[true, true, true, true, true, false, false, false, false, false, false, false, false, false, false, false, false, false] rfl rfl (by kernel_rfl) (fun _ _ _ h => h) (Or.inl ⟨by rfl, ?_⟩) ?_ ?_
            rotate_left
            · intro w'
              go_simp
              with_reducible rfl
            rotate_left
            · simp only [Act.put, List.setIfInBounds_toArray, List.set_cons_zero, List.set_cons_succ, i64_w, i32_w]
              rfl
            refine pure_ (i := 5) (N := some 20) (v := ?_) (a' := ?_) #[true, true, true, true, true, true, false, false, false, false, false, false, false, false, false, false, false, false] rfl rfl (by kernel_rfl) (fun _ _ _ h => h) (Or.inl ⟨by rfl, ?_⟩) ?_ ?_
            rotate_left
            · intro w'
              go_simp
              with_reducible rfl
            rotate_left
            · simp only [Act.put, List.setIfInBounds_toArray, List.set_cons_zero, List.set_cons_succ, i64_w, i32_w]
              rfl
            refine pure_ (i := 6) (N := some 21) (v := ?_) (a' := ?_) #[true, true, true, true, true, true, true, false, false, false, false, false, false, false, false, false, false, false] rfl rfl (by kernel_rfl) (fun _ _ _ h => h) (Or.inl ⟨by rfl, ?_⟩) ?_ ?_
            rotate_left
            · intro w'
              go_simp
              with_reducible rfl
            rotate_left
            · simp only [Act.put, List.setIfInBounds_toArray, List.set_cons_zero, List.set_cons_succ, i64_w, i32_w]
              rfl
            refine pure_ (i := 7) (N := some 22) (v := ?_) (a' := ?_) #[true, true, true, true, true, true, true, true, false, false, false, false, false, false, false, false, false, false] rfl rfl (by kernel_rfl) (fun _ _ _ h => h) (Or.inl ⟨by rfl, ?_⟩) ?_ ?_
            rotate_left
            · intro w'
              go_simp
              with_reducible rfl
            rotate_left
            · simp only [Act.put, List.setIfInBounds_toArray, List.set_cons_zero, List.set_cons_succ, i64_w, i32_w]
              rfl
            refine pure_ (i := 8) (N := some 23) (v := ?_) (a' := ?_) #[true, true, true, true, true, true, true, true, true, false, false, false, false, false, false, false, false, false] rfl rfl (by kernel_rfl) (fun _ _ _ h => h) (Or.inl ⟨by rfl, ?_⟩) ?_ ?_
            rotate_left
            · intro w'
              go_simp
              with_reducible rfl
            rotate_left
            · simp only [Act.put, List.setIfInBounds_toArray, List.set_cons_zero, List.set_cons_succ, i64_w, i32_w]
              rfl
            refine pure_ (i := 9) (N := some 24) (v := ?_) (a' := ?_) #[true, true, true, true, true, true, true, true, true, true, false, false, false, false, false, false, false, false] rfl rfl (by kernel_rfl) (fun _ _ _ h => h) (Or.inl ⟨by rfl, ?_⟩) ?_ ?_
            rotate_left
            · intro w'
              go_simp
              with_reducible rfl
            rotate_left
            · simp only [Act.put, List.setIfInBounds_toArray, List.set_cons_zero, List.set_cons_succ, i64_w, i32_w]
              rfl
            refine pure_ (i := 10) (N := some 25) (v := ?_) (a' := ?_) #[true, true, true, true, true, true, true, true, true, true, true, false, false, false, false, false, false, false] rfl rfl (by kernel_rfl) (fun _ _ _ h => h) (Or.inl ⟨by rfl, ?_⟩) ?_ ?_
            rotate_left
            · intro w'
              go_simp
              with_reducible rfl
            rotate_left
            · simp only [Act.put, List.setIfInBounds_toArray, List.set_cons_zero, List.set_cons_succ, i64_w, i32_w]
              rfl
            refine pure_ (i := 11) (N := some 26) (v := ?_) (a' := ?_) #[true, true, true, true, true, true, true, true, true, true, true, true, false, false, false, false, false, false] rfl rfl (by kernel_rfl) (fun _ _ _ h => h) (Or.inl ⟨by rfl, ?_⟩) ?_ ?_
            rotate_left
            · intro w'
              go_simp
              with_reducible rfl
            rotate_left
            · simp only [Act.put, List.setIfInBounds_toArray, List.set_cons_zero, List.set_cons_succ, i64_w, i32_w]
              rfl
            refine pure_ (i := 13) (N := some 28) (v := ?_) (a' := ?_) #[true, true, true, true, true, true, true, true, true, true, true, true, false, true, false, false, false, false] rfl rfl (by kernel_rfl) (fun _ _ _ h => h) (Or.inl ⟨by rfl, ?_⟩) ?_ ?_
            rotate_left
            · intro w'
              go_simp
              with_reducible rfl
            rotate_left
            · simp only [Act.put, List.setIfInBounds_toArray, List.set_cons_zero, List.set_cons_succ, i64_w, i32_w]
              rfl
            refine take_ (i := 12) (N := some 27) (v := ?_) (a' := ?_) #[true, true, true, true, true, true, true, true, true, true, true, true, true, true, false, false, false, false] rfl rfl (by kernel_rfl) (fun _ _ _ h => h) (Or.inl ⟨by rfl, ?_⟩) hHeld ?_ ?_
            rotate_left
            · rintro w' ⟨s0, s1, s2, s3, s4, s5⟩
              go_simp
              with_reducible rfl
            rotate_left
            · simp only [Act.put, List.setIfInBounds_toArray, List.set_cons_zero, List.set_cons_succ, i64_w, i32_w]
              rfl
            refine take_ (i := 14) (N := some 29) (v := ?_) (a' := ?_) #[true, true, true, true, true, true, true, true, true, true, true, true, true, true, true, false, false, false] rfl rfl (by kernel_rfl) (fun _ _ _ h => h) (Or.inl ⟨by rfl, ?_⟩) hHeld ?_ ?_
            rotate_left
            · rintro w' ⟨s0, s1, s2, s3, s4, s5⟩
              go_simp
              with_reducible rfl
            rotate_left
            · simp only [Act.put, List.setIfInBounds_toArray, List.set_cons_zero, List.set_cons_succ, i64_w, i32_w]
              rfl
            refine pure_ (i := 15) (N := some 30) (v := ?_) (a' := ?_) #[true, true, true, true, true, true, true, true, true, true, true, true, true, true, true, true, false, false] rfl rfl (by kernel_rfl) (fun _ _ _ h => h) (Or.inl ⟨by rfl, ?_⟩) ?_ ?_
            rotate_left
            · intro w'
              go_simp
              with_reducible rfl
            rotate_left
            · simp only [Act.put, List.setIfInBounds_toArray, List.set_cons_zero, List.set_cons_succ, i64_w, i32_w]
              rfl
            refine pure_ (i := 16) (N := some 31) (v := ?_) (a' := ?_) #[true, true, true, true, true, true, true, true, true, true, true, true, true, true, true, true, true, false] rfl rfl (by kernel_rfl) (fun _ _ _ h => h) (Or.inl ⟨by rfl, ?_⟩) ?_ ?_
            rotate_left
            · intro w'
              go_simp
              with_reducible rfl
            rotate_left
            · simp only [Act.put, List.setIfInBounds_toArray, List.set_cons_zero, List.set_cons_succ, i64_w, i32_w]
              rfl
            refine pure_ (i := 17) (N := some 32) (v := ?_) (a' := ?_) #[true, true, true, true, true, true, true, true, true, true, true, true, true, true, true, true, true, true] rfl rfl (by kernel_rfl) (fun _ _ _ h => h) (Or.inl ⟨by rfl, ?_⟩) ?_ ?_
            rotate_left
            · intro w'
              go_simp
              with_reducible rfl
            rotate_left
            · simp only [Act.put, List.setIfInBounds_toArray, List.set_cons_zero, List.set_cons_succ, i64_w, i32_w]
              rfl
            refine done_ (by kernel_rfl) ?_
            go_wp2
            all_goals have hbw : Below w.heap.size w w3 := hbq'.trans ((Below.refl _ _).drew.trans (hb1.mono (Nat.le_refl _)) |>.mono hbq'.size)
            all_goals rename_i hpt
            · go_ret
              refine ⟨ret_bool ?_, hbw⟩
              rw [← hvi.out, hst, decide_eq_true (show p > t from by omega), e5]
              rfl
            · go_roundw
              case rel =>
                refine ⟨i + 1, by omega, by go_num, ?_, hbw⟩
                have hst' := hst
                rw [decide_eq_false (show ¬ (p > t) from by omega), hvi.out] at hst'
                exact (by simpa using hst'.symm : validFrom l (i + 1) = V)
              case measure => simp [intOf]; omega
          · have e5 : decide (0 < i) = false := decide_eq_false hpos
            replace hst := Lib.hid (show validFrom l (i + 1) = V by rw [← hvi.out, hst, e5]; simp)
            clear hrr hpos
            have hbq : Below wr.heap.size wr (wr.alloc (Obj.cells #[Value.string n, Value.string o, Value.int IntKind.i64 t, Value.bool g] 40)) := (Below.refl _ _).alloc (Nat.le_refl _) _
            have hblk := heap_alloc_new wr (Obj.cells #[Value.string n, Value.string o, Value.int IntKind.i64 t, Value.bool g] 40)
            go_wp2_with fail
            generalize wr.alloc (Obj.cells #[Value.string n, Value.string o, Value.int IntKind.i64 t, Value.bool g] 40) = wq at hbq hblk ⊢
            have q0 : wq.cell? ⟨wr.heap.size, 0, none⟩ = some (.string n) := (cell_row hblk 0).trans rfl
            have q1 : wq.cell? ⟨wr.heap.size, 1, none⟩ = some (.string o) := (cell_row hblk 1).trans rfl
            have q2 : wq.cell? ⟨wr.heap.size, 2, none⟩ = some (.int .i64 t) := (cell_row hblk 2).trans rfl
            have q3 : wq.cell? ⟨wr.heap.size, 3, none⟩ = some (.bool g) := (cell_row hblk 3).trans rfl
            have hTq : TabsH wq := ⟨hTr.below hbq hTr.six⟩
            have hbq' := hbr.trans (hbq.mono hbr.size)
            generalize wr.heap.size = G at q0 q1 q2 q3 hbq ⊢
            refine start_ (n := 18) (S := fun w' => TabsH w' ∧ w'.cell? ⟨G, 0, none⟩ = some (.string n) ∧ w'.cell? ⟨G, 1, none⟩ = some (.string o) ∧ w'.cell? ⟨G, 2, none⟩ = some (.int .i64 t) ∧ w'.cell? ⟨G, 3, none⟩ = some (.bool g)) (ds := []) #[false, false, false, false, false, false, false, false, false, false, false, false, false, false, false, false, false, false] (by kernel_rfl) rfl rfl ⟨TabsH.drew hTq, q0, q1, q2, q3⟩ (fun hHeld => ?_)
            refine take_ (i := 0) (N := some 15) (v := ?_) (a' := ?_) #[true, false, false, false, false, false, false, false, false, false, false, false, false, false, false, false, false, false] rfl rfl (by kernel_rfl) (fun _ _ _ h => h) (Or.inl ⟨by rfl, ?_⟩) hHeld ?_ ?_
            rotate_left
            · rintro w' ⟨s0, s1, s2, s3, s4⟩
              go_simp
              with_reducible rfl
            rotate_left
            · simp only [Act.put, List.setIfInBounds_toArray, List.set_cons_zero, List.set_cons_succ, i64_w, i32_w]
              rfl
            refine one_ (i := 1) (N := some 16) #[true, true, false, false, false, false, false, false, false, false, false, false, false, false, false, false, false, false] rfl rfl (by kernel_rfl) (by decide) (fun K hK => ?_)
            refine goes_ Tryd.func53 (by kernel_rfl) rfl #[.agg #[.string n, .string o, .int .i64 t, .bool g]] (by rfl) rfl rfl (by simp only [List.map_toArray, List.map_cons, List.map_nil]; rfl) ?_
            with_reducible refine (cR.out _ (TabsH.out hHeld.1)).mono ?_
            rintro e w3 ⟨rfl, hb1⟩
            refine ⟨_, rfl, ?_⟩
            refine hK.out _ _ ⟨TabsH.below hHeld.1 hb1, pw_cell_below hb1 hHeld.2.1, pw_cell_below hb1 hHeld.2.2.1, pw_cell_below hb1 hHeld.2.2.2.1, pw_cell_below hb1 hHeld.2.2.2.2⟩ (fun hHeld => ?_)
            clear hK K
            refine norm_ (a' := ?_) ?_ ?_
            rotate_left
            · show Act.put _ (some 16) _ = _
              simp only [Act.put, List.setIfInBounds_toArray, List.set_cons_zero, List.set_cons_succ, i64_w, i32_w]
              rfl
            refine pure_ (i := 2) (N := some 17) (v := ?_) (a' := ?_) #[true, true, true, false, false, false, false, false, false, false, false, false, false, false, false, false, false, false] rfl rfl (by kernel_rfl) (fun _ _ _ h => h) (Or.inl ⟨by rfl, ?_⟩) ?_ ?_
            rotate_left
            · intro w'
              go_simp
              with_reducible rfl
            rotate_left
            · simp only [Act.put, List.setIfInBounds_toArray, List.set_cons_zero, List.set_cons_succ, i64_w, i32_w]
              rfl
            refine pure_ (i := 3) (N := some 18) (v := ?_) (a' := ?_) #[true, true, true, true, false, false, false, false, false, false, false, false, false, false, false, false, false, false] rfl rfl (by kernel_rfl) (fun _ _ _ h => h) (Or.inl ⟨by rfl, ?_⟩) ?_ ?_
            rotate_left
            · intro w'
              go_simp
              with_reducible rfl
            rotate_left
            · simp only [Act.put, List.setIfInBounds_toArray, List.set_cons_zero, List.set_cons_succ, i64_w, i32_w]
              rfl
            refine pure_ (i := 4) (N := some 19) (v := ?_) (a' := ?_) #[true, true, true, true, true, false, false, false, false, false, false, false, false, false, false, false, false, false] rfl rfl (by kernel_rfl) (fun _ _ _ h => h) (Or.inl ⟨by rfl, ?_⟩) ?_ ?_
            rotate_left
            · intro w'
              go_simp
              with_reducible rfl
            rotate_left
            · simp only [Act.put, List.setIfInBounds_toArray, List.set_cons_zero, List.set_cons_succ, i64_w, i32_w]
              rfl
            refine pure_ (i := 5) (N := some 20) (v := ?_) (a' := ?_) #[true, true, true, true, true, true, false, false, false, false, false, false, false, false, false, false, false, false] rfl rfl (by kernel_rfl) (fun _ _ _ h => h) (Or.inl ⟨by rfl, ?_⟩) ?_ ?_
            rotate_left
            · intro w'
              go_simp
              with_reducible rfl
            rotate_left
            · simp only [Act.put, List.setIfInBounds_toArray, List.set_cons_zero, List.set_cons_succ, i64_w, i32_w]
              rfl
            refine pure_ (i := 6) (N := some 21) (v := ?_) (a' := ?_) #[true, true, true, true, true, true, true, false, false, false, false, false, false, false, false, false, false, false] rfl rfl (by kernel_rfl) (fun _ _ _ h => h) (Or.inl ⟨by rfl, ?_⟩) ?_ ?_
            rotate_left
            · intro w'
              go_simp
              with_reducible rfl
            rotate_left
            · simp only [Act.put, List.setIfInBounds_toArray, List.set_cons_zero, List.set_cons_succ, i64_w, i32_w]
              rfl
            refine pure_ (i := 7) (N := some 22) (v := undef) (a' := ?_) #[true, true, true, true, true, true, true, true, false, false, false, false, false, false, false, false, false, false] rfl rfl (by kernel_rfl) (fun _ _ _ h => h) (Or.inr ⟨by rfl, rfl⟩) ?_ ?_
            rotate_left
            · simp only [Act.put, List.setIfInBounds_toArray, List.set_cons_zero, List.set_cons_succ, i64_w, i32_w]
              rfl
            refine pure_ (i := 8) (N := some 23) (v := undef) (a' := ?_) #[true, true, true, true, true, true, true, true, true, false, false, false, false, false, false, false, false, false] rfl rfl (by kernel_rfl) (fun _ _ _ h => h) (Or.inr ⟨by rfl, rfl⟩) ?_ ?_
            rotate_left
            · simp only [Act.put, List.setIfInBounds_toArray, List.set_cons_zero, List.set_cons_succ, i64_w, i32_w]
              rfl
            refine pure_ (i := 9) (N := some 24) (v := undef) (a' := ?_) #[true, true, true, true, true, true, true, true, true, true, false, false, false, false, false, false, false, false] rfl rfl (by kernel_rfl) (fun _ _ _ h => h) (Or.inr ⟨by rfl, rfl⟩) ?_ ?_
            rotate_left
            · simp only [Act.put, List.setIfInBounds_toArray, List.set_cons_zero, List.set_cons_succ, i64_w, i32_w]
              rfl
            refine pure_ (i := 10) (N := some 25) (v := undef) (a' := ?_) #[true, true, true, true, true, true, true, true, true, true, true, false, false, false, false, false, false, false] rfl rfl (by kernel_rfl) (fun _ _ _ h => h) (Or.inr ⟨by rfl, rfl⟩) ?_ ?_
            rotate_left
            · simp only [Act.put, List.setIfInBounds_toArray, List.set_cons_zero, List.set_cons_succ, i64_w, i32_w]
              rfl
            refine pure_ (i := 11) (N := some 26) (v := undef) (a' := ?_) #[true, true, true, true, true, true, true, true, true, true, true, true, false, false, false, false, false, false] rfl rfl (by kernel_rfl) (fun _ _ _ h => h) (Or.inr ⟨by rfl, rfl⟩) ?_ ?_
            rotate_left
            · simp only [Act.put, List.setIfInBounds_toArray, List.set_cons_zero, List.set_cons_succ, i64_w, i32_w]
              rfl
            refine pure_ (i := 12) (N := some 27) (v := undef) (a' := ?_) #[true, true, true, true, true, true, true, true, true, true, true, true, true, false, false, false, false, false] rfl rfl (by kernel_rfl) (fun _ _ _ h => h) (Or.inr ⟨by rfl, rfl⟩) ?_ ?_
            rotate_left
            · simp only [Act.put, List.setIfInBounds_toArray, List.set_cons_zero, List.set_cons_succ, i64_w, i32_w]
              rfl
            refine pure_ (i := 13) (N := some 28) (v := undef) (a' := ?_) #[true, true, true, true, true, true, true, true, true, true, true, true, true, true, false, false, false, false] rfl rfl (by kernel_rfl) (fun _ _ _ h => h) (Or.inr ⟨by rfl, rfl⟩) ?_ ?_
            rotate_left
            · simp only [Act.put, List.setIfInBounds_toArray, List.set_cons_zero, List.set_cons_succ, i64_w, i32_w]
              rfl
            refine pure_ (i := 14) (N := some 29) (v := undef) (a' := ?_) #[true, true, true, true, true, true, true, true, true, true, true, true, true, true, true, false, false, false] rfl rfl (by kernel_rfl) (fun _ _ _ h => h) (Or.inr ⟨by rfl, rfl⟩) ?_ ?_
            rotate_left
            · simp only [Act.put, List.setIfInBounds_toArray, List.set_cons_zero, List.set_cons_succ, i64_w, i32_w]
              rfl
            refine pure_ (i := 15) (N := some 30) (v := undef) (a' := ?_) #[true, true, true, true, true, true, true, true, true, true, true, true, true, true, true, true, false, false] rfl rfl (by kernel_rfl) (fun _ _ _ h => h) (Or.inr ⟨by rfl, rfl⟩) ?_ ?_
            rotate_left
            · simp only [Act.put, List.setIfInBounds_toArray, List.set_cons_zero, List.set_cons_succ, i64_w, i32_w]
              rfl
            refine pure_ (i := 16) (N := some 31) (v := ?_) (a' := ?_) #[true, true, true, true, true, true, true, true, true, true, true, true, true, true, true, true, true, false] rfl rfl (by kernel_rfl) (fun _ _ _ h => h) (Or.inl ⟨by rfl, ?_⟩) ?_ ?_
            rotate_left
            · intro w'
              go_simp
              with_reducible rfl
            rotate_left
            · simp only [Act.put, List.setIfInBounds_toArray, List.set_cons_zero, List.set_cons_succ, i64_w, i32_w]
              rfl
            refine pure_ (i := 17) (N := some 32) (v := ?_) (a' := ?_) #[true, true, true, true, true, true, true, true, true, true, true, true, true, true, true, true, true, true] rfl rfl (by kernel_rfl) (fun _ _ _ h => h) (Or.inl ⟨by rfl, ?_⟩) ?_ ?_
            rotate_left
            · intro w'
              go_simp
              with_reducible rfl
            rotate_left
            · simp only [Act.put, List.setIfInBounds_toArray, List.set_cons_zero, List.set_cons_succ, i64_w, i32_w]
              rfl
            refine done_ (by kernel_rfl) ?_
            go_wp2
            have hbw : Below w.heap.size w w3 := hbq'.trans ((Below.refl _ _).drew.trans (hb1.mono (Nat.le_refl _)) |>.mono hbq'.size)
            go_roundw
            case rel => exact ⟨i + 1, by omega, by go_num, hst.out, hbw⟩
            case measure => simp [intOf]; omega
        · have cR := fun w h => right_ok a w h
          rw [show rightT a = false from by simpa using hR] at cR
          rw [show rightT a = false from by simpa using hR] at hst
          replace hst := Lib.hid (show V = false by rw [← hvi.out, hst]; rfl)
          replace cR := Lib.hid cR
          obtain ⟨n, o, t, g⟩ := a
          clear hR hra hrr
          have hbq : Below wr.heap.size wr (wr.alloc (Obj.cells #[Value.string n, Value.string o, Value.int IntKind.i64 t, Value.bool g] 40)) := (Below.refl _ _).alloc (Nat.le_refl _) _
          have hblk := heap_alloc_new wr (Obj.cells #[Value.string n, Value.string o, Value.int IntKind.i64 t, Value.bool g] 40)
          go_wp2_with fail
          generalize wr.alloc (Obj.cells #[Value.string n, Value.string o, Value.int IntKind.i64 t, Value.bool g] 40) = wq at hbq hblk ⊢
          have q0 : wq.cell? ⟨wr.heap.size, 0, none⟩ = some (.string n) := (cell_row hblk 0).trans rfl
          have q1 : wq.cell? ⟨wr.heap.size, 1, none⟩ = some (.string o) := (cell_row hblk 1).trans rfl
          have q2 : wq.cell? ⟨wr.heap.size, 2, none⟩ = some (.int .i64 t) := (cell_row hblk 2).trans rfl
          have q3 : wq.cell? ⟨wr.heap.size, 3, none⟩ = some (.bool g) := (cell_row hblk 3).trans rfl
          have hTq : TabsH wq := ⟨hTr.below hbq hTr.six⟩
          have hbq' := hbr.trans (hbq.mono hbr.size)
          generalize wr.heap.size = G at q0 q1 q2 q3 hbq ⊢
          refine start_ (n := 18) (S := fun w' => TabsH w' ∧ w'.cell? ⟨G, 0, none⟩ = some (.string n) ∧ w'.cell? ⟨G, 1, none⟩ = some (.string o) ∧ w'.cell? ⟨G, 2, none⟩ = some (.int .i64 t) ∧ w'.cell? ⟨G, 3, none⟩ = some (.bool g)) (ds := []) #[false, false, false, false, false, false, false, false, false, false, false, false, false, false, false, false, false, false] (by kernel_rfl) rfl rfl ⟨TabsH.drew hTq, q0, q1, q2, q3⟩ (fun hHeld => ?_)
          refine take_ (i := 0) (N := some 15) (v := ?_) (a' := ?_) #[true, false, false, false, false, false, false, false, false, false, false, false, false, false, false, false, false, false] rfl rfl (by kernel_rfl) (fun _ _ _ h => h) (Or.inl ⟨by rfl, ?_⟩) hHeld ?_ ?_
          rotate_left
          · rintro w' ⟨s0, s1, s2, s3, s4⟩
            go_simp
            with_reducible rfl
          rotate_left
          · simp only [Act.put, List.setIfInBounds_toArray, List.set_cons_zero, List.set_cons_succ, i64_w, i32_w]
            rfl
          refine one_ (i := 1) (N := some 16) #[true, true, false, false, false, false, false, false, false, false, false, false, false, false, false, false, false, false] rfl rfl (by kernel_rfl) (by decide) (fun K hK => ?_)
          refine goes_ Tryd.func53 (by kernel_rfl) rfl #[.agg #[.string n, .string o, .int .i64 t, .bool g]] (by rfl) rfl rfl (by simp only [List.map_toArray, List.map_cons, List.map_nil]; rfl) ?_
          with_reducible refine (cR.out _ (TabsH.out hHeld.1)).mono ?_
          rintro e w3 ⟨rfl, hb1⟩
          refine ⟨_, rfl, ?_⟩
          refine hK.out _ _ ⟨TabsH.below hHeld.1 hb1, pw_cell_below hb1 hHeld.2.1, pw_cell_below hb1 hHeld.2.2.1, pw_cell_below hb1 hHeld.2.2.2.1, pw_cell_below hb1 hHeld.2.2.2.2⟩ (fun hHeld => ?_)
          clear hK K
          refine norm_ (a' := ?_) ?_ ?_
          rotate_left
          · show Act.put _ (some 16) _ = _
            simp only [Act.put, List.setIfInBounds_toArray, List.set_cons_zero, List.set_cons_succ, i64_w, i32_w]
            rfl
          refine pure_ (i := 2) (N := some 17) (v := ?_) (a' := ?_) #[true, true, true, false, false, false, false, false, false, false, false, false, false, false, false, false, false, false] rfl rfl (by kernel_rfl) (fun _ _ _ h => h) (Or.inl ⟨by rfl, ?_⟩) ?_ ?_
          rotate_left
          · intro w'
            go_simp
            with_reducible rfl
          rotate_left
          · simp only [Act.put, List.setIfInBounds_toArray, List.set_cons_zero, List.set_cons_succ, i64_w, i32_w]
            rfl
          refine pure_ (i := 3) (N := some 18) (v := ?_) (a' := ?_) #[true, true, true, true, false, false, false, false, false, false, false, false, false, false, false, false, false, false] rfl rfl (by kernel_rfl) (fun _ _ _ h => h) (Or.inl ⟨by rfl, ?_⟩) ?_ ?_
          rotate_left
          · intro w'
            go_simp
            with_reducible rfl
          rotate_left
          · simp only [Act.put, List.setIfInBounds_toArray, List.set_cons_zero, List.set_cons_succ, i64_w, i32_w]
            rfl
          refine pure_ (i := 4) (N := some 19) (v := undef) (a' := ?_) #[true, true, true, true, true, false, false, false, false, false, false, false, false, false, false, false, false, false] rfl rfl (by kernel_rfl) (fun _ _ _ h => h) (Or.inr ⟨by rfl, rfl⟩) ?_ ?_
          rotate_left
          · simp only [Act.put, List.setIfInBounds_toArray, List.set_cons_zero, List.set_cons_succ, i64_w, i32_w]
            rfl
          refine pure_ (i := 5) (N := some 20) (v := undef) (a' := ?_) #[true, true, true, true, true, true, false, false, false, false, false, false, false, false, false, false, false, false] rfl rfl (by kernel_rfl) (fun _ _ _ h => h) (Or.inr ⟨by rfl, rfl⟩) ?_ ?_
          rotate_left
          · simp only [Act.put, List.setIfInBounds_toArray, List.set_cons_zero, List.set_cons_succ, i64_w, i32_w]
            rfl
          refine pure_ (i := 6) (N := some 21) (v := undef) (a' := ?_) #[true, true, true, true, true, true, true, false, false, false, false, false, false, false, false, false, false, false] rfl rfl (by kernel_rfl) (fun _ _ _ h => h) (Or.inr ⟨by rfl, rfl⟩) ?_ ?_
          rotate_left
          · simp only [Act.put, List.setIfInBounds_toArray, List.set_cons_zero, List.set_cons_succ, i64_w, i32_w]
            rfl
          refine pure_ (i := 7) (N := some 22) (v := undef) (a' := ?_) #[true, true, true, true, true, true, true, true, false, false, false, false, false, false, false, false, false, false] rfl rfl (by kernel_rfl) (fun _ _ _ h => h) (Or.inr ⟨by rfl, rfl⟩) ?_ ?_
          rotate_left
          · simp only [Act.put, List.setIfInBounds_toArray, List.set_cons_zero, List.set_cons_succ, i64_w, i32_w]
            rfl
          refine pure_ (i := 8) (N := some 23) (v := undef) (a' := ?_) #[true, true, true, true, true, true, true, true, true, false, false, false, false, false, false, false, false, false] rfl rfl (by kernel_rfl) (fun _ _ _ h => h) (Or.inr ⟨by rfl, rfl⟩) ?_ ?_
          rotate_left
          · simp only [Act.put, List.setIfInBounds_toArray, List.set_cons_zero, List.set_cons_succ, i64_w, i32_w]
            rfl
          refine pure_ (i := 9) (N := some 24) (v := undef) (a' := ?_) #[true, true, true, true, true, true, true, true, true, true, false, false, false, false, false, false, false, false] rfl rfl (by kernel_rfl) (fun _ _ _ h => h) (Or.inr ⟨by rfl, rfl⟩) ?_ ?_
          rotate_left
          · simp only [Act.put, List.setIfInBounds_toArray, List.set_cons_zero, List.set_cons_succ, i64_w, i32_w]
            rfl
          refine pure_ (i := 10) (N := some 25) (v := undef) (a' := ?_) #[true, true, true, true, true, true, true, true, true, true, true, false, false, false, false, false, false, false] rfl rfl (by kernel_rfl) (fun _ _ _ h => h) (Or.inr ⟨by rfl, rfl⟩) ?_ ?_
          rotate_left
          · simp only [Act.put, List.setIfInBounds_toArray, List.set_cons_zero, List.set_cons_succ, i64_w, i32_w]
            rfl
          refine pure_ (i := 11) (N := some 26) (v := undef) (a' := ?_) #[true, true, true, true, true, true, true, true, true, true, true, true, false, false, false, false, false, false] rfl rfl (by kernel_rfl) (fun _ _ _ h => h) (Or.inr ⟨by rfl, rfl⟩) ?_ ?_
          rotate_left
          · simp only [Act.put, List.setIfInBounds_toArray, List.set_cons_zero, List.set_cons_succ, i64_w, i32_w]
            rfl
          refine pure_ (i := 12) (N := some 27) (v := undef) (a' := ?_) #[true, true, true, true, true, true, true, true, true, true, true, true, true, false, false, false, false, false] rfl rfl (by kernel_rfl) (fun _ _ _ h => h) (Or.inr ⟨by rfl, rfl⟩) ?_ ?_
          rotate_left
          · simp only [Act.put, List.setIfInBounds_toArray, List.set_cons_zero, List.set_cons_succ, i64_w, i32_w]
            rfl
          refine pure_ (i := 13) (N := some 28) (v := undef) (a' := ?_) #[true, true, true, true, true, true, true, true, true, true, true, true, true, true, false, false, false, false] rfl rfl (by kernel_rfl) (fun _ _ _ h => h) (Or.inr ⟨by rfl, rfl⟩) ?_ ?_
          rotate_left
          · simp only [Act.put, List.setIfInBounds_toArray, List.set_cons_zero, List.set_cons_succ, i64_w, i32_w]
            rfl
          refine pure_ (i := 14) (N := some 29) (v := undef) (a' := ?_) #[true, true, true, true, true, true, true, true, true, true, true, true, true, true, true, false, false, false] rfl rfl (by kernel_rfl) (fun _ _ _ h => h) (Or.inr ⟨by rfl, rfl⟩) ?_ ?_
          rotate_left
          · simp only [Act.put, List.setIfInBounds_toArray, List.set_cons_zero, List.set_cons_succ, i64_w, i32_w]
            rfl
          refine pure_ (i := 15) (N := some 30) (v := undef) (a' := ?_) #[true, true, true, true, true, true, true, true, true, true, true, true, true, true, true, true, false, false] rfl rfl (by kernel_rfl) (fun _ _ _ h => h) (Or.inr ⟨by rfl, rfl⟩) ?_ ?_
          rotate_left
          · simp only [Act.put, List.setIfInBounds_toArray, List.set_cons_zero, List.set_cons_succ, i64_w, i32_w]
            rfl
          refine pure_ (i := 16) (N := some 31) (v := undef) (a' := ?_) #[true, true, true, true, true, true, true, true, true, true, true, true, true, true, true, true, true, false] rfl rfl (by kernel_rfl) (fun _ _ _ h => h) (Or.inr ⟨by rfl, rfl⟩) ?_ ?_
          rotate_left
          · simp only [Act.put, List.setIfInBounds_toArray, List.set_cons_zero, List.set_cons_succ, i64_w, i32_w]
            rfl
          refine pure_ (i := 17) (N := some 32) (v := ?_) (a' := ?_) #[true, true, true, true, true, true, true, true, true, true, true, true, true, true, true, true, true, true] rfl rfl (by kernel_rfl) (fun _ _ _ h => h) (Or.inl ⟨by rfl, ?_⟩) ?_ ?_
          rotate_left
          · intro w'
            go_simp
            with_reducible rfl
          rotate_left
          · simp only [Act.put, List.setIfInBounds_toArray, List.set_cons_zero, List.set_cons_succ, i64_w, i32_w]
            rfl
          refine done_ (by kernel_rfl) ?_
          go_wp2
          have hbw : Below w.heap.size w w3 := hbq'.trans ((Below.refl _ _).drew.trans (hb1.mono (Nat.le_refl _)) |>.mono hbq'.size)
          go_ret
          exact ⟨ret_bool (by rw [hst.out]; rfl), hbw⟩
      · have e3 : decide (i < l.length) = false := decide_eq_false hlt
        obtain rfl : i = l.length := by omega
        go_wp2_with fail
        go_ret
        exact ⟨ret_bool (by rw [← hvi.out, validFrom_end]; rfl), hbr⟩
  · have e1 : decide (l.length ≤ 256) = false := decide_eq_false h1
    have e2 : decide (256 < l.length) = true := decide_eq_true (by omega)
    clear hr
    go_enter Tryd.func28, Tryd.ntmps28
    go_wp2_with fail
    go_ret
    exact ⟨ret_bool (by rw [e1]; rfl), Below.refl _ _⟩
end Go.Proofs.YtpejnnnkamodbaaDoor
