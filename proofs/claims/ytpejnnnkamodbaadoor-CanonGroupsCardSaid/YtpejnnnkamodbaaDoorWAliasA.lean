/- Merged texts: WAlias, WFollow, WAdd. -/
import Derived.Test.YtpejnnnkamodbaaDoorWDiceA
import Derived.Test.YtpejnnnkamodbaaDoorWLast
import Derived.Deep.QuietTactic
import Derived.BigQuiet
import Derived.Lib.SliceRun
/- The package alias: name, right, Valid, present, follow, Follow. -/
namespace Go.Proofs.YtpejnnnkamodbaaDoor
open Go Go.RowKit Go.Maps Go.WideMaps Go.Proofs.YtpejnnnkamodbaaDoorW.PrintWords Go.Proofs.YtpejnnnkamodbaaDoorW.PrintLast
open PCanonEqual (S40 k40 z40 rd_T40 at_T40 k40_open k40_mk)

def nameT (s : ByteArray) : Bool := !s.toList.isEmpty && decide (s.size ≤ 256) && plainT s.data.toList
def rightT (a : S40) : Bool := nameT a.f0 && nameT a.f1 && !(a.f0.toList == a.f1.toList) && decide (0 ≤ a.f2) && decide (a.f2 ≤ 1099511627776)
set_option maxHeartbeats 1000000 in
theorem name_ok (s : ByteArray) (w : World) (hT : Tabs w) : Calls Tryd.prog 77 #[.string s] w fun e w' => e = .returned (.bool (nameT s)) ∧ Below w.heap.size w w' := by
  unfold nameT
  by_cases h0 : s.size = 0
  · have hs : s = ⟨#[]⟩ := ByteArray.ext (Array.size_eq_zero_iff.1 h0)
    subst hs
    go_enter Tryd.func77, Tryd.ntmps77
    go_wp2_with fail
    go_ret
    exact ⟨ret_bool (by rw [ByteArray.toList_eq]; rfl), Below.refl _ _⟩
  · have hne0 : s.toList ≠ [] := by
      rw [ByteArray.toList_eq]
      intro h
      apply h0
      show s.data.size = 0
      rw [← Array.length_toList, h]
      rfl
    have hne : (s.toList = []) = False := eq_false hne0
    have e0 : s.toList.isEmpty = false := by simpa using hne0
    clear hne0
    by_cases h1 : s.size ≤ 256
    · have cs := Lib.hid (plaintext_any s w (by omega) hT)
      have e1 : decide (s.size ≤ 256) = true := decide_eq_true h1
      have h1' : (s.size : Int) ≤ 256 := by omega
      clear h0
      go_enter Tryd.func77, Tryd.ntmps77
      go_wp2_with fail
      refine cs.out.mono ?_
      rintro e w1 ⟨rfl, hb1⟩
      go_wp2_with fail
      go_ret
      exact ⟨ret_bool (by rw [e0, e1]; rfl), hb1⟩
    · have h1' : ¬ (s.size : Int) ≤ 256 := by omega
      have e1 : decide (s.size ≤ 256) = false := decide_eq_false h1
      clear h0
      go_enter Tryd.func77, Tryd.ntmps77
      go_wp2_with fail
      go_ret
      exact ⟨ret_bool (by first | rfl | (rw [e1]; simp; done)), Below.refl _ _⟩
set_option maxHeartbeats 1000000 in
theorem right_ok (a : S40) (w : World) (hT : Tabs w) : Calls Tryd.prog 53 #[.agg #[.string a.f0, .string a.f1, .int .i64 a.f2, .bool a.f3]] w fun e w' => e = .returned (.bool (rightT a)) ∧ Below w.heap.size w w' := by
  have hb0 : Below w.heap.size w (w.alloc (Obj.cells #[Value.string a.f0, Value.string a.f1, Value.int IntKind.i64 a.f2, Value.bool a.f3] 40)) := (Below.refl _ _).alloc (Nat.le_refl _) _
  have c0 := name_ok a.f0 _ (hT.below hb0 hT.six)
  have c1 := fun w1 h => name_ok a.f1 w1 h
  unfold rightT
  obtain ⟨n, o, t, g⟩ := a
  simp only at c0 c1 hb0 ⊢
  generalize nameT n = x0 at c0 ⊢
  generalize nameT o = x1 at c1 ⊢
  cases x0
  · go_enter Tryd.func53, Tryd.ntmps53
    go_wp2_with fail
    refine c0.mono ?_
    rintro e w1 ⟨rfl, hb1⟩
    go_wp2_with fail
    go_ret
    exact ⟨rfl, hb0.trans (hb1.mono hb0.size)⟩
  · go_enter Tryd.func53, Tryd.ntmps53
    go_wp2_with fail
    refine c0.mono ?_
    rintro e w1 ⟨rfl, hb1⟩
    have hb1' := hb0.trans (hb1.mono hb0.size)
    have hT1 := hT.below hb1' hT.six
    replace c1 := c1 w1 hT1
    have hk1 : w1.heap[w.heap.size]? = some (Obj.cells #[Value.string n, Value.string o, Value.int IntKind.i64 t, Value.bool g] 40 (0, 0)) := (hb1.block _ (by rw [World.size_alloc]; omega)).trans (heap_alloc_new w _)
    have k1 : w1.cell? ⟨w.heap.size, 1, none⟩ = some (.string o) := (cell_row hk1 1).trans rfl
    go_wp2_with fail
    refine c1.mono ?_
    rintro e w2 ⟨rfl, hb2⟩
    have hk2 := (hb2.block _ (Array.getElem?_eq_some_iff.1 hk1).1).trans hk1
    have k20 : w2.cell? ⟨w.heap.size, 0, none⟩ = some (.string n) := (cell_row hk2 0).trans rfl
    have k21 : w2.cell? ⟨w.heap.size, 1, none⟩ = some (.string o) := (cell_row hk2 1).trans rfl
    have k22 : w2.cell? ⟨w.heap.size, 2, none⟩ = some (.int .i64 t) := (cell_row hk2 2).trans rfl
    clear c1 hk2 hk1 k1
    cases x1
    · go_wp2_with fail
      go_ret
      exact ⟨rfl, hb1'.trans (hb2.mono hb1'.size)⟩
    · go_wp2_with fail
      all_goals
        go_ret
        refine ⟨ret_bool ?_, hb1'.trans (hb2.mono hb1'.size)⟩
        simp_all <;> omega

/-- The tables, behind a name that a region's tactic does not open. -/
structure TabsH (w : World) : Prop where mk :: (out : Tabs w)
theorem TabsH.below {w w' : World} (h : TabsH w) (hb : Below w.heap.size w w') : TabsH w' := ⟨h.out.below hb h.out.six⟩
theorem TabsH.drew {w : World} (h : TabsH w) : TabsH w.drew := h.below (Below.refl _ _).drew
/-- The list is valid from place i on. -/
def validFrom (l : List S40) (i : Nat) : Bool := (List.range (l.length - i)).all fun j => rightT (l.getD (i + j) z40) && !(decide (0 < i + j) && decide ((l.getD (i + j - 1) z40).f2 > (l.getD (i + j) z40).f2))
def validT (l : List S40) : Bool := decide (l.length ≤ 256) && validFrom l 0
theorem validFrom_end (l : List S40) : validFrom l l.length = true := by simp [validFrom]
theorem validFrom_step (l : List S40) (i : Nat) (h : i < l.length) : validFrom l i = ((rightT (l.getD i z40) && !(decide (0 < i) && decide ((l.getD (i - 1) z40).f2 > (l.getD i z40).f2))) && validFrom l (i + 1)) := by
  unfold validFrom
  obtain ⟨n, hn⟩ : ∃ n, l.length - i = n + 1 := ⟨l.length - i - 1, by omega⟩
  rw [hn, List.range_succ_eq_map, List.all_cons, List.all_map]
  have e : l.length - (i + 1) = n := by omega
  rw [e]
  congr 1
  apply congrArg (fun f => (List.range n).all f)
  funext j
  simp [Nat.add_assoc, Nat.add_comm 1 j]

set_option maxHeartbeats 4000000 in
set_option maxRecDepth 100000 in
set_option linter.unusedSimpArgs false in
theorem valid_ok (A : Option Addr) (c : Nat) (l : List S40) (w : World) (hT : Tabs w) (hr : Kd.C k40 w A l.length l) :
    Calls Tryd.prog 28 #[.slice A l.length c] w fun e w' => e = .returned (.bool (validT l)) ∧ Below w.heap.size w w' := by
  unfold validT
  by_cases h1 : l.length ≤ 256
  · have e1 : decide (l.length ≤ 256) = true := decide_eq_true h1
    have e2 : decide (256 < l.length) = false := decide_eq_false (by omega)
    rw [e1]
    generalize hv : validFrom l 0 = V
    replace hv := Lib.hid hv
    replace hr := Lib.hid hr
    go_enter Tryd.func28, Tryd.ntmps28
    go_wp2_with fail
    go_loopw [10] (fun v wr => ∃ i : Nat, i ≤ l.length ∧ v = .int .i64 i ∧ Aside (validFrom l i = V) ∧ Below w.heap.size w wr) (fun v _ => l.length - (intOf v).toNat)
    case atStart => exact ⟨0, Nat.zero_le _, rfl, hv.out, Below.refl _ _⟩
    case round =>
      obtain ⟨i, hi, rfl, hvi, hbr⟩ := hrel
      have hTr := hT.below hbr hT.six
      by_cases hlt : i < l.length
      · have e3 : decide (i < l.length) = true := decide_eq_true hlt
        have hrr : Kd.C k40 wr A l.length l := Kd.C_below hr.out hbr
        obtain ⟨ad, rfl, d0, d1, d2, d3⟩ := at_T40 hrr i (by omega) (by omega)
        rw [Int.toNat_natCast] at d0 d1 d2 d3
        have hst := validFrom_step l i hlt
        have hra : rd_T40 l i = l.getD i z40 := by simp [rd_T40]
        rw [hra] at d0 d1 d2 d3
        generalize l.getD i z40 = a at d0 d1 d2 d3 hst
        by_cases hR : rightT a = true
        · have cR := fun w h => right_ok a w h
          rw [hR] at cR
          rw [hR] at hst
          replace cR := Lib.hid cR
          obtain ⟨n, o, t, g⟩ := a
          clear hR hra
          by_cases hpos : 0 < i
          · have e5 : decide (0 < i) = true := decide_eq_true hpos
            obtain ⟨ad', had', -, -, d2', -⟩ := at_T40 hrr ((i - 1 : Nat) : Int) (by omega) (by omega)
            obtain rfl := Option.some.inj had'
            rw [Int.toNat_natCast] at d2'
            rw [show rd_T40 l ((i - 1 : Nat) : Int) = l.getD (i - 1) z40 from by simp [rd_T40]] at d2'
            generalize l.getD (i - 1) z40 = pa at d2' hst
            generalize hp : pa.f2 = p at d2' hst
            obtain ⟨q, k1⟩ : ∃ q : Int, (i : Int) - 1 = q := ⟨_, rfl⟩
            have k2 : (0 : Int) ≤ q := by omega
            have k3 : q < (l.length : Int) := by omega
            have k4 : wrap64 q = q := by unfold wrap64; omega
            rw [show (i - 1) * 4 = q.toNat * 4 from by omega] at d2'
            clear hrr hp
            have hbq : Below wr.heap.size wr (wr.alloc (Obj.cells #[Value.string n, Value.string o, Value.int IntKind.i64 t, Value.bool g] 40)) := (Below.refl _ _).alloc (Nat.le_refl _) _
            have hblk := heap_alloc_new wr (Obj.cells #[Value.string n, Value.string o, Value.int IntKind.i64 t, Value.bool g] 40)
            go_wp2_with fail
            generalize wr.alloc (Obj.cells #[Value.string n, Value.string o, Value.int IntKind.i64 t, Value.bool g] 40) = wq at hbq hblk ⊢
            have q0 : wq.cell? ⟨wr.heap.size, 0, none⟩ = some (.string n) := (cell_row hblk 0).trans rfl
            have q1 : wq.cell? ⟨wr.heap.size, 1, none⟩ = some (.string o) := (cell_row hblk 1).trans rfl
            have q2 : wq.cell? ⟨wr.heap.size, 2, none⟩ = some (.int .i64 t) := (cell_row hblk 2).trans rfl
            have q3 : wq.cell? ⟨wr.heap.size, 3, none⟩ = some (.bool g) := (cell_row hblk 3).trans rfl
            have hTq : TabsH wq := ⟨hTr.below hbq hTr.six⟩
            have hbq' := hbr.trans (hbq.mono hbr.size)
            have q4 := pw_cell_below hbq d2'
            generalize wr.heap.size = G at q0 q1 q2 q3 hbq ⊢
            refine start_ (n := 18) (S := fun w' => TabsH w' ∧ w'.cell? ⟨G, 0, none⟩ = some (.string n) ∧ w'.cell? ⟨G, 1, none⟩ = some (.string o) ∧ w'.cell? ⟨G, 2, none⟩ = some (.int .i64 t) ∧ w'.cell? ⟨G, 3, none⟩ = some (.bool g) ∧ w'.cell? ⟨(ad.add (q.toNat * 4)).block, (ad.add (q.toNat * 4)).off + 2, none⟩ = some (.int .i64 p)) (ds := []) #[false, false, false, false, false, false, false, false, false, false, false, false, false, false, false, false, false, false] (by kernel_rfl) rfl rfl ⟨TabsH.drew hTq, q0, q1, q2, q3, q4⟩ (fun hHeld => ?_)
            refine take_ (i := 0) (N := some 15) (v := ?_) (a' := ?_) #[true, false, false, false, false, false, false, false, false, false, false, false, false, false, false, false, false, false] rfl rfl (by kernel_rfl) (fun _ _ _ h => h) (Or.inl ⟨by rfl, ?_⟩) hHeld ?_ ?_
            rotate_left
            · rintro w' ⟨s0, s1, s2, s3, s4, s5⟩
              go_simp
              with_reducible rfl
            rotate_left
            · simp only [Act.put, List.setIfInBounds_toArray, List.set_cons_zero, List.set_cons_succ, i64_w, i32_w]
              rfl
            refine one_ (i := 1) (N := some 16) #[true, true, false, false, false, false, false, false, false, false, false, false, false, false, false, false, false, false] rfl rfl (by kernel_rfl) (by decide) (fun K hK => ?_)
            refine goes_ Tryd.func53 (by kernel_rfl) rfl #[.agg #[.string n, .string o, .int .i64 t, .bool g]] (by rfl) rfl rfl (by simp only [List.map_toArray, List.map_cons, List.map_nil]; rfl) ?_
            with_reducible refine (cR.out _ (TabsH.out hHeld.1)).mono ?_
            rintro e w3 ⟨rfl, hb1⟩
            refine ⟨_, rfl, ?_⟩
            refine hK.out _ _ ⟨TabsH.below hHeld.1 hb1, pw_cell_below hb1 hHeld.2.1, pw_cell_below hb1 hHeld.2.2.1, pw_cell_below hb1 hHeld.2.2.2.1, pw_cell_below hb1 hHeld.2.2.2.2.1, pw_cell_below hb1 hHeld.2.2.2.2.2⟩ (fun hHeld => ?_)
            clear hK K
            refine norm_ (a' := ?_) ?_ ?_
            rotate_left
            · show Act.put _ (some 16) _ = _
              simp only [Act.put, List.setIfInBounds_toArray, List.set_cons_zero, List.set_cons_succ, i64_w, i32_w]
              rfl
            refine pure_ (i := 2) (N := some 17) (v := ?_) (a' := ?_) #[true, true, true, false, false, false, false, false, false, false, false, false, false, false, false, false, false, false] rfl rfl (by kernel_rfl) (fun _ _ _ h => h) (Or.inl ⟨by rfl, ?_⟩) ?_ ?_
            rotate_left
            · intro w'
              go_simp
              with_reducible rfl
            rotate_left
            · simp only [Act.put, List.setIfInBounds_toArray, List.set_cons_zero, List.set_cons_succ, i64_w, i32_w]
              rfl
            refine pure_ (i := 3) (N := some 18) (v := ?_) (a' := ?_) #[true, true, true, true, false, false, false, false, false, false, false, false, false, false, false, false, false, false] rfl rfl (by kernel_rfl) (fun _ _ _ h => h) (Or.inl ⟨by rfl, ?_⟩) ?_ ?_
            rotate_left
            · intro w'
              go_simp
              with_reducible rfl
            rotate_left
            · simp only [Act.put, List.setIfInBounds_toArray, List.set_cons_zero, List.set_cons_succ, i64_w, i32_w]
              rfl
            refine pure_ (i := 4) (N := some 19) (v := ?_) (a' := ?_) #[true, true, true, true, true, false, false, false, false, false, false, false, false, false, false, false, false, false] rfl rfl (by kernel_rfl) (fun _ _ _ h => h) (Or.inl ⟨by rfl, ?_⟩) ?_ ?_
            rotate_left
            · intro w'
              go_simp
              with_reducible rfl
            rotate_left
            · simp only [Act.put, List.setIfInBounds_toArray, List.set_cons_zero, List.set_cons_succ, i64_w, i32_w]
              rfl
            refine pure_ (i := 5) (N := some 20) (v := ?_) (a' := ?_) #[true, true, true, true, true, true, false, false, false, false, false, false, false, false, false, false, false, false] rfl rfl (by kernel_rfl) (fun _ _ _ h => h) (Or.inl ⟨by rfl, ?_⟩) ?_ ?_
            rotate_left
            · intro w'
              go_simp
              with_reducible rfl
            rotate_left
            · simp only [Act.put, List.setIfInBounds_toArray, List.set_cons_zero, List.set_cons_succ, i64_w, i32_w]
              rfl
            refine pure_ (i := 6) (N := some 21) (v := ?_) (a' := ?_) #[true, true, true, true, true, true, true, false, false, false, false, false, false, false, false, false, false, false] rfl rfl (by kernel_rfl) (fun _ _ _ h => h) (Or.inl ⟨by rfl, ?_⟩) ?_ ?_
            rotate_left
            · intro w'
              go_simp
              with_reducible rfl
            rotate_left
            · simp only [Act.put, List.setIfInBounds_toArray, List.set_cons_zero, List.set_cons_succ, i64_w, i32_w]
              rfl
            refine pure_ (i := 7) (N := some 22) (v := ?_) (a' := ?_) #[true, true, true, true, true, true, true, true, false, false, false, false, false, false, false, false, false, false] rfl rfl (by kernel_rfl) (fun _ _ _ h => h) (Or.inl ⟨by rfl, ?_⟩) ?_ ?_
            rotate_left
            · intro w'
              go_simp
              with_reducible rfl
            rotate_left
            · simp only [Act.put, List.setIfInBounds_toArray, List.set_cons_zero, List.set_cons_succ, i64_w, i32_w]
              rfl
            refine pure_ (i := 8) (N := some 23) (v := ?_) (a' := ?_) #[true, true, true, true, true, true, true, true, true, false, false, false, false, false, false, false, false, false] rfl rfl (by kernel_rfl) (fun _ _ _ h => h) (Or.inl ⟨by rfl, ?_⟩) ?_ ?_
            rotate_left
            · intro w'
              go_simp
              with_reducible rfl
            rotate_left
            · simp only [Act.put, List.setIfInBounds_toArray, List.set_cons_zero, List.set_cons_succ, i64_w, i32_w]
              rfl
            refine pure_ (i := 9) (N := some 24) (v := ?_) (a' := ?_) #[true, true, true, true, true, true, true, true, true, true, false, false, false, false, false, false, false, false] rfl rfl (by kernel_rfl) (fun _ _ _ h => h) (Or.inl ⟨by rfl, ?_⟩) ?_ ?_
            rotate_left
            · intro w'
              go_simp
              with_reducible rfl
            rotate_left
            · simp only [Act.put, List.setIfInBounds_toArray, List.set_cons_zero, List.set_cons_succ, i64_w, i32_w]
              rfl
            refine pure_ (i := 10) (N := some 25) (v := ?_) (a' := ?_) #[true, true, true, true, true, true, true, true, true, true, true, false, false, false, false, false, false, false] rfl rfl (by kernel_rfl) (fun _ _ _ h => h) (Or.inl ⟨by rfl, ?_⟩) ?_ ?_
            rotate_left
            · intro w'
              go_simp
              with_reducible rfl
            rotate_left
            · simp only [Act.put, List.setIfInBounds_toArray, List.set_cons_zero, List.set_cons_succ, i64_w, i32_w]
              rfl
            refine pure_ (i := 11) (N := some 26) (v := ?_) (a' := ?_) #[true, true, true, true, true, true, true, true, true, true, true, true, false, false, false, false, false, false] rfl rfl (by kernel_rfl) (fun _ _ _ h => h) (Or.inl ⟨by rfl, ?_⟩) ?_ ?_
            rotate_left
            · intro w'
              go_simp
              with_reducible rfl
            rotate_left
            · simp only [Act.put, List.setIfInBounds_toArray, List.set_cons_zero, List.set_cons_succ, i64_w, i32_w]
              rfl
            refine pure_ (i := 13) (N := some 28) (v := ?_) (a' := ?_) #[true, true, true, true, true, true, true, true, true, true, true, true, false, true, false, false, false, false] rfl rfl (by kernel_rfl) (fun _ _ _ h => h) (Or.inl ⟨by rfl, ?_⟩) ?_ ?_
            rotate_left
            · intro w'
              go_simp
              with_reducible rfl
            rotate_left
            · simp only [Act.put, List.setIfInBounds_toArray, List.set_cons_zero, List.set_cons_succ, i64_w, i32_w]
              rfl
            refine take_ (i := 12) (N := some 27) (v := ?_) (a' := ?_) #[true, true, true, true, true, true, true, true, true, true, true, true, true, true, false, false, false, false] rfl rfl (by kernel_rfl) (fun _ _ _ h => h) (Or.inl ⟨by rfl, ?_⟩) hHeld ?_ ?_
            rotate_left
            · rintro w' ⟨s0, s1, s2, s3, s4, s5⟩
              go_simp
              with_reducible rfl
            rotate_left
            · simp only [Act.put, List.setIfInBounds_toArray, List.set_cons_zero, List.set_cons_succ, i64_w, i32_w]
              rfl
            refine take_ (i := 14) (N := some 29) (v := ?_) (a' := ?_) #[true, true, true, true, true, true, true, true, true, true, true, true, true, true, true, false, false, false] rfl rfl (by kernel_rfl) (fun _ _ _ h => h) (Or.inl ⟨by rfl, ?_⟩) hHeld ?_ ?_
            rotate_left
            · rintro w' ⟨s0, s1, s2, s3, s4, s5⟩
              go_simp
              with_reducible rfl
            rotate_left
            · simp only [Act.put, List.setIfInBounds_toArray, List.set_cons_zero, List.set_cons_succ, i64_w, i32_w]
              rfl
            refine pure_ (i := 15) (N := some 30) (v := ?_) (a' := ?_) #[true, true, true, true, true, true, true, true, true, true, true, true, true, true, true, true, false, false] rfl rfl (by kernel_rfl) (fun _ _ _ h => h) (Or.inl ⟨by rfl, ?_⟩) ?_ ?_
            rotate_left
            · intro w'
              go_simp
              with_reducible rfl
            rotate_left
            · simp only [Act.put, List.setIfInBounds_toArray, List.set_cons_zero, List.set_cons_succ, i64_w, i32_w]
              rfl
            refine pure_ (i := 16) (N := some 31) (v := ?_) (a' := ?_) #[true, true, true, true, true, true, true, true, true, true, true, true, true, true, true, true, true, false] rfl rfl (by kernel_rfl) (fun _ _ _ h => h) (Or.inl ⟨by rfl, ?_⟩) ?_ ?_
            rotate_left
            · intro w'
              go_simp
              with_reducible rfl
            rotate_left
            · simp only [Act.put, List.setIfInBounds_toArray, List.set_cons_zero, List.set_cons_succ, i64_w, i32_w]
              rfl
            refine pure_ (i := 17) (N := some 32) (v := ?_) (a' := ?_) #[true, true, true, true, true, true, true, true, true, true, true, true, true, true, true, true, true, true] rfl rfl (by kernel_rfl) (fun _ _ _ h => h) (Or.inl ⟨by rfl, ?_⟩) ?_ ?_
            rotate_left
            · intro w'
              go_simp
              with_reducible rfl
            rotate_left
            · simp only [Act.put, List.setIfInBounds_toArray, List.set_cons_zero, List.set_cons_succ, i64_w, i32_w]
              rfl
            refine done_ (by kernel_rfl) ?_
            go_wp2
            all_goals have hbw : Below w.heap.size w w3 := hbq'.trans ((Below.refl _ _).drew.trans (hb1.mono (Nat.le_refl _)) |>.mono hbq'.size)
            all_goals rename_i hpt
            · go_ret
              refine ⟨ret_bool ?_, hbw⟩
              rw [← hvi.out, hst, decide_eq_true (show p > t from by omega), e5]
              rfl
            · go_roundw
              case rel =>
                refine ⟨i + 1, by omega, by go_num, ?_, hbw⟩
                have hst' := hst
                rw [decide_eq_false (show ¬ (p > t) from by omega), hvi.out] at hst'
                exact (by simpa using hst'.symm : validFrom l (i + 1) = V)
              case measure => simp [intOf]; omega
          · have e5 : decide (0 < i) = false := decide_eq_false hpos
            replace hst := Lib.hid (show validFrom l (i + 1) = V by rw [← hvi.out, hst, e5]; simp)
            clear hrr hpos
            have hbq : Below wr.heap.size wr (wr.alloc (Obj.cells #[Value.string n, Value.string o, Value.int IntKind.i64 t, Value.bool g] 40)) := (Below.refl _ _).alloc (Nat.le_refl _) _
            have hblk := heap_alloc_new wr (Obj.cells #[Value.string n, Value.string o, Value.int IntKind.i64 t, Value.bool g] 40)
            go_wp2_with fail
            generalize wr.alloc (Obj.cells #[Value.string n, Value.string o, Value.int IntKind.i64 t, Value.bool g] 40) = wq at hbq hblk ⊢
            have q0 : wq.cell? ⟨wr.heap.size, 0, none⟩ = some (.string n) := (cell_row hblk 0).trans rfl
            have q1 : wq.cell? ⟨wr.heap.size, 1, none⟩ = some (.string o) := (cell_row hblk 1).trans rfl
            have q2 : wq.cell? ⟨wr.heap.size, 2, none⟩ = some (.int .i64 t) := (cell_row hblk 2).trans rfl
            have q3 : wq.cell? ⟨wr.heap.size, 3, none⟩ = some (.bool g) := (cell_row hblk 3).trans rfl
            have hTq : TabsH wq := ⟨hTr.below hbq hTr.six⟩
            have hbq' := hbr.trans (hbq.mono hbr.size)
            generalize wr.heap.size = G at q0 q1 q2 q3 hbq ⊢
            refine start_ (n := 18) (S := fun w' => TabsH w' ∧ w'.cell? ⟨G, 0, none⟩ = some (.string n) ∧ w'.cell? ⟨G, 1, none⟩ = some (.string o) ∧ w'.cell? ⟨G, 2, none⟩ = some (.int .i64 t) ∧ w'.cell? ⟨G, 3, none⟩ = some (.bool g)) (ds := []) #[false, false, false, false, false, false, false, false, false, false, false, false, false, false, false, false, false, false] (by kernel_rfl) rfl rfl ⟨TabsH.drew hTq, q0, q1, q2, q3⟩ (fun hHeld => ?_)
            refine take_ (i := 0) (N := some 15) (v := ?_) (a' := ?_) #[true, false, false, false, false, false, false, false, false, false, false, false, false, false, false, false, false, false] rfl rfl (by kernel_rfl) (fun _ _ _ h => h) (Or.inl ⟨by rfl, ?_⟩) hHeld ?_ ?_
            rotate_left
            · rintro w' ⟨s0, s1, s2, s3, s4⟩
              go_simp
              with_reducible rfl
            rotate_left
            · simp only [Act.put, List.setIfInBounds_toArray, List.set_cons_zero, List.set_cons_succ, i64_w, i32_w]
              rfl
            refine one_ (i := 1) (N := some 16) #[true, true, false, false, false, false, false, false, false, false, false, false, false, false, false, false, false, false] rfl rfl (by kernel_rfl) (by decide) (fun K hK => ?_)
            refine goes_ Tryd.func53 (by kernel_rfl) rfl #[.agg #[.string n, .string o, .int .i64 t, .bool g]] (by rfl) rfl rfl (by simp only [List.map_toArray, List.map_cons, List.map_nil]; rfl) ?_
            with_reducible refine (cR.out _ (TabsH.out hHeld.1)).mono ?_
            rintro e w3 ⟨rfl, hb1⟩
            refine ⟨_, rfl, ?_⟩
            refine hK.out _ _ ⟨TabsH.below hHeld.1 hb1, pw_cell_below hb1 hHeld.2.1, pw_cell_below hb1 hHeld.2.2.1, pw_cell_below hb1 hHeld.2.2.2.1, pw_cell_below hb1 hHeld.2.2.2.2⟩ (fun hHeld => ?_)
            clear hK K
            refine norm_ (a' := ?_) ?_ ?_
            rotate_left
            · show Act.put _ (some 16) _ = _
              simp only [Act.put, List.setIfInBounds_toArray, List.set_cons_zero, List.set_cons_succ, i64_w, i32_w]
              rfl
            refine pure_ (i := 2) (N := some 17) (v := ?_) (a' := ?_) #[true, true, true, false, false, false, false, false, false, false, false, false, false, false, false, false, false, false] rfl rfl (by kernel_rfl) (fun _ _ _ h => h) (Or.inl ⟨by rfl, ?_⟩) ?_ ?_
            rotate_left
            · intro w'
              go_simp
              with_reducible rfl
            rotate_left
            · simp only [Act.put, List.setIfInBounds_toArray, List.set_cons_zero, List.set_cons_succ, i64_w, i32_w]
              rfl
            refine pure_ (i := 3) (N := some 18) (v := ?_) (a' := ?_) #[true, true, true, true, false, false, false, false, false, false, false, false, false, false, false, false, false, false] rfl rfl (by kernel_rfl) (fun _ _ _ h => h) (Or.inl ⟨by rfl, ?_⟩) ?_ ?_
            rotate_left
            · intro w'
              go_simp
              with_reducible rfl
            rotate_left
            · simp only [Act.put, List.setIfInBounds_toArray, List.set_cons_zero, List.set_cons_succ, i64_w, i32_w]
              rfl
            refine pure_ (i := 4) (N := some 19) (v := ?_) (a' := ?_) #[true, true, true, true, true, false, false, false, false, false, false, false, false, false, false, false, false, false] rfl rfl (by kernel_rfl) (fun _ _ _ h => h) (Or.inl ⟨by rfl, ?_⟩) ?_ ?_
            rotate_left
            · intro w'
              go_simp
              with_reducible rfl
            rotate_left
            · simp only [Act.put, List.setIfInBounds_toArray, List.set_cons_zero, List.set_cons_succ, i64_w, i32_w]
              rfl
            refine pure_ (i := 5) (N := some 20) (v := ?_) (a' := ?_) #[true, true, true, true, true, true, false, false, false, false, false, false, false, false, false, false, false, false] rfl rfl (by kernel_rfl) (fun _ _ _ h => h) (Or.inl ⟨by rfl, ?_⟩) ?_ ?_
            rotate_left
            · intro w'
              go_simp
              with_reducible rfl
            rotate_left
            · simp only [Act.put, List.setIfInBounds_toArray, List.set_cons_zero, List.set_cons_succ, i64_w, i32_w]
              rfl
            refine pure_ (i := 6) (N := some 21) (v := ?_) (a' := ?_) #[true, true, true, true, true, true, true, false, false, false, false, false, false, false, false, false, false, false] rfl rfl (by kernel_rfl) (fun _ _ _ h => h) (Or.inl ⟨by rfl, ?_⟩) ?_ ?_
            rotate_left
            · intro w'
              go_simp
              with_reducible rfl
            rotate_left
            · simp only [Act.put, List.setIfInBounds_toArray, List.set_cons_zero, List.set_cons_succ, i64_w, i32_w]
              rfl
            refine pure_ (i := 7) (N := some 22) (v := undef) (a' := ?_) #[true, true, true, true, true, true, true, true, false, false, false, false, false, false, false, false, false, false] rfl rfl (by kernel_rfl) (fun _ _ _ h => h) (Or.inr ⟨by rfl, rfl⟩) ?_ ?_
            rotate_left
            · simp only [Act.put, List.setIfInBounds_toArray, List.set_cons_zero, List.set_cons_succ, i64_w, i32_w]
              rfl
            refine pure_ (i := 8) (N := some 23) (v := undef) (a' := ?_) #[true, true, true, true, true, true, true, true, true, false, false, false, false, false, false, false, false, false] rfl rfl (by kernel_rfl) (fun _ _ _ h => h) (Or.inr ⟨by rfl, rfl⟩) ?_ ?_
            rotate_left
            · simp only [Act.put, List.setIfInBounds_toArray, List.set_cons_zero, List.set_cons_succ, i64_w, i32_w]
              rfl
            refine pure_ (i := 9) (N := some 24) (v := undef) (a' := ?_) #[true, true, true, true, true, true, true, true, true, true, false, false, false, false, false, false, false, false] rfl rfl (by kernel_rfl) (fun _ _ _ h => h) (Or.inr ⟨by rfl, rfl⟩) ?_ ?_
            rotate_left
            · simp only [Act.put, List.setIfInBounds_toArray, List.set_cons_zero, List.set_cons_succ, i64_w, i32_w]
              rfl
            refine pure_ (i := 10) (N := some 25) (v := undef) (a' := ?_) #[true, true, true, true, true, true, true, true, true, true, true, false, false, false, false, false, false, false] rfl rfl (by kernel_rfl) (fun _ _ _ h => h) (Or.inr ⟨by rfl, rfl⟩) ?_ ?_
            rotate_left
            · simp only [Act.put, List.setIfInBounds_toArray, List.set_cons_zero, List.set_cons_succ, i64_w, i32_w]
              rfl
            refine pure_ (i := 11) (N := some 26) (v := undef) (a' := ?_) #[true, true, true, true, true, true, true, true, true, true, true, true, false, false, false, false, false, false] rfl rfl (by kernel_rfl) (fun _ _ _ h => h) (Or.inr ⟨by rfl, rfl⟩) ?_ ?_
            rotate_left
            · simp only [Act.put, List.setIfInBounds_toArray, List.set_cons_zero, List.set_cons_succ, i64_w, i32_w]
              rfl
            refine pure_ (i := 12) (N := some 27) (v := undef) (a' := ?_) #[true, true, true, true, true, true, true, true, true, true, true, true, true, false, false, false, false, false] rfl rfl (by kernel_rfl) (fun _ _ _ h => h) (Or.inr ⟨by rfl, rfl⟩) ?_ ?_
            rotate_left
            · simp only [Act.put, List.setIfInBounds_toArray, List.set_cons_zero, List.set_cons_succ, i64_w, i32_w]
              rfl
            refine pure_ (i := 13) (N := some 28) (v := undef) (a' := ?_) #[true, true, true, true, true, true, true, true, true, true, true, true, true, true, false, false, false, false] rfl rfl (by kernel_rfl) (fun _ _ _ h => h) (Or.inr ⟨by rfl, rfl⟩) ?_ ?_
            rotate_left
            · simp only [Act.put, List.setIfInBounds_toArray, List.set_cons_zero, List.set_cons_succ, i64_w, i32_w]
              rfl
            refine pure_ (i := 14) (N := some 29) (v := undef) (a' := ?_) #[true, true, true, true, true, true, true, true, true, true, true, true, true, true, true, false, false, false] rfl rfl (by kernel_rfl) (fun _ _ _ h => h) (Or.inr ⟨by rfl, rfl⟩) ?_ ?_
            rotate_left
            · simp only [Act.put, List.setIfInBounds_toArray, List.set_cons_zero, List.set_cons_succ, i64_w, i32_w]
              rfl
            refine pure_ (i := 15) (N := some 30) (v := undef) (a' := ?_) #[true, true, true, true, true, true, true, true, true, true, true, true, true, true, true, true, false, false] rfl rfl (by kernel_rfl) (fun _ _ _ h => h) (Or.inr ⟨by rfl, rfl⟩) ?_ ?_
            rotate_left
            · simp only [Act.put, List.setIfInBounds_toArray, List.set_cons_zero, List.set_cons_succ, i64_w, i32_w]
              rfl
            refine pure_ (i := 16) (N := some 31) (v := ?_) (a' := ?_) #[true, true, true, true, true, true, true, true, true, true, true, true, true, true, true, true, true, false] rfl rfl (by kernel_rfl) (fun _ _ _ h => h) (Or.inl ⟨by rfl, ?_⟩) ?_ ?_
            rotate_left
            · intro w'
              go_simp
              with_reducible rfl
            rotate_left
            · simp only [Act.put, List.setIfInBounds_toArray, List.set_cons_zero, List.set_cons_succ, i64_w, i32_w]
              rfl
            refine pure_ (i := 17) (N := some 32) (v := ?_) (a' := ?_) #[true, true, true, true, true, true, true, true, true, true, true, true, true, true, true, true, true, true] rfl rfl (by kernel_rfl) (fun _ _ _ h => h) (Or.inl ⟨by rfl, ?_⟩) ?_ ?_
            rotate_left
            · intro w'
              go_simp
              with_reducible rfl
            rotate_left
            · simp only [Act.put, List.setIfInBounds_toArray, List.set_cons_zero, List.set_cons_succ, i64_w, i32_w]
              rfl
            refine done_ (by kernel_rfl) ?_
            go_wp2
            have hbw : Below w.heap.size w w3 := hbq'.trans ((Below.refl _ _).drew.trans (hb1.mono (Nat.le_refl _)) |>.mono hbq'.size)
            go_roundw
            case rel => exact ⟨i + 1, by omega, by go_num, hst.out, hbw⟩
            case measure => simp [intOf]; omega
        · have cR := fun w h => right_ok a w h
          rw [show rightT a = false from by simpa using hR] at cR
          rw [show rightT a = false from by simpa using hR] at hst
          replace hst := Lib.hid (show V = false by rw [← hvi.out, hst]; rfl)
          replace cR := Lib.hid cR
          obtain ⟨n, o, t, g⟩ := a
          clear hR hra hrr
          have hbq : Below wr.heap.size wr (wr.alloc (Obj.cells #[Value.string n, Value.string o, Value.int IntKind.i64 t, Value.bool g] 40)) := (Below.refl _ _).alloc (Nat.le_refl _) _
          have hblk := heap_alloc_new wr (Obj.cells #[Value.string n, Value.string o, Value.int IntKind.i64 t, Value.bool g] 40)
          go_wp2_with fail
          generalize wr.alloc (Obj.cells #[Value.string n, Value.string o, Value.int IntKind.i64 t, Value.bool g] 40) = wq at hbq hblk ⊢
          have q0 : wq.cell? ⟨wr.heap.size, 0, none⟩ = some (.string n) := (cell_row hblk 0).trans rfl
          have q1 : wq.cell? ⟨wr.heap.size, 1, none⟩ = some (.string o) := (cell_row hblk 1).trans rfl
          have q2 : wq.cell? ⟨wr.heap.size, 2, none⟩ = some (.int .i64 t) := (cell_row hblk 2).trans rfl
          have q3 : wq.cell? ⟨wr.heap.size, 3, none⟩ = some (.bool g) := (cell_row hblk 3).trans rfl
          have hTq : TabsH wq := ⟨hTr.below hbq hTr.six⟩
          have hbq' := hbr.trans (hbq.mono hbr.size)
          generalize wr.heap.size = G at q0 q1 q2 q3 hbq ⊢
          refine start_ (n := 18) (S := fun w' => TabsH w' ∧ w'.cell? ⟨G, 0, none⟩ = some (.string n) ∧ w'.cell? ⟨G, 1, none⟩ = some (.string o) ∧ w'.cell? ⟨G, 2, none⟩ = some (.int .i64 t) ∧ w'.cell? ⟨G, 3, none⟩ = some (.bool g)) (ds := []) #[false, false, false, false, false, false, false, false, false, false, false, false, false, false, false, false, false, false] (by kernel_rfl) rfl rfl ⟨TabsH.drew hTq, q0, q1, q2, q3⟩ (fun hHeld => ?_)
          refine take_ (i := 0) (N := some 15) (v := ?_) (a' := ?_) #[true, false, false, false, false, false, false, false, false, false, false, false, false, false, false, false, false, false] rfl rfl (by kernel_rfl) (fun _ _ _ h => h) (Or.inl ⟨by rfl, ?_⟩) hHeld ?_ ?_
          rotate_left
          · rintro w' ⟨s0, s1, s2, s3, s4⟩
            go_simp
            with_reducible rfl
          rotate_left
          · simp only [Act.put, List.setIfInBounds_toArray, List.set_cons_zero, List.set_cons_succ, i64_w, i32_w]
            rfl
          refine one_ (i := 1) (N := some 16) #[true, true, false, false, false, false, false, false, false, false, false, false, false, false, false, false, false, false] rfl rfl (by kernel_rfl) (by decide) (fun K hK => ?_)
          refine goes_ Tryd.func53 (by kernel_rfl) rfl #[.agg #[.string n, .string o, .int .i64 t, .bool g]] (by rfl) rfl rfl (by simp only [List.map_toArray, List.map_cons, List.map_nil]; rfl) ?_
          with_reducible refine (cR.out _ (TabsH.out hHeld.1)).mono ?_
          rintro e w3 ⟨rfl, hb1⟩
          refine ⟨_, rfl, ?_⟩
          refine hK.out _ _ ⟨TabsH.below hHeld.1 hb1, pw_cell_below hb1 hHeld.2.1, pw_cell_below hb1 hHeld.2.2.1, pw_cell_below hb1 hHeld.2.2.2.1, pw_cell_below hb1 hHeld.2.2.2.2⟩ (fun hHeld => ?_)
          clear hK K
          refine norm_ (a' := ?_) ?_ ?_
          rotate_left
          · show Act.put _ (some 16) _ = _
            simp only [Act.put, List.setIfInBounds_toArray, List.set_cons_zero, List.set_cons_succ, i64_w, i32_w]
            rfl
          refine pure_ (i := 2) (N := some 17) (v := ?_) (a' := ?_) #[true, true, true, false, false, false, false, false, false, false, false, false, false, false, false, false, false, false] rfl rfl (by kernel_rfl) (fun _ _ _ h => h) (Or.inl ⟨by rfl, ?_⟩) ?_ ?_
          rotate_left
          · intro w'
            go_simp
            with_reducible rfl
          rotate_left
          · simp only [Act.put, List.setIfInBounds_toArray, List.set_cons_zero, List.set_cons_succ, i64_w, i32_w]
            rfl
          refine pure_ (i := 3) (N := some 18) (v := ?_) (a' := ?_) #[true, true, true, true, false, false, false, false, false, false, false, false, false, false, false, false, false, false] rfl rfl (by kernel_rfl) (fun _ _ _ h => h) (Or.inl ⟨by rfl, ?_⟩) ?_ ?_
          rotate_left
          · intro w'
            go_simp
            with_reducible rfl
          rotate_left
          · simp only [Act.put, List.setIfInBounds_toArray, List.set_cons_zero, List.set_cons_succ, i64_w, i32_w]
            rfl
          refine pure_ (i := 4) (N := some 19) (v := undef) (a' := ?_) #[true, true, true, true, true, false, false, false, false, false, false, false, false, false, false, false, false, false] rfl rfl (by kernel_rfl) (fun _ _ _ h => h) (Or.inr ⟨by rfl, rfl⟩) ?_ ?_
          rotate_left
          · simp only [Act.put, List.setIfInBounds_toArray, List.set_cons_zero, List.set_cons_succ, i64_w, i32_w]
            rfl
          refine pure_ (i := 5) (N := some 20) (v := undef) (a' := ?_) #[true, true, true, true, true, true, false, false, false, false, false, false, false, false, false, false, false, false] rfl rfl (by kernel_rfl) (fun _ _ _ h => h) (Or.inr ⟨by rfl, rfl⟩) ?_ ?_
          rotate_left
          · simp only [Act.put, List.setIfInBounds_toArray, List.set_cons_zero, List.set_cons_succ, i64_w, i32_w]
            rfl
          refine pure_ (i := 6) (N := some 21) (v := undef) (a' := ?_) #[true, true, true, true, true, true, true, false, false, false, false, false, false, false, false, false, false, false] rfl rfl (by kernel_rfl) (fun _ _ _ h => h) (Or.inr ⟨by rfl, rfl⟩) ?_ ?_
          rotate_left
          · simp only [Act.put, List.setIfInBounds_toArray, List.set_cons_zero, List.set_cons_succ, i64_w, i32_w]
            rfl
          refine pure_ (i := 7) (N := some 22) (v := undef) (a' := ?_) #[true, true, true, true, true, true, true, true, false, false, false, false, false, false, false, false, false, false] rfl rfl (by kernel_rfl) (fun _ _ _ h => h) (Or.inr ⟨by rfl, rfl⟩) ?_ ?_
          rotate_left
          · simp only [Act.put, List.setIfInBounds_toArray, List.set_cons_zero, List.set_cons_succ, i64_w, i32_w]
            rfl
          refine pure_ (i := 8) (N := some 23) (v := undef) (a' := ?_) #[true, true, true, true, true, true, true, true, true, false, false, false, false, false, false, false, false, false] rfl rfl (by kernel_rfl) (fun _ _ _ h => h) (Or.inr ⟨by rfl, rfl⟩) ?_ ?_
          rotate_left
          · simp only [Act.put, List.setIfInBounds_toArray, List.set_cons_zero, List.set_cons_succ, i64_w, i32_w]
            rfl
          refine pure_ (i := 9) (N := some 24) (v := undef) (a' := ?_) #[true, true, true, true, true, true, true, true, true, true, false, false, false, false, false, false, false, false] rfl rfl (by kernel_rfl) (fun _ _ _ h => h) (Or.inr ⟨by rfl, rfl⟩) ?_ ?_
          rotate_left
          · simp only [Act.put, List.setIfInBounds_toArray, List.set_cons_zero, List.set_cons_succ, i64_w, i32_w]
            rfl
          refine pure_ (i := 10) (N := some 25) (v := undef) (a' := ?_) #[true, true, true, true, true, true, true, true, true, true, true, false, false, false, false, false, false, false] rfl rfl (by kernel_rfl) (fun _ _ _ h => h) (Or.inr ⟨by rfl, rfl⟩) ?_ ?_
          rotate_left
          · simp only [Act.put, List.setIfInBounds_toArray, List.set_cons_zero, List.set_cons_succ, i64_w, i32_w]
            rfl
          refine pure_ (i := 11) (N := some 26) (v := undef) (a' := ?_) #[true, true, true, true, true, true, true, true, true, true, true, true, false, false, false, false, false, false] rfl rfl (by kernel_rfl) (fun _ _ _ h => h) (Or.inr ⟨by rfl, rfl⟩) ?_ ?_
          rotate_left
          · simp only [Act.put, List.setIfInBounds_toArray, List.set_cons_zero, List.set_cons_succ, i64_w, i32_w]
            rfl
          refine pure_ (i := 12) (N := some 27) (v := undef) (a' := ?_) #[true, true, true, true, true, true, true, true, true, true, true, true, true, false, false, false, false, false] rfl rfl (by kernel_rfl) (fun _ _ _ h => h) (Or.inr ⟨by rfl, rfl⟩) ?_ ?_
          rotate_left
          · simp only [Act.put, List.setIfInBounds_toArray, List.set_cons_zero, List.set_cons_succ, i64_w, i32_w]
            rfl
          refine pure_ (i := 13) (N := some 28) (v := undef) (a' := ?_) #[true, true, true, true, true, true, true, true, true, true, true, true, true, true, false, false, false, false] rfl rfl (by kernel_rfl) (fun _ _ _ h => h) (Or.inr ⟨by rfl, rfl⟩) ?_ ?_
          rotate_left
          · simp only [Act.put, List.setIfInBounds_toArray, List.set_cons_zero, List.set_cons_succ, i64_w, i32_w]
            rfl
          refine pure_ (i := 14) (N := some 29) (v := undef) (a' := ?_) #[true, true, true, true, true, true, true, true, true, true, true, true, true, true, true, false, false, false] rfl rfl (by kernel_rfl) (fun _ _ _ h => h) (Or.inr ⟨by rfl, rfl⟩) ?_ ?_
          rotate_left
          · simp only [Act.put, List.setIfInBounds_toArray, List.set_cons_zero, List.set_cons_succ, i64_w, i32_w]
            rfl
          refine pure_ (i := 15) (N := some 30) (v := undef) (a' := ?_) #[true, true, true, true, true, true, true, true, true, true, true, true, true, true, true, true, false, false] rfl rfl (by kernel_rfl) (fun _ _ _ h => h) (Or.inr ⟨by rfl, rfl⟩) ?_ ?_
          rotate_left
          · simp only [Act.put, List.setIfInBounds_toArray, List.set_cons_zero, List.set_cons_succ, i64_w, i32_w]
            rfl
          refine pure_ (i := 16) (N := some 31) (v := undef) (a' := ?_) #[true, true, true, true, true, true, true, true, true, true, true, true, true, true, true, true, true, false] rfl rfl (by kernel_rfl) (fun _ _ _ h => h) (Or.inr ⟨by rfl, rfl⟩) ?_ ?_
          rotate_left
          · simp only [Act.put, List.setIfInBounds_toArray, List.set_cons_zero, List.set_cons_succ, i64_w, i32_w]
            rfl
          refine pure_ (i := 17) (N := some 32) (v := ?_) (a' := ?_) #[true, true, true, true, true, true, true, true, true, true, true, true, true, true, true, true, true, true] rfl rfl (by kernel_rfl) (fun _ _ _ h => h) (Or.inl ⟨by rfl, ?_⟩) ?_ ?_
          rotate_left
          · intro w'
            go_simp
            with_reducible rfl
          rotate_left
          · simp only [Act.put, List.setIfInBounds_toArray, List.set_cons_zero, List.set_cons_succ, i64_w, i32_w]
            rfl
          refine done_ (by kernel_rfl) ?_
          go_wp2
          have hbw : Below w.heap.size w w3 := hbq'.trans ((Below.refl _ _).drew.trans (hb1.mono (Nat.le_refl _)) |>.mono hbq'.size)
          go_ret
          exact ⟨ret_bool (by rw [hst.out]; rfl), hbw⟩
      · have e3 : decide (i < l.length) = false := decide_eq_false hlt
        obtain rfl : i = l.length := by omega
        go_wp2_with fail
        go_ret
        exact ⟨ret_bool (by rw [← hvi.out, validFrom_end]; rfl), hbr⟩
  · have e1 : decide (l.length ≤ 256) = false := decide_eq_false h1
    have e2 : decide (256 < l.length) = true := decide_eq_true (by omega)
    clear hr
    go_enter Tryd.func28, Tryd.ntmps28
    go_wp2_with fail
    go_ret
    exact ⟨ret_bool (by rw [e1]; rfl), Below.refl _ _⟩
end Go.Proofs.YtpejnnnkamodbaaDoor
/- The package alias: present, follow, Follow. -/
namespace Go.Proofs.YtpejnnnkamodbaaDoor
open Go Go.RowKit Go.Maps Go.WideMaps Go.Proofs.YtpejnnnkamodbaaDoorW.PrintWords Go.Proofs.YtpejnnnkamodbaaDoorW.PrintLast
open PCanonEqual (S40 k40 z40 rd_T40 at_T40 k40_open k40_mk)

def enc40 (a : S40) : Value := .agg #[.string a.f0, .string a.f1, .int .i64 a.f2, .bool a.f3]
theorem enc40_inj (a b : S40) (h : enc40 a = enc40 b) : a = b := by
  obtain ⟨_, _, _, _⟩ := a
  obtain ⟨_, _, _, _⟩ := b
  simpa [enc40] using h
/-- One entry of a list laid upon what counted before. -/
def layA (t : Int) (f : ByteArray → Option S40) (a : S40) : ByteArray → Option S40 := if a.f2 > t then f else fun s => if s = a.f0 then (if a.f3 then none else some a) else f s
def presT (l : List S40) (t : Int) : ByteArray → Option S40 := l.foldl (layA t) (fun _ => none)
theorem presT_snoc (l : List S40) (t : Int) (i : Nat) (h : i < l.length) : presT (l.take (i + 1)) t = layA t (presT (l.take i) t) (l.getD i z40) := by
  unfold presT
  rw [List.take_add_one, List.foldl_append]
  simp [List.getD, h]
set_option maxHeartbeats 4000000 in
set_option maxRecDepth 100000 in
theorem present_ok (A : Option Addr) (c : Nat) (l : List S40) (t : Int) (w : World) (hr : Kd.C k40 w A l.length l) (hl : l.length ≤ 1000000) (hs : ∀ a ∈ l, a.f0.size ≤ 1000000) :
    Calls Tryd.prog 55 #[.slice A l.length c, .int .i64 t] w fun e w' => ∃ b, e = .returned (.map (some b)) ∧ w.heap.size ≤ b ∧ Dict enc40 Tryd.prog 9 w' b l.length (presT l t) ∧ Below w.heap.size w w' := by
  replace hr := Lib.hid hr
  replace hs := Lib.hid hs
  have hmm := @run_makeMap Tryd.prog
  go_enter Tryd.func55, Tryd.ntmps55
  go_wp2_with fail
  clear hmm
  go_loopw [11] (fun v wr => ∃ i : Nat, i ≤ l.length ∧ v = .int .i64 i ∧ Dict enc40 Tryd.prog 9 wr w.heap.size i (presT (l.take i) t) ∧ Below w.heap.size w wr) (fun v _ => l.length - (intOf v).toNat)
  case atStart => exact ⟨0, Nat.zero_le _, rfl, Dict.made w, (Below.refl _ _).alloc (Nat.le_refl _) _⟩
  case round =>
    obtain ⟨i, hi, rfl, hD, hbr⟩ := hrel
    by_cases hlt : i < l.length
    · have e3 : decide (i < l.length) = true := decide_eq_true hlt
      have hrr : Kd.C k40 wr A l.length l := Kd.C_below hr.out hbr
      obtain ⟨ad, rfl, d0, d1, d2, d3⟩ := at_T40 hrr i (by omega) (by omega)
      rw [Int.toNat_natCast] at d0 d1 d2 d3
      have hst := presT_snoc l t i hlt
      have hsz := hs.out (l.getD i z40) (by rw [List.getD_eq_getElem?_getD, List.getElem?_eq_getElem hlt]; exact List.getElem_mem hlt)
      have hra : rd_T40 l i = l.getD i z40 := by simp [rd_T40]
      rw [hra] at d0 d1 d2 d3
      generalize l.getD i z40 = a at d0 d1 d2 d3 hst hsz
      generalize presT (l.take i) t = f at hD hst
      obtain ⟨n, o, ti, g⟩ := a
      simp only [layA] at hst
      have hbq : Below wr.heap.size wr (wr.alloc (Obj.cells #[Value.string n, Value.string o, Value.int IntKind.i64 ti, Value.bool g] 40)) := (Below.refl _ _).alloc (Nat.le_refl _) _
      have hblk := heap_alloc_new wr (Obj.cells #[Value.string n, Value.string o, Value.int IntKind.i64 ti, Value.bool g] 40)
      have hDq := hD.below hbq
      have hbw := hbr.trans (hbq.mono hbr.size)
      have hDl := hD.lt
      have hgne : (some wr.heap.size : Option Nat) ≠ some w.heap.size := by simp; omega
      clear hrr hra
      by_cases hc : t < ti
      · have e4 : decide (t < ti) = true := decide_eq_true hc
        rw [if_pos hc] at hst
        replace hst := Lib.hid hst
        go_wp2_with fail
        go_roundw
        case rel => exact ⟨i + 1, by omega, by go_num, by rw [hst.out]; obtain ⟨D, x1, x2⟩ := hDq; exact ⟨D, x1.mono (Nat.le_succ _), x2⟩, hbw⟩
        case measure => simp [intOf]; omega
      · have e4 : decide (t < ti) = false := decide_eq_false hc
        rw [if_neg hc] at hst
        replace hst := Lib.hid hst
        have q0 : (wr.alloc (Obj.cells #[Value.string n, Value.string o, Value.int IntKind.i64 ti, Value.bool g] 40)).cell? ⟨wr.heap.size, 0, none⟩ = some (.string n) := (cell_row hblk 0).trans rfl
        have q3 : (wr.alloc (Obj.cells #[Value.string n, Value.string o, Value.int IntKind.i64 ti, Value.bool g] 40)).cell? ⟨wr.heap.size, 3, none⟩ = some (.bool g) := (cell_row hblk 3).trans rfl
        clear hblk hD
        cases g
        · go_wp2_with (at_mapUpdate; refine wpList_dict_put (enc := enc40) _ rfl _ _ _ 85 rfl 9 40 Tryd.underlying9 Tryd.underlying85 enc40_inj _ i f rfl hDq (by unfold maxLen; omega) n ⟨n, o, ti, false⟩ rfl rfl (by unfold maxLen; exact Nat.le_trans hsz (by decide)) ?_; intro w5 hD5 hg5; have r3 := hg5.cell q3 hgne)
          go_roundw
          case rel => exact ⟨i + 1, by omega, by go_num, by rw [hst.out]; exact hD5, hbw.grown hg5 hbw.size (fun k hk => by cases hk; exact Nat.le_refl _)⟩
          case measure => simp [intOf]; omega
        · go_wp2_with (first | (at_mapUpdate; refine wpList_dict_put (enc := enc40) _ rfl _ _ _ 85 rfl 9 40 Tryd.underlying9 Tryd.underlying85 enc40_inj _ i f rfl hDq (by unfold maxLen; omega) n ⟨n, o, ti, true⟩ rfl rfl (by unfold maxLen; exact Nat.le_trans hsz (by decide)) ?_; intro w5 hD5 hg5; have r3 := hg5.cell q3 hgne; have r0 := hg5.cell q0 hgne) | (at_delete; refine wpList_dict_del (enc := enc40) _ rfl _ _ 85 9 rfl 40 Tryd.underlying9 Tryd.underlying85 _ _ _ rfl hD5 n rfl (by unfold maxLen; exact Nat.le_trans hsz (by decide)) ?_; intro w6 hD6 hg6))
          go_roundw
          case rel =>
            have h5 := hbw.grown hg5 hbw.size (fun k hk => by cases hk; exact Nat.le_refl _)
            refine ⟨i + 1, by omega, by go_num, ?_, h5.grown hg6 h5.size (fun k hk => by cases hk; exact Nat.le_refl _)⟩
            rw [hst.out]
            exact hD6.congr (fun s => by by_cases hsn : s = n <;> simp [hsn])
          case measure => simp [intOf]; omega
    · have e3 : decide (i < l.length) = false := decide_eq_false hlt
      obtain rfl : i = l.length := by omega
      rw [List.take_length] at hD
      go_wp2_with fail
      go_ret
      exact ⟨_, rfl, Nat.le_refl _, hD, hbr⟩

/-! ### where a name leads -/
inductive Leads (f : ByteArray → Option S40) : ByteArray → ByteArray → Prop
  | done {s : ByteArray} (h : f s = none) : Leads f s s
  | step {s t : ByteArray} {a : S40} (h : f s = some a) (r : Leads f a.f1 t) : Leads f s t
inductive ReachP (f : ByteArray → Option S40) : ByteArray → ByteArray → Prop
  | one {s : ByteArray} {a : S40} (h : f s = some a) : ReachP f s a.f1
  | more {s t : ByteArray} {a : S40} (h : f s = some a) (r : ReachP f a.f1 t) : ReachP f s t
def Loops (f : ByteArray → Option S40) (s : ByteArray) : Prop := ¬ ∃ t, Leads f s t
theorem ReachP.snoc {f : ByteArray → Option S40} {s t : ByteArray} {a : S40} (h : ReachP f s t) (ht : f t = some a) : ReachP f s a.f1 := by
  induction h with
  | one h => exact .more h (.one ht)
  | more h r ih => exact .more h (ih ht)
theorem leads_no_cycle {f : ByteArray → Option S40} {s t : ByteArray} (h : Leads f s t) : ∀ u, ReachP f s u → u = s → False := by
  induction h with
  | done h =>
    intro u hr _
    cases hr with
    | one h' => rw [h] at h'; cases h'
    | more h' _ => rw [h] at h'; cases h'
  | step h r ih =>
    rename_i s t a
    intro u hr hu
    cases hr with
    | one h' =>
      rw [h] at h'
      cases h'
      exact ih a.f1 (.one (by rw [hu]; exact h)) rfl
    | more h' r' =>
      rw [h] at h'
      cases h'
      exact ih a.f1 (r'.snoc (by rw [hu]; exact h)) rfl
theorem leads_iff {f : ByteArray → Option S40} {s t : ByteArray} {a : S40} (h : f s = some a) : Leads f s t ↔ Leads f a.f1 t :=
  ⟨fun hl => by
    cases hl with
    | done h' => rw [h] at h'; cases h'
    | step h' r => rw [h] at h'; cases h'; exact r, fun hl => .step h hl⟩
theorem nodup_sub : ∀ (vs L : List ByteArray), vs.Nodup → (∀ v ∈ vs, v ∈ L) → vs.length ≤ L.length
  | [], _, _, _ => Nat.zero_le _
  | v :: vs, L, hn, hs => by
    obtain ⟨L1, L2, rfl⟩ := List.append_of_mem (hs v List.mem_cons_self)
    rw [List.nodup_cons] at hn
    have := nodup_sub vs (L1 ++ L2) hn.2 (fun u hu => by
      have h1 := hs u (List.mem_cons_of_mem _ hu)
      simp only [List.mem_append, List.mem_cons] at h1 ⊢
      rcases h1 with h1 | h1 | h1
      · exact Or.inl h1
      · subst h1; exact absurd hu hn.1
      · exact Or.inr h1)
    simp at this ⊢
    omega
open Classical in
noncomputable def seenF (vs : List ByteArray) (k : ByteArray) : Option Bool := if k ∈ vs then some true else none
theorem seenF_in {vs : List ByteArray} {k : ByteArray} (h : k ∈ vs) : (seenF vs k).getD false = true := by unfold seenF; rw [if_pos h]; rfl
theorem seenF_out {vs : List ByteArray} {k : ByteArray} (h : k ∉ vs) : (seenF vs k).getD false = false := by unfold seenF; rw [if_neg h]; rfl
theorem seenF_cons (vs : List ByteArray) (k s : ByteArray) : (if s = k then some true else seenF vs s) = seenF (k :: vs) s := by
  unfold seenF
  by_cases h : s = k
  · subst h; simp
  · rw [if_neg h]
    by_cases h2 : s ∈ vs
    · rw [if_pos h2, if_pos (List.mem_cons_of_mem _ h2)]
    · rw [if_neg h2, if_neg (by simp [h, h2])]
def encB (b : Bool) : Value := .bool b
theorem encB_inj (a b : Bool) (h : encB a = encB b) : a = b := by simpa [encB] using h
def FollowPost (f : ByteArray → Option S40) (s : ByteArray) (e : Ending) : Prop :=
  (∃ t, Leads f s t ∧ e = .returned (.tuple #[.string t, .bool true])) ∨ (Loops f s ∧ e = .returned (.tuple #[.string ⟨#[]⟩, .bool false]))
set_option maxHeartbeats 4000000 in
set_option maxRecDepth 100000 in
set_option linter.unusedSimpArgs false in
theorem follow_ok (b n : Nat) (f : ByteArray → Option S40) (s : ByteArray) (w : World) (L : List ByteArray) (hD : Dict enc40 Tryd.prog 9 w b n f) (hL : ∀ k, f k ≠ none → k ∈ L) (hn : L.length ≤ 1000000) (hs : s.size ≤ 1000000) (hv : ∀ k a, f k = some a → a.f1.size ≤ 1000000) :
    Calls Tryd.prog 54 #[.map (some b), .string s] w fun e w' => FollowPost f s e ∧ Below w.heap.size w w' := by
  have hmm := @run_makeMap Tryd.prog
  replace hL := Lib.hid hL
  replace hv := Lib.hid hv
  go_enter Tryd.func54, Tryd.ntmps54
  go_wp2_with fail
  clear hmm
  go_loopg [1] L.length (fun gk v wr => ∃ (cur : ByteArray) (vs : List ByteArray), v = .string cur ∧ cur.size ≤ 1000000 ∧ Dict encB Tryd.prog 9 wr w.heap.size vs.length (seenF vs) ∧ vs.Nodup ∧ Aside (∀ v ∈ vs, f v ≠ none) ∧ Aside (∀ v ∈ vs, ReachP f v cur) ∧ Aside (∀ t, Leads f s t ↔ Leads f cur t) ∧ Below w.heap.size w wr ∧ vs.length + gk = L.length)
  case atStart => exact ⟨s, [], rfl, hs, (Dict.made w).congr (fun _ => by simp [seenF]), List.nodup_nil, by simp [Aside], by simp [Aside], fun t => Iff.rfl, (Below.refl _ _).alloc (Nat.le_refl _) _, by simp⟩
  case round =>
    obtain ⟨cur, vs, rfl, hcs, hS, hnd, hvf, hvr, hlead, hbr, hgk⟩ := hrel
    by_cases hin : cur ∈ vs
    · have hg := seenF_in hin
      go_wp2_with (at_lookup; refine wpList_dict_get (enc := encB) _ rfl _ _ 97 rfl 9 4 Tryd.underlying9 Tryd.underlying97 encB_inj false rfl _ _ _ rfl hS cur rfl (by unfold maxLen; exact Nat.le_trans hcs (by decide)) ?_; rw [hg, encB])
      go_ret2
      refine ⟨Or.inr ⟨?_, rfl⟩, hbr⟩
      rintro ⟨t, ht⟩
      exact leads_no_cycle ((hlead.out t).1 ht) _ (hvr.out cur hin) rfl
    · have hg := seenF_out hin
      cases hfc : f cur with
      | none =>
        have hDr : Dict enc40 Tryd.prog 9 wr b n f := hD.below hbr
        go_wp2_with (first | (at_lookup; refine wpList_dict_get (enc := encB) _ rfl _ _ 97 rfl 9 4 Tryd.underlying9 Tryd.underlying97 encB_inj false rfl _ _ _ rfl hS cur rfl (by unfold maxLen; exact Nat.le_trans hcs (by decide)) ?_; rw [hg, encB]) | (at_lookup; refine wpList_dict_ok (enc := enc40) _ rfl _ _ 85 rfl 9 40 Tryd.underlying9 Tryd.underlying85 enc40_inj z40 rfl _ _ _ rfl hDr cur rfl (by unfold maxLen; exact Nat.le_trans hcs (by decide)) ?_; rw [hfc, Option.getD_none, Option.isSome_none, enc40]))
        go_ret2
        exact ⟨Or.inl ⟨cur, (hlead.out cur).2 (.done hfc), rfl⟩, hbr.trans (((Below.refl _ _).alloc (Nat.le_refl _) _).mono hbr.size)⟩
      | some a =>
        obtain ⟨n', o, ti, g⟩ := a
        have hDr : Dict enc40 Tryd.prog 9 wr b n f := hD.below hbr
        go_wp2_with (first | (at_lookup; refine wpList_dict_get (enc := encB) _ rfl _ _ 97 rfl 9 4 Tryd.underlying9 Tryd.underlying97 encB_inj false rfl _ _ _ rfl hS cur rfl (by unfold maxLen; exact Nat.le_trans hcs (by decide)) ?_; rw [hg, encB]) | (at_lookup; refine wpList_dict_ok (enc := enc40) _ rfl _ _ 85 rfl 9 40 Tryd.underlying9 Tryd.underlying85 enc40_inj z40 rfl _ _ _ rfl hDr cur rfl (by unfold maxLen; exact Nat.le_trans hcs (by decide)) ?_; rw [hfc, Option.getD_some, Option.isSome_some, enc40]))
        have hblk := heap_alloc_new wr (Obj.cells #[Value.string n', Value.string o, Value.int IntKind.i64 ti, Value.bool g] 40)
        have hbq : Below wr.heap.size wr (wr.alloc (Obj.cells #[Value.string n', Value.string o, Value.int IntKind.i64 ti, Value.bool g] 40)) := (Below.refl _ _).alloc (Nat.le_refl _) _
        have hSq := hS.below hbq
        generalize wr.alloc (Obj.cells #[Value.string n', Value.string o, Value.int IntKind.i64 ti, Value.bool g] 40) = wq at hbq hblk hSq ⊢
        have q1 : wq.cell? ⟨wr.heap.size, 1, none⟩ = some (.string o) := (cell_row hblk 1).trans rfl
        have hbw := hbr.trans (hbq.mono hbr.size)
        have hle : vs.length + 1 ≤ L.length := by
          have := nodup_sub (cur :: vs) L (List.nodup_cons.2 ⟨hin, hnd⟩) (fun v hv' => by
            rcases List.mem_cons.1 hv' with rfl | hv'
            · exact hL.out _ (by rw [hfc]; simp)
            · exact hL.out _ (hvf.out v hv'))
          simpa using this
        have hol : o.size ≤ 1000000 := hv.out cur _ hfc
        clear hblk hDr
        generalize hG : wr.heap.size = G at q1 hbq ⊢
        have hBlt := hSq.lt
        generalize hB : w.heap.size = B at hSq hBlt ⊢
        have hBlt' : B < G := by have := hS.lt; omega
        clear hG hbr hS
        have hSd := hSq.below (Below.refl _ _).drew
        have hBG : (some G : Option Nat) ≠ some B := by simp; omega
        refine start_ (n := 6) (S := fun w' => w'.cell? ⟨G, 1, none⟩ = some (.string o)) (ds := []) #[false, false, false, false, false, false] (by kernel_rfl) rfl rfl (q1) (fun hHeld => ?_)
        refine pure_ (i := 0) (N := some 23) (v := ?_) (a' := ?_) #[true, false, false, false, false, false] rfl rfl (by kernel_rfl) (fun _ _ _ h => h) (Or.inl ⟨by rfl, ?_⟩) ?_ ?_
        rotate_left
        · intro w'
          go_simp
          with_reducible rfl
        rotate_left
        · simp only [Act.put, List.setIfInBounds_toArray, List.set_cons_zero, List.set_cons_succ, i64_w, i32_w]
          rfl
        refine pure_ (i := 1) (N := some 24) (v := ?_) (a' := ?_) #[true, true, false, false, false, false] rfl rfl (by kernel_rfl) (fun _ _ _ h => h) (Or.inl ⟨by rfl, ?_⟩) ?_ ?_
        rotate_left
        · intro w'
          go_simp
          with_reducible rfl
        rotate_left
        · simp only [Act.put, List.setIfInBounds_toArray, List.set_cons_zero, List.set_cons_succ, i64_w, i32_w]
          rfl
        refine pure_ (i := 2) (N := some 25) (v := ?_) (a' := ?_) #[true, true, true, false, false, false] rfl rfl (by kernel_rfl) (fun _ _ _ h => h) (Or.inl ⟨by rfl, ?_⟩) ?_ ?_
        rotate_left
        · intro w'
          go_simp
          with_reducible rfl
        rotate_left
        · simp only [Act.put, List.setIfInBounds_toArray, List.set_cons_zero, List.set_cons_succ, i64_w, i32_w]
          rfl
        refine take_ (i := 3) (N := some 26) (v := ?_) (a' := ?_) #[true, true, true, true, false, false] rfl rfl (by kernel_rfl) (fun _ _ _ h => h) (Or.inl ⟨by rfl, ?_⟩) hHeld ?_ ?_
        rotate_left
        · intro w' s0
          go_simp
          with_reducible rfl
        rotate_left
        · simp only [Act.put, List.setIfInBounds_toArray, List.set_cons_zero, List.set_cons_succ, i64_w, i32_w]
          rfl
        refine one_ (i := 4) (N := none) #[true, true, true, true, true, false] rfl rfl (by kernel_rfl) (by decide) (fun K hK => ?_)
        refine wp_dict_put (enc := encB) _ (by rfl) rfl _ _ _ 97 rfl 9 4 Tryd.underlying9 Tryd.underlying97 encB_inj B vs.length (seenF vs) rfl hSd (by unfold maxLen; omega) cur true rfl rfl (by unfold maxLen; exact Nat.le_trans hcs (by decide)) ?_
        intro w3 hD3 hg3
        refine hK.out _ _ (hg3.cell hHeld hBG) (fun hHeld => ?_)
        clear hK K
        refine pure_ (i := 5) (N := some 1) (v := ?_) (a' := ?_) #[true, true, true, true, true, true] rfl rfl (by kernel_rfl) (fun _ _ _ h => h) (Or.inl ⟨by rfl, ?_⟩) ?_ ?_
        rotate_left
        · intro w'
          go_simp
          with_reducible rfl
        rotate_left
        · simp only [Act.put, List.setIfInBounds_toArray, List.set_cons_zero, List.set_cons_succ, i64_w, i32_w]
          rfl
        refine done_ (by kernel_rfl) ?_
        go_wp2
        subst hB
        go_roundg (gk - 1)
        case measure => omega
        case rel =>
          refine ⟨o, cur :: vs, rfl, hol, hD3.congr (fun s => seenF_cons vs cur s), List.nodup_cons.2 ⟨hin, hnd⟩, ?_, ?_, ?_, ?_, by simp; omega⟩
          · intro v hv'
            rcases List.mem_cons.1 hv' with rfl | hv'
            · rw [hfc]; simp
            · exact hvf.out v hv'
          · intro v hv'
            rcases List.mem_cons.1 hv' with rfl | hv'
            · exact .one hfc
            · exact (hvr.out v hv').snoc hfc
          · intro t
            rw [hlead.out t]
            exact leads_iff hfc
          · have hd : Below w.heap.size w wq.drew := hbw.trans (Below.refl _ _).drew
            exact hd.grown hg3 hd.size (fun k hk => by cases hk; exact Nat.le_refl _)
/-! ### Follow -/
theorem take_mem {l : List S40} {i : Nat} {a : S40} (h : a ∈ l.take i) : a ∈ l := List.mem_of_mem_take h
theorem presT_mem (l : List S40) (t : Int) : ∀ k a, presT l t k = some a → a ∈ l ∧ a.f0 = k ∧ a.f2 ≤ t ∧ a.f3 = false := by
  unfold presT
  suffices H : ∀ (l : List S40) (f : ByteArray → Option S40) (L : List S40), (∀ k a, f k = some a → a ∈ L ∧ a.f0 = k ∧ a.f2 ≤ t ∧ a.f3 = false) → ∀ k a, l.foldl (layA t) f k = some a → a ∈ L ++ l ∧ a.f0 = k ∧ a.f2 ≤ t ∧ a.f3 = false by
    intro k a h
    have := H l (fun _ => none) [] (fun k a h => by cases h) k a h
    simpa using this
  intro l
  induction l with
  | nil => intro f L hf k a h; simpa using hf k a h
  | cons x l ih =>
    intro f L hf k a h
    rw [List.foldl_cons] at h
    have := ih (layA t f x) (L ++ [x]) (fun k a h => by
      unfold layA at h
      split at h
      · have := hf k a h; exact ⟨List.mem_append_left _ this.1, this.2⟩
      · rename_i hc
        dsimp only at h
        split at h
        · rename_i hk
          split at h
          · cases h
          · rename_i hg
            cases h
            exact ⟨by simp, hk.symm, by omega, by simpa using hg⟩
        · have := hf k a h; exact ⟨List.mem_append_left _ this.1, this.2⟩) k a h
    simpa [List.append_assoc] using this
theorem name_size {s : ByteArray} (h : nameT s = true) : s.size ≤ 256 := by
  simp only [nameT, Bool.and_eq_true, decide_eq_true_eq] at h
  exact h.1.2
theorem valid_mem {l : List S40} (h : validT l = true) : ∀ a ∈ l, rightT a = true := by
  simp only [validT, validFrom, Bool.and_eq_true, List.all_eq_true, List.mem_range] at h
  intro a ha
  obtain ⟨i, hi, rfl⟩ := List.mem_iff_getElem.1 ha
  have := (h.2 i (by simpa using hi)).1
  simpa [List.getD, hi] using this
theorem right_sizes {a : S40} (h : rightT a = true) : a.f0.size ≤ 256 ∧ a.f1.size ≤ 256 := by
  simp only [rightT, Bool.and_eq_true] at h
  exact ⟨name_size h.1.1.1.1, name_size h.1.1.1.2⟩
/-- What Follow tells: 0 OK, 1 invalid, 11 a circle. -/
def FollowT (l : List S40) (s : ByteArray) (t : Int) (r : ByteArray) (e : Int) : Prop :=
  (validT l = false ∧ r = ⟨#[]⟩ ∧ e = 1) ∨ (validT l = true ∧ Loops (presT l t) s ∧ r = ⟨#[]⟩ ∧ e = 11) ∨ (validT l = true ∧ Leads (presT l t) s r ∧ e = 0)
set_option maxHeartbeats 2000000 in
theorem followAll_ok (A : Option Addr) (c : Nat) (l : List S40) (s : ByteArray) (t : Int) (w : World) (hT : Tabs w) (hr : Kd.C k40 w A l.length l) (hs : s.size ≤ 1000000) :
    Calls Tryd.prog 29 #[.slice A l.length c, .string s, .int .i64 t] w fun e w' => (∃ r n, FollowT l s t r n ∧ e = .returned (.tuple #[.string r, .int .i64 n])) ∧ Below w.heap.size w w' := by
  have cv := valid_ok A c l w hT hr
  cases hv : validT l with
  | false =>
    rw [hv] at cv
    replace cv := Lib.hid cv
    replace hr := Lib.hid hr
    go_enter Tryd.func29, Tryd.ntmps29
    go_wp2_with fail
    refine cv.out.mono ?_
    rintro e w1 ⟨rfl, hb1⟩
    go_wp2_with fail
    go_ret2
    exact ⟨⟨_, _, Or.inl ⟨hv, rfl, rfl⟩, rfl⟩, hb1⟩
  | true =>
    rw [hv] at cv
    have hm := valid_mem hv
    have hl : l.length ≤ 256 := by
      simp only [validT, Bool.and_eq_true, decide_eq_true_eq] at hv
      exact hv.1
    have cp := Lib.hid (fun w1 (h : Below w.heap.size w w1) => present_ok A c l t w1 (Kd.C_below hr h) (by omega) (fun a ha => Nat.le_trans (right_sizes (hm a ha)).1 (by decide)))
    have cf := Lib.hid (fun w2 b (hD : Dict enc40 Tryd.prog 9 w2 b l.length (presT l t)) => follow_ok b l.length (presT l t) s w2 (l.map (·.f0)) hD (fun k hk => by
      cases hp : presT l t k with
      | none => exact absurd hp hk
      | some a =>
        obtain ⟨h1, h2, _⟩ := presT_mem l t k a hp
        exact List.mem_map.2 ⟨a, h1, h2⟩) (by rw [List.length_map]; omega) hs (fun k a ha => Nat.le_trans (right_sizes (hm a (presT_mem l t k a ha).1)).2 (by decide)))
    replace cv := Lib.hid cv
    replace hr := Lib.hid hr
    replace hm := Lib.hid hm
    go_enter Tryd.func29, Tryd.ntmps29
    go_wp2_with fail
    refine cv.out.mono ?_
    rintro e w1 ⟨rfl, hb1⟩
    go_wp2_with fail
    refine (cp.out w1 hb1).mono ?_
    rintro e w2 ⟨b, rfl, hb, hD, hb2⟩
    have hb2' := hb1.trans (hb2.mono hb1.size)
    go_wp2_with fail
    refine (cf.out w2 b hD).mono ?_
    rintro e w3 ⟨hp, hb3⟩
    have hb3' := hb2'.trans (hb3.mono hb2'.size)
    rcases hp with ⟨r, hr, rfl⟩ | ⟨hlo, rfl⟩
    · go_wp2_with fail
      go_ret2
      exact ⟨⟨_, _, Or.inr (Or.inr ⟨hv, hr, rfl⟩), rfl⟩, hb3'⟩
    · go_wp2_with fail
      go_ret2
      exact ⟨⟨_, _, Or.inr (Or.inl ⟨hv, hlo, rfl, rfl⟩), rfl⟩, hb3'⟩
#print axioms followAll_ok
end Go.Proofs.YtpejnnnkamodbaaDoor
/- The package alias: Clone, Add. -/
namespace Go.Proofs.YtpejnnnkamodbaaDoor
open Go Go.RowKit Go.Maps Go.WideMaps Go.Proofs.YtpejnnnkamodbaaDoorW.PrintWords Go.Proofs.YtpejnnnkamodbaaDoorW.PrintLast
open PCanonEqual (S40 k40 z40 rd_T40 at_T40 k40_open k40_mk k40_openM k40_mkM)

theorem info40 : (Tryd.prog.info? 40).map (fun i => (i.zero, i.size, i.bytes)) = some (some (.agg #[(.string ⟨#[]⟩), (.string ⟨#[]⟩), (.int .i64 0), (.bool false)]), 4, 48) := by kernel_rfl
theorem k40_free {w w' : World} {base : Nat} {ok : Nat → Prop} {x : S40} {cs : List Value} (h : k40.K w x cs) : k40.M w' base ok x cs := by
  rw [k40_open h]
  exact k40_mkM w' base ok x
/-- An owned list with nothing in it. -/
theorem R_empty {w : World} {base g : Nat} (hg : w.heap[g]? = some (.cells #[] 40 (0, 0))) (hb : base ≤ g) : Kd.R k40 40 w base (fun _ => True) (.slice (some ⟨g, 0, none⟩) 0 0) [] :=
  ⟨fun _ _ => trivial, [], ⟨rfl, .inr ⟨g, 0, #[], rfl, hb, hg, Nat.le_refl _, by unfold maxLen; omega, rfl, rfl⟩⟩, Reps.none _ _⟩
set_option maxHeartbeats 2000000 in
set_option maxRecDepth 100000 in
theorem clone_ok (A : Option Addr) (c : Nat) (l : List S40) (w : World) (hr : Kd.C k40 w A l.length l) (hl : l.length ≤ 1000000) (hA : A = none → l = []) :
    Calls Tryd.prog 56 #[.slice A l.length c] w fun e w' => ∃ v, e = .returned v ∧ Kd.R k40 40 w' w.heap.size (fun _ => True) v l ∧ Below w.heap.size w w' := by
  replace hr := Lib.hid hr
  have heq := fun w a n c => Lib.run_eql_slice_nil (P := Tryd.prog) w 36 40 a n c 0 0 Tryd.underlying36
  cases A with
  | none =>
    obtain rfl := hA rfl
    go_enter Tryd.func56, Tryd.ntmps56
    go_wp2_with fail
    go_ret
    exact ⟨_, rfl, Kd.R_nil _ _ _ _ _, Below.refl _ _⟩
  | some ad =>
    have hb1 : Below w.heap.size w (w.alloc (Obj.cells #[] 40)) := (Below.refl _ _).alloc (Nat.le_refl _) _
    have hR0 := R_empty (base := w.heap.size) (heap_alloc_new w (Obj.cells #[] 40)) (Nat.le_refl _)
    have hC := Kd.C_below hr.out hb1
    go_enter Tryd.func56, Tryd.ntmps56
    go_wp2_with (at_builtin; refine Kd.R_append_rows k40 w.heap.size rfl _ _ 36 40 _ 48 rfl Tryd.underlying36 info40 rfl (by decide) (by decide) _ [] l (some ad) l.length c (fun _ => True) (fun _ => False) rfl rfl hR0 hC (fun x cs h => k40_free h) (fun k h => h.elim) (fun _ _ => trivial) hb1 hb1.size (by simp; omega) ?_; intro v1 w2 hR2 hb2 hg2 hat2)
    go_ret
    exact ⟨_, rfl, hR2, hb2⟩
theorem size_ad (w : World) (o : Obj) : (w.alloc o).drew.heap.size = w.heap.size + 1 := by
  show (w.heap.push o).size = _
  simp
/-- A box of one element is a row that is read. -/
theorem box_reads {w : World} {gb : Nat} {a : S40} (h : w.heap[gb]? = some (.cells #[.string a.f0, .string a.f1, .int .i64 a.f2, .bool a.f3] 40 (0, 0))) : ReadsRow (k40.K w) k40.sz w (some ⟨gb, 0, none⟩) 1 [a] := by
  refine ⟨rfl, by decide, fun _ => ⟨_, rfl, fun j p hj => ?_⟩⟩
  rcases j with _ | j
  · simp only [List.getElem?_cons_zero, Option.some.injEq] at hj
    subst hj
    refine ⟨_, rfl, k40_mk w a, fun i u hi => ?_⟩
    have e : (⟨gb, 0, none⟩ : Addr).add (0 * k40.sz + i) = ⟨gb, i, none⟩ := by simp [Addr.add]; omega
    rw [e, cell_row h]
    simpa using hi
  · simp at hj
theorem follow_ok2 (b n : Nat) (f : ByteArray → Option S40) (s : ByteArray) (w : World) (L : List ByteArray) (hD : Dict enc40 Tryd.prog 9 w b n f) (hL : ∀ k, f k ≠ none → k ∈ L) (hn : L.length ≤ 1000000) (hs : s.size ≤ 1000000) (hv : ∀ k a, f k = some a → a.f1.size ≤ 1000000) :
    Calls Tryd.prog 54 #[.map (some b), .string s] w fun e w' => (∃ r k, e = .returned (.tuple #[.string r, .bool k]) ∧ ((k = true ∧ Leads f s r) ∨ (k = false ∧ Loops f s))) ∧ Below w.heap.size w w' :=
  (follow_ok b n f s w L hD hL hn hs hv).mono fun _ _ ⟨hp, hb⟩ => ⟨by
    rcases hp with ⟨t, ht, rfl⟩ | ⟨hl, rfl⟩
    · exact ⟨_, _, rfl, Or.inl ⟨rfl, ht⟩⟩
    · exact ⟨_, _, rfl, Or.inr ⟨rfl, hl⟩⟩, hb⟩
theorem C_none {w : World} {A : Option Addr} {l : List S40} (h : Kd.C k40 w A l.length l) : A = none → l = [] := by
  rintro rfl
  cases l with
  | nil => rfl
  | cons x l =>
    obtain ⟨ad, e, _⟩ := h.2.2 (by simp)
    cases e
def earlyT (l : List S40) (a : S40) : Bool := decide (0 < l.length) && decide (a.f2 < (l.getD (l.length - 1) z40).f2)
/-- What Add tells: 0 OK, 1 invalid, 16 the time, 3 the limit, 11 a circle. -/
def AddT (l : List S40) (a : S40) (n : Int) : Prop :=
  ((validT l = false ∨ rightT a = false) ∧ n = 1) ∨
  (validT l = true ∧ rightT a = true ∧ ((earlyT l a = true ∧ n = 16) ∨ (earlyT l a = false ∧ ((256 ≤ l.length ∧ n = 3) ∨ (l.length < 256 ∧
    ((Loops (presT (l ++ [a]) a.f2) a.f0 ∧ a.f3 = false ∧ n = 11) ∨ ((¬ Loops (presT (l ++ [a]) a.f2) a.f0 ∨ a.f3 = true) ∧ n = 0)))))))
def AddPost (l : List S40) (a : S40) (w w' : World) (e : Ending) : Prop :=
  ∃ v n, AddT l a n ∧ e = .returned (.tuple #[v, .int .i64 n]) ∧ ((n ≠ 0 ∧ v = .slice none 0 0) ∨ (n = 0 ∧ Kd.R k40 40 w' w.heap.size (fun _ => True) v (l ++ [a])))
set_option maxHeartbeats 4000000 in
set_option maxRecDepth 100000 in
set_option linter.unusedSimpArgs false in
theorem add_ok (A : Option Addr) (c : Nat) (l : List S40) (a : S40) (w : World) (hT : Tabs w) (hr : Kd.C k40 w A l.length l) :
    Calls Tryd.prog 31 #[.slice A l.length c, .agg #[.string a.f0, .string a.f1, .int .i64 a.f2, .bool a.f3]] w fun e w' => AddPost l a w w' e ∧ Below w.heap.size w w' := by
  obtain ⟨n, o, ti, g⟩ := a
  simp only
  have hb0 : Below w.heap.size w (w.alloc (Obj.cells #[Value.string n, Value.string o, Value.int IntKind.i64 ti, Value.bool g] 40)) := (Below.refl _ _).alloc (Nat.le_refl _) _
  have hk0 := heap_alloc_new w (Obj.cells #[Value.string n, Value.string o, Value.int IntKind.i64 ti, Value.bool g] 40)
  have cv := valid_ok A c l _ (hT.below hb0 hT.six) (Kd.C_below hr hb0)
  have cR := Lib.hid (fun w1 hT => right_ok ⟨n, o, ti, g⟩ w1 hT)
  generalize hG : w.alloc (Obj.cells #[Value.string n, Value.string o, Value.int IntKind.i64 ti, Value.bool g] 40) = w0 at hb0 hk0 cv
  have r0 := Lib.hid (Kd.C_below hr hb0)
  cases hv : validT l with
  | false =>
    rw [hv] at cv
    replace cv := Lib.hid cv
    replace hr := Lib.hid hr
    go_enter Tryd.func31, Tryd.ntmps31
    go_wp2_with fail
    refine cv.out.mono ?_
    rintro e w1 ⟨rfl, hb1⟩
    go_wp2_with fail
    go_ret2
    exact ⟨⟨_, _, Or.inl ⟨Or.inl hv, rfl⟩, rfl, Or.inl ⟨by decide, rfl⟩⟩, hb0.trans (hb1.mono hb0.size)⟩
  | true =>
    rw [hv] at cv
    replace cv := Lib.hid cv
    go_enter Tryd.func31, Tryd.ntmps31
    go_wp2_with fail
    refine cv.out.mono ?_
    rintro e w1 ⟨rfl, hb1⟩
    have hb1' := hb0.trans (hb1.mono hb0.size)
    have hT1 : Tabs w1 := hT.below hb1' hT.six
    have hk1 := (hb1.block _ (Array.getElem?_eq_some_iff.1 hk0).1).trans hk0
    have K1 : Hid (w1.cell? ⟨w.heap.size, 0, none⟩ = some (.string n) ∧ w1.cell? ⟨w.heap.size, 1, none⟩ = some (.string o) ∧ w1.cell? ⟨w.heap.size, 2, none⟩ = some (.int .i64 ti) ∧ w1.cell? ⟨w.heap.size, 3, none⟩ = some (.bool g)) := ⟨(cell_row hk1 0).trans rfl, (cell_row hk1 1).trans rfl, (cell_row hk1 2).trans rfl, (cell_row hk1 3).trans rfl⟩
    have q0 := K1.out.1
    have q1 := K1.out.2.1
    have q2 := K1.out.2.2.1
    have q3 := K1.out.2.2.2
    have cR1 := cR.out w1 hT1
    clear hk1 hk0 hG
    cases hR : rightT ⟨n, o, ti, g⟩ with
    | false =>
      rw [hR] at cR1
      replace cR1 := Lib.hid cR1
      go_wp2_with fail
      refine cR1.out.mono ?_
      rintro e w2 ⟨rfl, hb2⟩
      go_wp2_with fail
      go_ret2
      exact ⟨⟨_, _, Or.inl ⟨Or.inr hR, rfl⟩, rfl, Or.inl ⟨by decide, rfl⟩⟩, hb1'.trans (hb2.mono hb1'.size)⟩
    | true =>
      rw [hR] at cR1
      replace cR1 := Lib.hid cR1
      go_wp2_with fail
      refine cR1.out.mono ?_
      rintro e w2 ⟨rfl, hb2⟩
      have hb2' := hb1'.trans (hb2.mono hb1'.size)
      have K2 : Hid (w2.drew.cell? ⟨w.heap.size, 0, none⟩ = some (.string n) ∧ w2.drew.cell? ⟨w.heap.size, 1, none⟩ = some (.string o) ∧ w2.drew.cell? ⟨w.heap.size, 2, none⟩ = some (.int .i64 ti) ∧ w2.drew.cell? ⟨w.heap.size, 3, none⟩ = some (.bool g)) := ⟨pw_cell_below hb2 q0, pw_cell_below hb2 q1, pw_cell_below hb2 q2, pw_cell_below hb2 q3⟩
      have r2 := Lib.hid (Kd.C_below hr hb2')
      clear q0 q1 q2 q3 K1
      cases hE : earlyT l ⟨n, o, ti, g⟩ with
      | true =>
        simp only [earlyT, Bool.and_eq_true, decide_eq_true_eq] at hE
        obtain ⟨ad, rfl, -, -, d2, -⟩ := at_T40 r2.out ((l.length - 1 : Nat) : Int) (by omega) (by omega)
        rw [Int.toNat_natCast] at d2
        rw [show rd_T40 l ((l.length - 1 : Nat) : Int) = l.getD (l.length - 1) z40 from by simp [rd_T40]] at d2
        have hlt := hE.2
        have hlen := hE.1
        generalize hp : (l.getD (l.length - 1) z40).f2 = p at d2 hlt
        obtain ⟨q, k1⟩ : ∃ q : Int, (l.length : Int) - 1 = q := ⟨_, rfl⟩
        have k2 : (0 : Int) ≤ q := by omega
        have k3 : q < (l.length : Int) := by omega
        have hll : l.length ≤ 256 := by simp only [validT, Bool.and_eq_true, decide_eq_true_eq] at hv; exact hv.1
        have k4 : wrap64 q = q := by unfold wrap64; omega
        rw [show (l.length - 1) * 4 = q.toNat * 4 from by omega] at d2
        have e0 : decide (0 < l.length) = true := decide_eq_true hlen
        have e1 : decide (ti < p) = true := decide_eq_true hlt
        replace hp := Lib.hid hp
        replace hE := Lib.hid hE
        clear hlt hll hlen
        go_wp2_with fail
        refine start_ (n := 16) (S := fun w' => w'.cell? ⟨w.heap.size, 0, none⟩ = some (.string n) ∧ w'.cell? ⟨w.heap.size, 1, none⟩ = some (.string o) ∧ w'.cell? ⟨w.heap.size, 2, none⟩ = some (.int .i64 ti) ∧ w'.cell? ⟨w.heap.size, 3, none⟩ = some (.bool g) ∧ w'.cell? ⟨(ad.add (q.toNat * 4)).block, (ad.add (q.toNat * 4)).off + 2, none⟩ = some (.int .i64 p)) (ds := []) #[false, false, false, false, false, false, false, false, false, false, false, false, false, false, false, false] (by kernel_rfl) rfl rfl ⟨(K2.out.1), (K2.out.2.1), (K2.out.2.2.1), (K2.out.2.2.2), d2⟩ (fun hHeld => ?_)
        refine pure_ (i := 0) (N := some 19) (v := ?_) (a' := ?_) #[true, false, false, false, false, false, false, false, false, false, false, false, false, false, false, false] rfl rfl (by kernel_rfl) (fun _ _ _ h => h) (Or.inl ⟨by rfl, ?_⟩) ?_ ?_
        rotate_left
        · intro w'
          go_simp
          with_reducible rfl
        rotate_left
        · simp only [Act.put, List.setIfInBounds_toArray, List.set_cons_zero, List.set_cons_succ, i64_w, i32_w]
          rfl
        refine pure_ (i := 1) (N := some 20) (v := ?_) (a' := ?_) #[true, true, false, false, false, false, false, false, false, false, false, false, false, false, false, false] rfl rfl (by kernel_rfl) (fun _ _ _ h => h) (Or.inl ⟨by rfl, ?_⟩) ?_ ?_
        rotate_left
        · intro w'
          go_simp
          with_reducible rfl
        rotate_left
        · simp only [Act.put, List.setIfInBounds_toArray, List.set_cons_zero, List.set_cons_succ, i64_w, i32_w]
          rfl
        refine pure_ (i := 2) (N := some 21) (v := ?_) (a' := ?_) #[true, true, true, false, false, false, false, false, false, false, false, false, false, false, false, false] rfl rfl (by kernel_rfl) (fun _ _ _ h => h) (Or.inl ⟨by rfl, ?_⟩) ?_ ?_
        rotate_left
        · intro w'
          go_simp
          with_reducible rfl
        rotate_left
        · simp only [Act.put, List.setIfInBounds_toArray, List.set_cons_zero, List.set_cons_succ, i64_w, i32_w]
          rfl
        refine pure_ (i := 3) (N := some 22) (v := ?_) (a' := ?_) #[true, true, true, true, false, false, false, false, false, false, false, false, false, false, false, false] rfl rfl (by kernel_rfl) (fun _ _ _ h => h) (Or.inl ⟨by rfl, ?_⟩) ?_ ?_
        rotate_left
        · intro w'
          go_simp
          with_reducible rfl
        rotate_left
        · simp only [Act.put, List.setIfInBounds_toArray, List.set_cons_zero, List.set_cons_succ, i64_w, i32_w]
          rfl
        refine pure_ (i := 4) (N := some 23) (v := ?_) (a' := ?_) #[true, true, true, true, true, false, false, false, false, false, false, false, false, false, false, false] rfl rfl (by kernel_rfl) (fun _ _ _ h => h) (Or.inl ⟨by rfl, ?_⟩) ?_ ?_
        rotate_left
        · intro w'
          go_simp
          with_reducible rfl
        rotate_left
        · simp only [Act.put, List.setIfInBounds_toArray, List.set_cons_zero, List.set_cons_succ, i64_w, i32_w]
          rfl
        refine pure_ (i := 6) (N := some 25) (v := ?_) (a' := ?_) #[true, true, true, true, true, false, true, false, false, false, false, false, false, false, false, false] rfl rfl (by kernel_rfl) (fun _ _ _ h => h) (Or.inl ⟨by rfl, ?_⟩) ?_ ?_
        rotate_left
        · intro w'
          go_simp
          with_reducible rfl
        rotate_left
        · simp only [Act.put, List.setIfInBounds_toArray, List.set_cons_zero, List.set_cons_succ, i64_w, i32_w]
          rfl
        refine pure_ (i := 7) (N := some 26) (v := ?_) (a' := ?_) #[true, true, true, true, true, false, true, true, false, false, false, false, false, false, false, false] rfl rfl (by kernel_rfl) (fun _ _ _ h => h) (Or.inl ⟨by rfl, ?_⟩) ?_ ?_
        rotate_left
        · intro w'
          go_simp
          with_reducible rfl
        rotate_left
        · simp only [Act.put, List.setIfInBounds_toArray, List.set_cons_zero, List.set_cons_succ, i64_w, i32_w]
          rfl
        refine pure_ (i := 8) (N := some 27) (v := ?_) (a' := ?_) #[true, true, true, true, true, false, true, true, true, false, false, false, false, false, false, false] rfl rfl (by kernel_rfl) (fun _ _ _ h => h) (Or.inl ⟨by rfl, ?_⟩) ?_ ?_
        rotate_left
        · intro w'
          go_simp
          with_reducible rfl
        rotate_left
        · simp only [Act.put, List.setIfInBounds_toArray, List.set_cons_zero, List.set_cons_succ, i64_w, i32_w]
          rfl
        refine pure_ (i := 9) (N := some 28) (v := ?_) (a' := ?_) #[true, true, true, true, true, false, true, true, true, true, false, false, false, false, false, false] rfl rfl (by kernel_rfl) (fun _ _ _ h => h) (Or.inl ⟨by rfl, ?_⟩) ?_ ?_
        rotate_left
        · intro w'
          go_simp
          with_reducible rfl
        rotate_left
        · simp only [Act.put, List.setIfInBounds_toArray, List.set_cons_zero, List.set_cons_succ, i64_w, i32_w]
          rfl
        refine pure_ (i := 10) (N := some 29) (v := ?_) (a' := ?_) #[true, true, true, true, true, false, true, true, true, true, true, false, false, false, false, false] rfl rfl (by kernel_rfl) (fun _ _ _ h => h) (Or.inl ⟨by rfl, ?_⟩) ?_ ?_
        rotate_left
        · intro w'
          go_simp
          with_reducible rfl
        rotate_left
        · simp only [Act.put, List.setIfInBounds_toArray, List.set_cons_zero, List.set_cons_succ, i64_w, i32_w]
          rfl
        refine pure_ (i := 11) (N := some 30) (v := ?_) (a' := ?_) #[true, true, true, true, true, false, true, true, true, true, true, true, false, false, false, false] rfl rfl (by kernel_rfl) (fun _ _ _ h => h) (Or.inl ⟨by rfl, ?_⟩) ?_ ?_
        rotate_left
        · intro w'
          go_simp
          with_reducible rfl
        rotate_left
        · simp only [Act.put, List.setIfInBounds_toArray, List.set_cons_zero, List.set_cons_succ, i64_w, i32_w]
          rfl
        refine take_ (i := 5) (N := some 24) (v := ?_) (a' := ?_) #[true, true, true, true, true, true, true, true, true, true, true, true, false, false, false, false] rfl rfl (by kernel_rfl) (fun _ _ _ h => h) (Or.inl ⟨by rfl, ?_⟩) hHeld ?_ ?_
        rotate_left
        · rintro w' ⟨s0, s1, s2, s3, s4⟩
          go_simp
          with_reducible rfl
        rotate_left
        · simp only [Act.put, List.setIfInBounds_toArray, List.set_cons_zero, List.set_cons_succ, i64_w, i32_w]
          rfl
        refine take_ (i := 12) (N := some 31) (v := ?_) (a' := ?_) #[true, true, true, true, true, true, true, true, true, true, true, true, true, false, false, false] rfl rfl (by kernel_rfl) (fun _ _ _ h => h) (Or.inl ⟨by rfl, ?_⟩) hHeld ?_ ?_
        rotate_left
        · rintro w' ⟨s0, s1, s2, s3, s4⟩
          go_simp
          with_reducible rfl
        rotate_left
        · simp only [Act.put, List.setIfInBounds_toArray, List.set_cons_zero, List.set_cons_succ, i64_w, i32_w]
          rfl
        refine pure_ (i := 13) (N := some 32) (v := ?_) (a' := ?_) #[true, true, true, true, true, true, true, true, true, true, true, true, true, true, false, false] rfl rfl (by kernel_rfl) (fun _ _ _ h => h) (Or.inl ⟨by rfl, ?_⟩) ?_ ?_
        rotate_left
        · intro w'
          go_simp
          with_reducible rfl
        rotate_left
        · simp only [Act.put, List.setIfInBounds_toArray, List.set_cons_zero, List.set_cons_succ, i64_w, i32_w]
          rfl
        refine pure_ (i := 14) (N := some 33) (v := ?_) (a' := ?_) #[true, true, true, true, true, true, true, true, true, true, true, true, true, true, true, false] rfl rfl (by kernel_rfl) (fun _ _ _ h => h) (Or.inl ⟨by rfl, ?_⟩) ?_ ?_
        rotate_left
        · intro w'
          go_simp
          with_reducible rfl
        rotate_left
        · simp only [Act.put, List.setIfInBounds_toArray, List.set_cons_zero, List.set_cons_succ, i64_w, i32_w]
          rfl
        refine pure_ (i := 15) (N := some 18) (v := ?_) (a' := ?_) #[true, true, true, true, true, true, true, true, true, true, true, true, true, true, true, true] rfl rfl (by kernel_rfl) (fun _ _ _ h => h) (Or.inl ⟨by rfl, ?_⟩) ?_ ?_
        rotate_left
        · intro w'
          go_simp
          with_reducible rfl
        rotate_left
        · simp only [Act.put, List.setIfInBounds_toArray, List.set_cons_zero, List.set_cons_succ, i64_w, i32_w]
          rfl
        refine done_ (by kernel_rfl) ?_
        go_wp2
        go_ret2
        exact ⟨⟨_, _, Or.inr ⟨hv, hR, Or.inl ⟨by simp only [earlyT, Bool.and_eq_true, decide_eq_true_eq]; exact hE.out, rfl⟩⟩, rfl, Or.inl ⟨by decide, rfl⟩⟩, hb2'.trans (Below.refl _ _).drew⟩
      | false =>
        have hll : l.length ≤ 256 := by simp only [validT, Bool.and_eq_true, decide_eq_true_eq] at hv; exact hv.1
        have hv' := Lib.hid hv
        have hR' := Lib.hid hR
        have hE' := Lib.hid hE
        by_cases hlen : 0 < l.length
        case' pos =>
          obtain ⟨ad, rfl, -, -, d2, -⟩ := at_T40 r2.out ((l.length - 1 : Nat) : Int) (by omega) (by omega)
          rw [Int.toNat_natCast] at d2
          rw [show rd_T40 l ((l.length - 1 : Nat) : Int) = l.getD (l.length - 1) z40 from by simp [rd_T40]] at d2
          have hlt : ¬ ti < (l.getD (l.length - 1) z40).f2 := by
            intro h
            simp only [earlyT, Bool.and_eq_false_iff, decide_eq_false_iff_not] at hE
            rcases hE with hE | hE
            · exact hE hlen
            · exact hE h
          generalize hp : (l.getD (l.length - 1) z40).f2 = p at d2 hlt
          obtain ⟨q, k1⟩ : ∃ q : Int, (l.length : Int) - 1 = q := ⟨_, rfl⟩
          have k2 : (0 : Int) ≤ q := by omega
          have k3 : q < (l.length : Int) := by omega
          have k4 : wrap64 q = q := by unfold wrap64; omega
          rw [show (l.length - 1) * 4 = q.toNat * 4 from by omega] at d2
          have e0 : decide (0 < l.length) = true := decide_eq_true hlen
          have e1 : decide (ti < p) = false := decide_eq_false hlt
          replace hp := Lib.hid hp
          clear hlt hlen hE hv hR
          replace hll := Lib.hid hll
          go_wp2_with fail
          refine start_ (n := 16) (S := fun w' => w'.cell? ⟨w.heap.size, 0, none⟩ = some (.string n) ∧ w'.cell? ⟨w.heap.size, 1, none⟩ = some (.string o) ∧ w'.cell? ⟨w.heap.size, 2, none⟩ = some (.int .i64 ti) ∧ w'.cell? ⟨w.heap.size, 3, none⟩ = some (.bool g) ∧ w'.cell? ⟨(ad.add (q.toNat * 4)).block, (ad.add (q.toNat * 4)).off + 2, none⟩ = some (.int .i64 p)) (ds := []) #[false, false, false, false, false, false, false, false, false, false, false, false, false, false, false, false] (by kernel_rfl) rfl rfl ⟨(K2.out.1), (K2.out.2.1), (K2.out.2.2.1), (K2.out.2.2.2), d2⟩ (fun hHeld => ?_)
          refine pure_ (i := 0) (N := some 19) (v := ?_) (a' := ?_) #[true, false, false, false, false, false, false, false, false, false, false, false, false, false, false, false] rfl rfl (by kernel_rfl) (fun _ _ _ h => h) (Or.inl ⟨by rfl, ?_⟩) ?_ ?_
          rotate_left
          · intro w'
            go_simp
            with_reducible rfl
          rotate_left
          · simp only [Act.put, List.setIfInBounds_toArray, List.set_cons_zero, List.set_cons_succ, i64_w, i32_w]
            rfl
          refine pure_ (i := 1) (N := some 20) (v := ?_) (a' := ?_) #[true, true, false, false, false, false, false, false, false, false, false, false, false, false, false, false] rfl rfl (by kernel_rfl) (fun _ _ _ h => h) (Or.inl ⟨by rfl, ?_⟩) ?_ ?_
          rotate_left
          · intro w'
            go_simp
            with_reducible rfl
          rotate_left
          · simp only [Act.put, List.setIfInBounds_toArray, List.set_cons_zero, List.set_cons_succ, i64_w, i32_w]
            rfl
          refine pure_ (i := 2) (N := some 21) (v := ?_) (a' := ?_) #[true, true, true, false, false, false, false, false, false, false, false, false, false, false, false, false] rfl rfl (by kernel_rfl) (fun _ _ _ h => h) (Or.inl ⟨by rfl, ?_⟩) ?_ ?_
          rotate_left
          · intro w'
            go_simp
            with_reducible rfl
          rotate_left
          · simp only [Act.put, List.setIfInBounds_toArray, List.set_cons_zero, List.set_cons_succ, i64_w, i32_w]
            rfl
          refine pure_ (i := 3) (N := some 22) (v := ?_) (a' := ?_) #[true, true, true, true, false, false, false, false, false, false, false, false, false, false, false, false] rfl rfl (by kernel_rfl) (fun _ _ _ h => h) (Or.inl ⟨by rfl, ?_⟩) ?_ ?_
          rotate_left
          · intro w'
            go_simp
            with_reducible rfl
          rotate_left
          · simp only [Act.put, List.setIfInBounds_toArray, List.set_cons_zero, List.set_cons_succ, i64_w, i32_w]
            rfl
          refine pure_ (i := 4) (N := some 23) (v := ?_) (a' := ?_) #[true, true, true, true, true, false, false, false, false, false, false, false, false, false, false, false] rfl rfl (by kernel_rfl) (fun _ _ _ h => h) (Or.inl ⟨by rfl, ?_⟩) ?_ ?_
          rotate_left
          · intro w'
            go_simp
            with_reducible rfl
          rotate_left
          · simp only [Act.put, List.setIfInBounds_toArray, List.set_cons_zero, List.set_cons_succ, i64_w, i32_w]
            rfl
          refine pure_ (i := 6) (N := some 25) (v := ?_) (a' := ?_) #[true, true, true, true, true, false, true, false, false, false, false, false, false, false, false, false] rfl rfl (by kernel_rfl) (fun _ _ _ h => h) (Or.inl ⟨by rfl, ?_⟩) ?_ ?_
          rotate_left
          · intro w'
            go_simp
            with_reducible rfl
          rotate_left
          · simp only [Act.put, List.setIfInBounds_toArray, List.set_cons_zero, List.set_cons_succ, i64_w, i32_w]
            rfl
          refine pure_ (i := 7) (N := some 26) (v := ?_) (a' := ?_) #[true, true, true, true, true, false, true, true, false, false, false, false, false, false, false, false] rfl rfl (by kernel_rfl) (fun _ _ _ h => h) (Or.inl ⟨by rfl, ?_⟩) ?_ ?_
          rotate_left
          · intro w'
            go_simp
            with_reducible rfl
          rotate_left
          · simp only [Act.put, List.setIfInBounds_toArray, List.set_cons_zero, List.set_cons_succ, i64_w, i32_w]
            rfl
          refine pure_ (i := 8) (N := some 27) (v := ?_) (a' := ?_) #[true, true, true, true, true, false, true, true, true, false, false, false, false, false, false, false] rfl rfl (by kernel_rfl) (fun _ _ _ h => h) (Or.inl ⟨by rfl, ?_⟩) ?_ ?_
          rotate_left
          · intro w'
            go_simp
            with_reducible rfl
          rotate_left
          · simp only [Act.put, List.setIfInBounds_toArray, List.set_cons_zero, List.set_cons_succ, i64_w, i32_w]
            rfl
          refine pure_ (i := 9) (N := some 28) (v := ?_) (a' := ?_) #[true, true, true, true, true, false, true, true, true, true, false, false, false, false, false, false] rfl rfl (by kernel_rfl) (fun _ _ _ h => h) (Or.inl ⟨by rfl, ?_⟩) ?_ ?_
          rotate_left
          · intro w'
            go_simp
            with_reducible rfl
          rotate_left
          · simp only [Act.put, List.setIfInBounds_toArray, List.set_cons_zero, List.set_cons_succ, i64_w, i32_w]
            rfl
          refine pure_ (i := 10) (N := some 29) (v := ?_) (a' := ?_) #[true, true, true, true, true, false, true, true, true, true, true, false, false, false, false, false] rfl rfl (by kernel_rfl) (fun _ _ _ h => h) (Or.inl ⟨by rfl, ?_⟩) ?_ ?_
          rotate_left
          · intro w'
            go_simp
            with_reducible rfl
          rotate_left
          · simp only [Act.put, List.setIfInBounds_toArray, List.set_cons_zero, List.set_cons_succ, i64_w, i32_w]
            rfl
          refine pure_ (i := 11) (N := some 30) (v := ?_) (a' := ?_) #[true, true, true, true, true, false, true, true, true, true, true, true, false, false, false, false] rfl rfl (by kernel_rfl) (fun _ _ _ h => h) (Or.inl ⟨by rfl, ?_⟩) ?_ ?_
          rotate_left
          · intro w'
            go_simp
            with_reducible rfl
          rotate_left
          · simp only [Act.put, List.setIfInBounds_toArray, List.set_cons_zero, List.set_cons_succ, i64_w, i32_w]
            rfl
          refine take_ (i := 5) (N := some 24) (v := ?_) (a' := ?_) #[true, true, true, true, true, true, true, true, true, true, true, true, false, false, false, false] rfl rfl (by kernel_rfl) (fun _ _ _ h => h) (Or.inl ⟨by rfl, ?_⟩) hHeld ?_ ?_
          rotate_left
          · rintro w' ⟨s0, s1, s2, s3, s4⟩
            go_simp
            with_reducible rfl
          rotate_left
          · simp only [Act.put, List.setIfInBounds_toArray, List.set_cons_zero, List.set_cons_succ, i64_w, i32_w]
            rfl
          refine take_ (i := 12) (N := some 31) (v := ?_) (a' := ?_) #[true, true, true, true, true, true, true, true, true, true, true, true, true, false, false, false] rfl rfl (by kernel_rfl) (fun _ _ _ h => h) (Or.inl ⟨by rfl, ?_⟩) hHeld ?_ ?_
          rotate_left
          · rintro w' ⟨s0, s1, s2, s3, s4⟩
            go_simp
            with_reducible rfl
          rotate_left
          · simp only [Act.put, List.setIfInBounds_toArray, List.set_cons_zero, List.set_cons_succ, i64_w, i32_w]
            rfl
          refine pure_ (i := 13) (N := some 32) (v := ?_) (a' := ?_) #[true, true, true, true, true, true, true, true, true, true, true, true, true, true, false, false] rfl rfl (by kernel_rfl) (fun _ _ _ h => h) (Or.inl ⟨by rfl, ?_⟩) ?_ ?_
          rotate_left
          · intro w'
            go_simp
            with_reducible rfl
          rotate_left
          · simp only [Act.put, List.setIfInBounds_toArray, List.set_cons_zero, List.set_cons_succ, i64_w, i32_w]
            rfl
          refine pure_ (i := 14) (N := some 33) (v := ?_) (a' := ?_) #[true, true, true, true, true, true, true, true, true, true, true, true, true, true, true, false] rfl rfl (by kernel_rfl) (fun _ _ _ h => h) (Or.inl ⟨by rfl, ?_⟩) ?_ ?_
          rotate_left
          · intro w'
            go_simp
            with_reducible rfl
          rotate_left
          · simp only [Act.put, List.setIfInBounds_toArray, List.set_cons_zero, List.set_cons_succ, i64_w, i32_w]
            rfl
          refine pure_ (i := 15) (N := some 18) (v := ?_) (a' := ?_) #[true, true, true, true, true, true, true, true, true, true, true, true, true, true, true, true] rfl rfl (by kernel_rfl) (fun _ _ _ h => h) (Or.inl ⟨by rfl, ?_⟩) ?_ ?_
          rotate_left
          · intro w'
            go_simp
            with_reducible rfl
          rotate_left
          · simp only [Act.put, List.setIfInBounds_toArray, List.set_cons_zero, List.set_cons_succ, i64_w, i32_w]
            rfl
          refine done_ (by kernel_rfl) ?_
          clear hHeld d2 k1 k2 k3 k4 e0 e1 hp
          obtain ⟨AA, hAA⟩ : ∃ AA, AA = some ad := ⟨_, rfl⟩
          have hAn : AA = none → l = [] := fun h => by rw [hAA] at h; cases h
          rw [← hAA] at hr r0 cv r2 ⊢
          clear hAA
          replace hr := Lib.hid hr
        case' neg =>
          have e0 : decide (0 < l.length) = false := decide_eq_false hlen
          clear hlen hE hv hR
          replace hll := Lib.hid hll
          go_wp2_with fail
          refine start_ (n := 16) (S := fun w' => True) (ds := []) #[false, false, false, false, false, false, false, false, false, false, false, false, false, false, false, false] (by kernel_rfl) rfl rfl trivial (fun hHeld => ?_)
          refine pure_ (i := 0) (N := some 19) (v := ?_) (a' := ?_) #[true, false, false, false, false, false, false, false, false, false, false, false, false, false, false, false] rfl rfl (by kernel_rfl) (fun _ _ _ h => h) (Or.inl ⟨by rfl, ?_⟩) ?_ ?_
          rotate_left
          · intro w'
            go_simp
            with_reducible rfl
          rotate_left
          · simp only [Act.put, List.setIfInBounds_toArray, List.set_cons_zero, List.set_cons_succ, i64_w, i32_w]
            rfl
          refine pure_ (i := 1) (N := some 20) (v := ?_) (a' := ?_) #[true, true, false, false, false, false, false, false, false, false, false, false, false, false, false, false] rfl rfl (by kernel_rfl) (fun _ _ _ h => h) (Or.inl ⟨by rfl, ?_⟩) ?_ ?_
          rotate_left
          · intro w'
            go_simp
            with_reducible rfl
          rotate_left
          · simp only [Act.put, List.setIfInBounds_toArray, List.set_cons_zero, List.set_cons_succ, i64_w, i32_w]
            rfl
          refine pure_ (i := 2) (N := some 21) (v := ?_) (a' := ?_) #[true, true, true, false, false, false, false, false, false, false, false, false, false, false, false, false] rfl rfl (by kernel_rfl) (fun _ _ _ h => h) (Or.inl ⟨by rfl, ?_⟩) ?_ ?_
          rotate_left
          · intro w'
            go_simp
            with_reducible rfl
          rotate_left
          · simp only [Act.put, List.setIfInBounds_toArray, List.set_cons_zero, List.set_cons_succ, i64_w, i32_w]
            rfl
          refine pure_ (i := 3) (N := some 22) (v := ?_) (a' := ?_) #[true, true, true, true, false, false, false, false, false, false, false, false, false, false, false, false] rfl rfl (by kernel_rfl) (fun _ _ _ h => h) (Or.inl ⟨by rfl, ?_⟩) ?_ ?_
          rotate_left
          · intro w'
            go_simp
            with_reducible rfl
          rotate_left
          · simp only [Act.put, List.setIfInBounds_toArray, List.set_cons_zero, List.set_cons_succ, i64_w, i32_w]
            rfl
          refine pure_ (i := 4) (N := some 23) (v := undef) (a' := ?_) #[true, true, true, true, true, false, false, false, false, false, false, false, false, false, false, false] rfl rfl (by kernel_rfl) (fun _ _ _ h => h) (Or.inr ⟨by rfl, rfl⟩) ?_ ?_
          rotate_left
          · simp only [Act.put, List.setIfInBounds_toArray, List.set_cons_zero, List.set_cons_succ, i64_w, i32_w]
            rfl
          refine pure_ (i := 5) (N := some 24) (v := undef) (a' := ?_) #[true, true, true, true, true, true, false, false, false, false, false, false, false, false, false, false] rfl rfl (by kernel_rfl) (fun _ _ _ h => h) (Or.inr ⟨by rfl, rfl⟩) ?_ ?_
          rotate_left
          · simp only [Act.put, List.setIfInBounds_toArray, List.set_cons_zero, List.set_cons_succ, i64_w, i32_w]
            rfl
          refine pure_ (i := 6) (N := some 25) (v := undef) (a' := ?_) #[true, true, true, true, true, true, true, false, false, false, false, false, false, false, false, false] rfl rfl (by kernel_rfl) (fun _ _ _ h => h) (Or.inr ⟨by rfl, rfl⟩) ?_ ?_
          rotate_left
          · simp only [Act.put, List.setIfInBounds_toArray, List.set_cons_zero, List.set_cons_succ, i64_w, i32_w]
            rfl
          refine pure_ (i := 7) (N := some 26) (v := undef) (a' := ?_) #[true, true, true, true, true, true, true, true, false, false, false, false, false, false, false, false] rfl rfl (by kernel_rfl) (fun _ _ _ h => h) (Or.inr ⟨by rfl, rfl⟩) ?_ ?_
          rotate_left
          · simp only [Act.put, List.setIfInBounds_toArray, List.set_cons_zero, List.set_cons_succ, i64_w, i32_w]
            rfl
          refine pure_ (i := 8) (N := some 27) (v := undef) (a' := ?_) #[true, true, true, true, true, true, true, true, true, false, false, false, false, false, false, false] rfl rfl (by kernel_rfl) (fun _ _ _ h => h) (Or.inr ⟨by rfl, rfl⟩) ?_ ?_
          rotate_left
          · simp only [Act.put, List.setIfInBounds_toArray, List.set_cons_zero, List.set_cons_succ, i64_w, i32_w]
            rfl
          refine pure_ (i := 9) (N := some 28) (v := undef) (a' := ?_) #[true, true, true, true, true, true, true, true, true, true, false, false, false, false, false, false] rfl rfl (by kernel_rfl) (fun _ _ _ h => h) (Or.inr ⟨by rfl, rfl⟩) ?_ ?_
          rotate_left
          · simp only [Act.put, List.setIfInBounds_toArray, List.set_cons_zero, List.set_cons_succ, i64_w, i32_w]
            rfl
          refine pure_ (i := 10) (N := some 29) (v := undef) (a' := ?_) #[true, true, true, true, true, true, true, true, true, true, true, false, false, false, false, false] rfl rfl (by kernel_rfl) (fun _ _ _ h => h) (Or.inr ⟨by rfl, rfl⟩) ?_ ?_
          rotate_left
          · simp only [Act.put, List.setIfInBounds_toArray, List.set_cons_zero, List.set_cons_succ, i64_w, i32_w]
            rfl
          refine pure_ (i := 11) (N := some 30) (v := undef) (a' := ?_) #[true, true, true, true, true, true, true, true, true, true, true, true, false, false, false, false] rfl rfl (by kernel_rfl) (fun _ _ _ h => h) (Or.inr ⟨by rfl, rfl⟩) ?_ ?_
          rotate_left
          · simp only [Act.put, List.setIfInBounds_toArray, List.set_cons_zero, List.set_cons_succ, i64_w, i32_w]
            rfl
          refine pure_ (i := 12) (N := some 31) (v := undef) (a' := ?_) #[true, true, true, true, true, true, true, true, true, true, true, true, true, false, false, false] rfl rfl (by kernel_rfl) (fun _ _ _ h => h) (Or.inr ⟨by rfl, rfl⟩) ?_ ?_
          rotate_left
          · simp only [Act.put, List.setIfInBounds_toArray, List.set_cons_zero, List.set_cons_succ, i64_w, i32_w]
            rfl
          refine pure_ (i := 13) (N := some 32) (v := undef) (a' := ?_) #[true, true, true, true, true, true, true, true, true, true, true, true, true, true, false, false] rfl rfl (by kernel_rfl) (fun _ _ _ h => h) (Or.inr ⟨by rfl, rfl⟩) ?_ ?_
          rotate_left
          · simp only [Act.put, List.setIfInBounds_toArray, List.set_cons_zero, List.set_cons_succ, i64_w, i32_w]
            rfl
          refine pure_ (i := 14) (N := some 33) (v := ?_) (a' := ?_) #[true, true, true, true, true, true, true, true, true, true, true, true, true, true, true, false] rfl rfl (by kernel_rfl) (fun _ _ _ h => h) (Or.inl ⟨by rfl, ?_⟩) ?_ ?_
          rotate_left
          · intro w'
            go_simp
            with_reducible rfl
          rotate_left
          · simp only [Act.put, List.setIfInBounds_toArray, List.set_cons_zero, List.set_cons_succ, i64_w, i32_w]
            rfl
          refine pure_ (i := 15) (N := some 18) (v := ?_) (a' := ?_) #[true, true, true, true, true, true, true, true, true, true, true, true, true, true, true, true] rfl rfl (by kernel_rfl) (fun _ _ _ h => h) (Or.inl ⟨by rfl, ?_⟩) ?_ ?_
          rotate_left
          · intro w'
            go_simp
            with_reducible rfl
          rotate_left
          · simp only [Act.put, List.setIfInBounds_toArray, List.set_cons_zero, List.set_cons_succ, i64_w, i32_w]
            rfl
          refine done_ (by kernel_rfl) ?_
          clear hHeld e0
          have hAn : A = none → l = [] := C_none hr
          obtain ⟨AA, hAA⟩ : ∃ AA, AA = A := ⟨_, rfl⟩
          rw [← hAA] at hr r0 cv r2 hAn ⊢
          clear hAA
          replace hr := Lib.hid hr
        all_goals
          have r3 := Kd.C_below r2.out (Below.refl _ _).drew
          have hb3 := hb2'.trans (Below.refl w.heap.size w2).drew
          have hT3 := hT.below hb3 hT.six
          clear r2 hb2' hb2 r0 hb0 hb1 hb1' cR cR1 cv hT1
          generalize w2.drew = w3 at K2 r3 hb3 hT3 ⊢
          clear w2 w1 w0
          by_cases h256 : 256 ≤ l.length
          · have e2 : decide (256 ≤ l.length) = true := decide_eq_true h256
            go_wp2_with fail
            go_ret2
            exact ⟨⟨_, _, Or.inr ⟨hv'.out, hR'.out, Or.inr ⟨hE'.out, Or.inl ⟨h256, rfl⟩⟩⟩, rfl, Or.inl ⟨by decide, rfl⟩⟩, hb3⟩
          · have e2 : decide (256 ≤ l.length) = false := decide_eq_false h256
            have hl256 : l.length < 256 := by omega
            go_wp2_with fail
            refine start_ (n := 6) (S := fun w' => w'.cell? ⟨w.heap.size, 0, none⟩ = some (.string n) ∧ w'.cell? ⟨w.heap.size, 1, none⟩ = some (.string o) ∧ w'.cell? ⟨w.heap.size, 2, none⟩ = some (.int .i64 ti) ∧ w'.cell? ⟨w.heap.size, 3, none⟩ = some (.bool g) ∧ Below w3.heap.size w3 w') (ds := []) #[false, false, false, false, false, false] (by kernel_rfl) rfl rfl ⟨K2.out.1, K2.out.2.1, K2.out.2.2.1, K2.out.2.2.2, (Below.refl _ _).drew⟩ (fun hHeld => ?_)
            refine pure_ (i := 0) (N := some 38) (v := ?_) (a' := ?_) #[true, false, false, false, false, false] rfl rfl (by kernel_rfl) (fun _ _ _ h => h) (Or.inl ⟨by rfl, ?_⟩) ?_ ?_
            rotate_left
            · intro w'
              go_simp
              with_reducible rfl
            rotate_left
            · simp only [Act.put, List.setIfInBounds_toArray, List.set_cons_zero, List.set_cons_succ, i64_w, i32_w]
              rfl
            refine take_ (i := 2) (N := some 40) (v := ?_) (a' := ?_) #[true, false, true, false, false, false] rfl rfl (by kernel_rfl) (fun _ _ _ h => h) (Or.inl ⟨by rfl, ?_⟩) hHeld ?_ ?_
            rotate_left
            · rintro w' ⟨s0, s1, s2, s3, s4⟩
              go_simp
              with_reducible rfl
            rotate_left
            · simp only [Act.put, List.setIfInBounds_toArray, List.set_cons_zero, List.set_cons_succ, i64_w, i32_w]
              rfl
            refine join_ (σ := Value × Nat) 2 #[true, true, true, true, false, false] (fun s_ => [(39, s_.1), (41, .slice (some ⟨s_.2, 0, none⟩) 1 1)]) (fun s_ w' => (w'.cell? ⟨w.heap.size, 0, none⟩ = some (.string n) ∧ w'.cell? ⟨w.heap.size, 1, none⟩ = some (.string o) ∧ w'.cell? ⟨w.heap.size, 2, none⟩ = some (.int .i64 ti) ∧ w'.cell? ⟨w.heap.size, 3, none⟩ = some (.bool g) ∧ Below w3.heap.size w3 w') ∧ Kd.R k40 40 w' w3.heap.size (fun _ => True) s_.1 l ∧ w'.heap[s_.2]? = some (.cells #[.string n, .string o, .int .i64 ti, .bool g] 40 (0, 0))) ?_ ?_
            rotate_left
            · intro hCont
              refine two_ (i := 1) (j := 3) (Ni := some 39) (Nj := some 41) #[true, true, true, false, false, false] #[true, false, true, true, false, false] rfl rfl rfl rfl (by kernel_rfl) (by decide) (by decide) (fun K hK => ?_) (fun K hK => ?_)
              · skip
                refine goes_ Tryd.func56 (by kernel_rfl) rfl #[.slice AA l.length c] (by rfl) rfl rfl (by simp only [List.map_toArray, List.map_cons, List.map_nil]; rfl) ?_
                with_reducible refine (clone_ok AA c l _ (Kd.C_below r3 hHeld.2.2.2.2) (by omega) hAn).mono ?_
                rintro e w5 ⟨v5, rfl, hR5, hb5⟩
                refine ⟨_, rfl, ?_⟩
                refine hK.out _ _ ⟨pw_cell_below (hHeld.2.2.2.2.trans (hb5.mono hHeld.2.2.2.2.size)) K2.out.1, pw_cell_below (hHeld.2.2.2.2.trans (hb5.mono hHeld.2.2.2.2.size)) K2.out.2.1, pw_cell_below (hHeld.2.2.2.2.trans (hb5.mono hHeld.2.2.2.2.size)) K2.out.2.2.1, pw_cell_below (hHeld.2.2.2.2.trans (hb5.mono hHeld.2.2.2.2.size)) K2.out.2.2.2, hHeld.2.2.2.2.trans (hb5.mono hHeld.2.2.2.2.size)⟩ (fun hHeld => ?_)
                clear hK K
                refine norm_ (a' := ?_) ?_ ?_
                rotate_left
                · show Act.put _ (some 39) _ = _
                  simp only [Act.put, List.setIfInBounds_toArray, List.set_cons_zero, List.set_cons_succ, i64_w, i32_w]
                  rfl
                refine one_ (i := 3) (N := some 41) #[true, true, true, true, false, false] rfl rfl (by kernel_rfl) (by decide) (fun K hK => ?_)
                refine value_ (w1 := ?_) (v := ?_) (by rfl) rfl ?_ ?_
                rotate_left 2
                · go_simp
                  constructor
                  · rfl
                  · rfl
                refine hK.out _ _ ⟨pw_cell_below (hHeld.2.2.2.2.trans ((Below.alloc (Below.refl _ _) (Nat.le_refl _) _).mono hHeld.2.2.2.2.size)) K2.out.1, pw_cell_below (hHeld.2.2.2.2.trans ((Below.alloc (Below.refl _ _) (Nat.le_refl _) _).mono hHeld.2.2.2.2.size)) K2.out.2.1, pw_cell_below (hHeld.2.2.2.2.trans ((Below.alloc (Below.refl _ _) (Nat.le_refl _) _).mono hHeld.2.2.2.2.size)) K2.out.2.2.1, pw_cell_below (hHeld.2.2.2.2.trans ((Below.alloc (Below.refl _ _) (Nat.le_refl _) _).mono hHeld.2.2.2.2.size)) K2.out.2.2.2, hHeld.2.2.2.2.trans ((Below.alloc (Below.refl _ _) (Nat.le_refl _) _).mono hHeld.2.2.2.2.size)⟩ (fun hHeld => ?_)
                clear hK K
                refine norm_ (a' := ?_) ?_ ?_
                rotate_left
                · show Act.put _ (some 41) _ = _
                  simp only [Act.put, List.setIfInBounds_toArray, List.set_cons_zero, List.set_cons_succ, i64_w, i32_w]
                  rfl
                exact norm_ (by simp only [putAll, Act.put, List.setIfInBounds_toArray, List.set_cons_zero, List.set_cons_succ]) (hCont (v5, w5.heap.size) _ ⟨hHeld, Kd.R_lower (Kd.R_alloc hR5 _) (Nat.le_refl _), heap_alloc_new w5 _⟩)
              · skip
                refine value_ (w1 := ?_) (v := ?_) (by rfl) rfl ?_ ?_
                rotate_left 2
                · go_simp
                  constructor
                  · rfl
                  · rfl
                refine hK.out _ _ ⟨pw_cell_below (hHeld.2.2.2.2.trans ((Below.alloc (Below.refl _ _) (Nat.le_refl _) _).mono hHeld.2.2.2.2.size)) K2.out.1, pw_cell_below (hHeld.2.2.2.2.trans ((Below.alloc (Below.refl _ _) (Nat.le_refl _) _).mono hHeld.2.2.2.2.size)) K2.out.2.1, pw_cell_below (hHeld.2.2.2.2.trans ((Below.alloc (Below.refl _ _) (Nat.le_refl _) _).mono hHeld.2.2.2.2.size)) K2.out.2.2.1, pw_cell_below (hHeld.2.2.2.2.trans ((Below.alloc (Below.refl _ _) (Nat.le_refl _) _).mono hHeld.2.2.2.2.size)) K2.out.2.2.2, hHeld.2.2.2.2.trans ((Below.alloc (Below.refl _ _) (Nat.le_refl _) _).mono hHeld.2.2.2.2.size)⟩ (fun hHeld => ?_)
                clear hK K
                refine norm_ (a' := ?_) ?_ ?_
                rotate_left
                · show Act.put _ (some 41) _ = _
                  simp only [Act.put, List.setIfInBounds_toArray, List.set_cons_zero, List.set_cons_succ, i64_w, i32_w]
                  rfl
                refine one_ (i := 1) (N := some 39) #[true, true, true, true, false, false] rfl rfl (by kernel_rfl) (by decide) (fun K hK => ?_)
                refine goes_ Tryd.func56 (by kernel_rfl) rfl #[.slice AA l.length c] (by rfl) rfl rfl (by simp only [List.map_toArray, List.map_cons, List.map_nil]; rfl) ?_
                with_reducible refine (clone_ok AA c l _ (Kd.C_below r3 hHeld.2.2.2.2) (by omega) hAn).mono ?_
                rintro e w5 ⟨v5, rfl, hR5, hb5⟩
                refine ⟨_, rfl, ?_⟩
                refine hK.out _ _ ⟨pw_cell_below (hHeld.2.2.2.2.trans (hb5.mono hHeld.2.2.2.2.size)) K2.out.1, pw_cell_below (hHeld.2.2.2.2.trans (hb5.mono hHeld.2.2.2.2.size)) K2.out.2.1, pw_cell_below (hHeld.2.2.2.2.trans (hb5.mono hHeld.2.2.2.2.size)) K2.out.2.2.1, pw_cell_below (hHeld.2.2.2.2.trans (hb5.mono hHeld.2.2.2.2.size)) K2.out.2.2.2, hHeld.2.2.2.2.trans (hb5.mono hHeld.2.2.2.2.size)⟩ (fun hHeld => ?_)
                clear hK K
                refine norm_ (a' := ?_) ?_ ?_
                rotate_left
                · show Act.put _ (some 39) _ = _
                  simp only [Act.put, List.setIfInBounds_toArray, List.set_cons_zero, List.set_cons_succ, i64_w, i32_w]
                  rfl
                exact norm_ (by simp only [putAll, Act.put, List.setIfInBounds_toArray, List.set_cons_zero, List.set_cons_succ]) (hCont (v5, w3.heap.size) _ ⟨hHeld, Kd.R_lower hR5 (by rw [size_ad]; exact Nat.le_succ _), (hb5.block _ (by rw [size_ad]; exact Nat.lt_succ_self _)).trans (heap_alloc_new w3 _)⟩)
            rintro ⟨v5, gb⟩ w6 ⟨hS_, hR6, hbx⟩
            have hHeld : w6.cell? ⟨w.heap.size, 0, none⟩ = some (.string n) ∧ w6.cell? ⟨w.heap.size, 1, none⟩ = some (.string o) ∧ w6.cell? ⟨w.heap.size, 2, none⟩ = some (.int .i64 ti) ∧ w6.cell? ⟨w.heap.size, 3, none⟩ = some (.bool g) ∧ Below w3.heap.size w3 w6 := hS_
            refine norm_ (a' := ?_) ?_ ?_
            rotate_left
            · simp only [putAll, Act.put, List.setIfInBounds_toArray, List.set_cons_zero, List.set_cons_succ]
              rfl
            refine one_ (i := 4) (N := some 42) #[true, true, true, true, true, false] rfl rfl (by kernel_rfl) (by decide) (fun K hK => ?_)
            refine Kd.R_append_rows_step k40 w3.heap.size (by rfl) _ _ 36 40 _ 48 rfl Tryd.underlying36 info40 rfl (by decide) (by decide) v5 l [⟨n, o, ti, g⟩] (some ⟨gb, 0, none⟩) 1 1 (fun _ => True) (fun _ => False) rfl rfl hR6 (box_reads hbx) (fun x cs h => k40_free h) (fun k h => h.elim) (fun _ _ => trivial) hHeld.2.2.2.2 hHeld.2.2.2.2.size (by omega) ?_
            intro v7 w7 hR7 hb7 hg7 hat7
            refine hK.out _ _ ⟨pw_cell_below (hb7) K2.out.1, pw_cell_below (hb7) K2.out.2.1, pw_cell_below (hb7) K2.out.2.2.1, pw_cell_below (hb7) K2.out.2.2.2, hb7⟩ (fun hHeld => ?_)
            clear hK K
            refine norm_ (a' := ?_) ?_ ?_
            rotate_left
            · show Act.put _ (some 42) _ = _
              simp only [Act.put, List.setIfInBounds_toArray, List.set_cons_zero, List.set_cons_succ, i64_w, i32_w]
              rfl
            refine pure_ (i := 5) (N := some 6) (v := ?_) (a' := ?_) #[true, true, true, true, true, true] rfl rfl (by kernel_rfl) (fun _ _ _ h => h) (Or.inl ⟨by rfl, ?_⟩) ?_ ?_
            rotate_left
            · intro w'
              go_simp
              with_reducible rfl
            rotate_left
            · simp only [Act.put, List.setIfInBounds_toArray, List.set_cons_zero, List.set_cons_succ, i64_w, i32_w]
              rfl
            refine done_ (by kernel_rfl) ?_
            obtain ⟨A7, c7, rfl, hc7, hC7⟩ := Kd.R_reads hR7
            have K7 : Hid (w7.cell? ⟨w.heap.size, 0, none⟩ = some (.string n) ∧ w7.cell? ⟨w.heap.size, 1, none⟩ = some (.string o) ∧ w7.cell? ⟨w.heap.size, 2, none⟩ = some (.int .i64 ti) ∧ w7.cell? ⟨w.heap.size, 3, none⟩ = some (.bool g)) := ⟨pw_cell_below hb7 K2.out.1, pw_cell_below hb7 K2.out.2.1, pw_cell_below hb7 K2.out.2.2.1, pw_cell_below hb7 K2.out.2.2.2⟩
            have hb7' := hb3.trans (hb7.mono hb3.size)
            clear hHeld hat7
            have hD0 := fun w8 b8 (hD8 : Dict enc40 Tryd.prog 9 w8 b8 (l ++ [(⟨n, o, ti, g⟩ : S40)]).length (presT (l ++ [⟨n, o, ti, g⟩]) ti)) => follow_ok2 b8 _ (presT (l ++ [⟨n, o, ti, g⟩]) ti) n w8 ((l ++ [(⟨n, o, ti, g⟩ : S40)]).map (·.f0)) hD8 (fun k hk => by
              cases hp : presT (l ++ [⟨n, o, ti, g⟩]) ti k with
              | none => exact absurd hp hk
              | some x =>
                obtain ⟨h1, h2, _⟩ := presT_mem _ ti k x hp
                exact List.mem_map.2 ⟨x, h1, h2⟩) (by rw [List.length_map, List.length_append]; have := hll.out; simp; omega) (by have := (right_sizes hR'.out).1; simp only at this; omega) (fun k x hx => by
                have h1 := (presT_mem _ ti k x hx).1
                rcases List.mem_append.1 h1 with h1 | h1
                · have := (right_sizes (valid_mem hv'.out x h1)).2; omega
                · rw [List.mem_singleton.1 h1]; have := (right_sizes hR'.out).2; omega)
            have hP0 := fun w8 h => present_ok A7 c7 (l ++ [(⟨n, o, ti, g⟩ : S40)]) ti w8 (Kd.C_below hC7 h) (by rw [List.length_append]; have := hll.out; simp; omega) (fun x hx => by
                rcases List.mem_append.1 hx with h1 | h1
                · have := (right_sizes (valid_mem hv'.out x h1)).1; omega
                · rw [List.mem_singleton.1 h1]; have := (right_sizes hR'.out).1; omega)
            replace hD0 := Lib.hid hD0
            replace hP0 := Lib.hid hP0
            replace hR7 := Lib.hid hR7
            generalize hLA : l ++ [(⟨n, o, ti, g⟩ : S40)] = LA at hC7 hR7 hD0 hP0 hc7 ⊢
            replace hLA := Lib.hid hLA
            go_wp2_with fail
            refine start_ (n := 12) (S := fun w' => w'.cell? ⟨w.heap.size, 0, none⟩ = some (.string n) ∧ w'.cell? ⟨w.heap.size, 1, none⟩ = some (.string o) ∧ w'.cell? ⟨w.heap.size, 2, none⟩ = some (.int .i64 ti) ∧ w'.cell? ⟨w.heap.size, 3, none⟩ = some (.bool g) ∧ Below w7.heap.size w7 w') (ds := []) #[false, false, false, false, false, false, false, false, false, false, false, false] (by kernel_rfl) rfl rfl ⟨K7.out.1, K7.out.2.1, K7.out.2.2.1, K7.out.2.2.2, (Below.refl _ _).drew⟩ (fun hHeld => ?_)
            refine pure_ (i := 0) (N := some 44) (v := ?_) (a' := ?_) #[true, false, false, false, false, false, false, false, false, false, false, false] rfl rfl (by kernel_rfl) (fun _ _ _ h => h) (Or.inl ⟨by rfl, ?_⟩) ?_ ?_
            rotate_left
            · intro w'
              go_simp
              with_reducible rfl
            rotate_left
            · simp only [Act.put, List.setIfInBounds_toArray, List.set_cons_zero, List.set_cons_succ, i64_w, i32_w]
              rfl
            refine pure_ (i := 1) (N := some 45) (v := ?_) (a' := ?_) #[true, true, false, false, false, false, false, false, false, false, false, false] rfl rfl (by kernel_rfl) (fun _ _ _ h => h) (Or.inl ⟨by rfl, ?_⟩) ?_ ?_
            rotate_left
            · intro w'
              go_simp
              with_reducible rfl
            rotate_left
            · simp only [Act.put, List.setIfInBounds_toArray, List.set_cons_zero, List.set_cons_succ, i64_w, i32_w]
              rfl
            refine pure_ (i := 4) (N := some 48) (v := ?_) (a' := ?_) #[true, true, false, false, true, false, false, false, false, false, false, false] rfl rfl (by kernel_rfl) (fun _ _ _ h => h) (Or.inl ⟨by rfl, ?_⟩) ?_ ?_
            rotate_left
            · intro w'
              go_simp
              with_reducible rfl
            rotate_left
            · simp only [Act.put, List.setIfInBounds_toArray, List.set_cons_zero, List.set_cons_succ, i64_w, i32_w]
              rfl
            refine take_ (i := 2) (N := some 46) (v := ?_) (a' := ?_) #[true, true, true, false, true, false, false, false, false, false, false, false] rfl rfl (by kernel_rfl) (fun _ _ _ h => h) (Or.inl ⟨by rfl, ?_⟩) hHeld ?_ ?_
            rotate_left
            · rintro w' ⟨s0, s1, s2, s3, s4⟩
              go_simp
              with_reducible rfl
            rotate_left
            · simp only [Act.put, List.setIfInBounds_toArray, List.set_cons_zero, List.set_cons_succ, i64_w, i32_w]
              rfl
            refine take_ (i := 5) (N := some 49) (v := ?_) (a' := ?_) #[true, true, true, false, true, true, false, false, false, false, false, false] rfl rfl (by kernel_rfl) (fun _ _ _ h => h) (Or.inl ⟨by rfl, ?_⟩) hHeld ?_ ?_
            rotate_left
            · rintro w' ⟨s0, s1, s2, s3, s4⟩
              go_simp
              with_reducible rfl
            rotate_left
            · simp only [Act.put, List.setIfInBounds_toArray, List.set_cons_zero, List.set_cons_succ, i64_w, i32_w]
              rfl
            refine one_ (i := 3) (N := some 47) #[true, true, true, true, true, true, false, false, false, false, false, false] rfl rfl (by kernel_rfl) (by decide) (fun K hK => ?_)
            refine goes_ Tryd.func55 (by kernel_rfl) rfl #[.slice A7 LA.length c7, .int .i64 ti] (by rfl) rfl rfl (by simp only [List.map_toArray, List.map_cons, List.map_nil]; rfl) ?_
            with_reducible refine (hP0.out _ hHeld.2.2.2.2).mono ?_
            rintro e w8 ⟨b8, rfl, hb8, hD8, hw8⟩
            refine ⟨_, rfl, ?_⟩
            refine hK.out _ _ ⟨pw_cell_below (hHeld.2.2.2.2.trans (hw8.mono hHeld.2.2.2.2.size)) K7.out.1, pw_cell_below (hHeld.2.2.2.2.trans (hw8.mono hHeld.2.2.2.2.size)) K7.out.2.1, pw_cell_below (hHeld.2.2.2.2.trans (hw8.mono hHeld.2.2.2.2.size)) K7.out.2.2.1, pw_cell_below (hHeld.2.2.2.2.trans (hw8.mono hHeld.2.2.2.2.size)) K7.out.2.2.2, hHeld.2.2.2.2.trans (hw8.mono hHeld.2.2.2.2.size)⟩ (fun hHeld => ?_)
            clear hK K
            refine norm_ (a' := ?_) ?_ ?_
            rotate_left
            · show Act.put _ (some 47) _ = _
              simp only [Act.put, List.setIfInBounds_toArray, List.set_cons_zero, List.set_cons_succ, i64_w, i32_w]
              rfl
            refine one_ (i := 6) (N := some 50) #[true, true, true, true, true, true, true, false, false, false, false, false] rfl rfl (by kernel_rfl) (by decide) (fun K hK => ?_)
            refine goes_ Tryd.func54 (by kernel_rfl) rfl #[.map (some b8), .string n] (by rfl) rfl rfl (by simp only [List.map_toArray, List.map_cons, List.map_nil]; rfl) ?_
            with_reducible refine (hD0.out _ b8 (hD8.below (Below.refl _ _))).mono ?_
            rintro e w9 ⟨⟨r9, k9, rfl, hp9⟩, hb9⟩
            refine ⟨_, rfl, ?_⟩
            refine hK.out _ _ ⟨pw_cell_below (hHeld.2.2.2.2.trans (hb9.mono hHeld.2.2.2.2.size)) K7.out.1, pw_cell_below (hHeld.2.2.2.2.trans (hb9.mono hHeld.2.2.2.2.size)) K7.out.2.1, pw_cell_below (hHeld.2.2.2.2.trans (hb9.mono hHeld.2.2.2.2.size)) K7.out.2.2.1, pw_cell_below (hHeld.2.2.2.2.trans (hb9.mono hHeld.2.2.2.2.size)) K7.out.2.2.2, hHeld.2.2.2.2.trans (hb9.mono hHeld.2.2.2.2.size)⟩ (fun hHeld => ?_)
            clear hK K
            refine norm_ (a' := ?_) ?_ ?_
            rotate_left
            · show Act.put _ (some 50) _ = _
              simp only [Act.put, List.setIfInBounds_toArray, List.set_cons_zero, List.set_cons_succ, i64_w, i32_w]
              rfl
            refine pure_ (i := 7) (N := some 43) (v := ?_) (a' := ?_) #[true, true, true, true, true, true, true, true, false, false, false, false] rfl rfl (by kernel_rfl) (fun _ _ _ h => h) (Or.inl ⟨by rfl, ?_⟩) ?_ ?_
            rotate_left
            · intro w'
              go_simp
              with_reducible rfl
            rotate_left
            · simp only [Act.put, List.setIfInBounds_toArray, List.set_cons_zero, List.set_cons_succ, i64_w, i32_w]
              rfl
            refine pure_ (i := 8) (N := some 51) (v := ?_) (a' := ?_) #[true, true, true, true, true, true, true, true, true, false, false, false] rfl rfl (by kernel_rfl) (fun _ _ _ h => h) (Or.inl ⟨by rfl, ?_⟩) ?_ ?_
            rotate_left
            · intro w'
              go_simp
              with_reducible rfl
            rotate_left
            · simp only [Act.put, List.setIfInBounds_toArray, List.set_cons_zero, List.set_cons_succ, i64_w, i32_w]
              rfl
            refine pure_ (i := 9) (N := some 52) (v := ?_) (a' := ?_) #[true, true, true, true, true, true, true, true, true, true, false, false] rfl rfl (by kernel_rfl) (fun _ _ _ h => h) (Or.inl ⟨by rfl, ?_⟩) ?_ ?_
            rotate_left
            · intro w'
              go_simp
              with_reducible rfl
            rotate_left
            · simp only [Act.put, List.setIfInBounds_toArray, List.set_cons_zero, List.set_cons_succ, i64_w, i32_w]
              rfl
            refine pure_ (i := 10) (N := some 7) (v := ?_) (a' := ?_) #[true, true, true, true, true, true, true, true, true, true, true, false] rfl rfl (by kernel_rfl) (fun _ _ _ h => h) (Or.inl ⟨by rfl, ?_⟩) ?_ ?_
            rotate_left
            · intro w'
              go_simp
              with_reducible rfl
            rotate_left
            · simp only [Act.put, List.setIfInBounds_toArray, List.set_cons_zero, List.set_cons_succ, i64_w, i32_w]
              rfl
            refine pure_ (i := 11) (N := some 8) (v := ?_) (a' := ?_) #[true, true, true, true, true, true, true, true, true, true, true, true] rfl rfl (by kernel_rfl) (fun _ _ _ h => h) (Or.inl ⟨by rfl, ?_⟩) ?_ ?_
            rotate_left
            · intro w'
              go_simp
              with_reducible rfl
            rotate_left
            · simp only [Act.put, List.setIfInBounds_toArray, List.set_cons_zero, List.set_cons_succ, i64_w, i32_w]
              rfl
            refine done_ (by kernel_rfl) ?_
            have hb9' := hb7'.trans (hHeld.2.2.2.2.mono hb7'.size)
            have q93 := hHeld.2.2.2.1
            have hR9 := Lib.hid (Kd.R_lower (Kd.R_below hR7.out hHeld.2.2.2.2) hb3.size)
            clear hHeld
            have hLA' := hLA.out
            clear hLA hD0 hP0 hR7 hC7
            subst hLA'
            replace hl256 := Lib.hid hl256
            rcases hp9 with ⟨rfl, hlead⟩ | ⟨rfl, hloop⟩
            · replace hlead := Lib.hid hlead
              go_wp2_with fail
              go_ret2
              exact ⟨⟨_, _, Or.inr ⟨hv'.out, hR'.out, Or.inr ⟨hE'.out, Or.inr ⟨hl256.out, Or.inr ⟨Or.inl (fun h => h ⟨_, hlead.out⟩), rfl⟩⟩⟩⟩, rfl, Or.inr ⟨rfl, hR9.out⟩⟩, hb9'⟩
            · replace hloop := Lib.hid hloop
              cases g
              · go_wp2_with fail
                go_ret2
                exact ⟨⟨_, _, Or.inr ⟨hv'.out, hR'.out, Or.inr ⟨hE'.out, Or.inr ⟨hl256.out, Or.inl ⟨hloop.out, rfl, rfl⟩⟩⟩⟩, rfl, Or.inl ⟨by decide, rfl⟩⟩, hb9'⟩
              · go_wp2_with fail
                go_ret2
                exact ⟨⟨_, _, Or.inr ⟨hv'.out, hR'.out, Or.inr ⟨hE'.out, Or.inr ⟨hl256.out, Or.inr ⟨Or.inr rfl, rfl⟩⟩⟩⟩, rfl, Or.inr ⟨rfl, hR9.out⟩⟩, hb9'⟩
#print axioms add_ok
end Go.Proofs.YtpejnnnkamodbaaDoor
