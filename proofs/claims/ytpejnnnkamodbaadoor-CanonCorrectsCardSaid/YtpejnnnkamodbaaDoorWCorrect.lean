/- The package canon: a copy of names, Correct. -/
import Derived.Test.YtpejnnnkamodbaaDoorWSome
namespace Go.Proofs.YtpejnnnkamodbaaDoor
open Go Go.RowKit Go.Lib Go.Proofs.YtpejnnnkamodbaaDoorW.PrintWords Go.Proofs.YtpejnnnkamodbaaDoorW.PrintLast
open PCanonEqual (S49 k49 z49 S40 k40 z40 k49_mkM k49_open)

theorem info49 : (Tryd.prog.info? 49).map (fun i => (i.zero, i.size, i.bytes)) = some (some (.agg #[(.string ⟨#[]⟩), (.string ⟨#[]⟩), (.int .i64 0)]), 3, 40) := by kernel_rfl
theorem k49_free {w w' : World} {base : Nat} {ok : Nat → Prop} {x : S49} {cs : List Value} (h : k49.K w x cs) : k49.M w' base ok x cs := by
  rw [k49_open h]
  exact k49_mkM w' base ok x
theorem R49_empty {w : World} {base g : Nat} (hg : w.heap[g]? = some (.cells #[] 49 (0, 0))) (hb : base ≤ g) : Kd.R k49 49 w base (fun _ => True) (.slice (some ⟨g, 0, none⟩) 0 0) [] :=
  ⟨fun _ _ => trivial, [], ⟨rfl, .inr ⟨g, 0, #[], rfl, hb, hg, Nat.le_refl _, by unfold maxLen; omega, rfl, rfl⟩⟩, Reps.none _ _⟩
theorem C49_none {w : World} {A : Option Addr} {l : List S49} (h : Kd.C k49 w A l.length l) : A = none → l = [] := by
  intro hA
  cases l with
  | nil => rfl
  | cons x l =>
    obtain ⟨ad, e, _⟩ := h.2.2 (by simp)
    rw [hA] at e
    cases e
set_option maxHeartbeats 2000000 in
set_option maxRecDepth 100000 in
theorem clone49_ok (A : Option Addr) (c : Nat) (l : List S49) (w : World) (hr : Kd.C k49 w A l.length l) (hl : l.length ≤ 1000000) :
    Calls Tryd.prog 82 #[.slice A l.length c] w fun e w' => (∃ A' c', e = .returned (.slice A' l.length c') ∧ Kd.C k49 w' A' l.length l) ∧ Below w.heap.size w w' := by
  have hA := C49_none hr
  replace hr := Lib.hid hr
  have heq := fun w a n c => Lib.run_eql_slice_nil (P := Tryd.prog) w 47 49 a n c 0 0 Tryd.underlying47
  cases A with
  | none =>
    obtain rfl := hA rfl
    go_enter Tryd.func82, Tryd.ntmps82
    go_wp2_with fail
    go_ret
    exact ⟨⟨none, ⟨0, rfl⟩, hr.out⟩, Below.refl _ _⟩
  | some ad =>
    have hb1 : Below w.heap.size w (w.alloc (Obj.cells #[] 49)) := (Below.refl _ _).alloc (Nat.le_refl _) _
    have hR0 := R49_empty (base := w.heap.size) (heap_alloc_new w (Obj.cells #[] 49)) (Nat.le_refl _)
    have hC := Kd.C_below hr.out hb1
    clear hA
    go_enter Tryd.func82, Tryd.ntmps82
    go_wp2_with (at_builtin; refine Kd.R_append_rows k49 w.heap.size rfl _ _ 47 49 _ 40 rfl Tryd.underlying47 info49 rfl (by decide) (by decide) _ [] l (some ad) l.length c (fun _ => True) (fun _ => False) rfl rfl hR0 hC (fun x cs h => k49_free h) (fun k h => h.elim) (fun _ _ => trivial) hb1 hb1.size (by simp; omega) ?_; intro v1 w2 hR2 hb2 hg2 hat2)
    go_ret
    obtain ⟨A', c', rfl, _, hC'⟩ := Kd.R_reads hR2
    exact ⟨⟨A', c', rfl, hC'⟩, hb2⟩
theorem clone40_ok (A : Option Addr) (c : Nat) (l : List S40) (w : World) (hr : Kd.C k40 w A l.length l) (hl : l.length ≤ 1000000) :
    Calls Tryd.prog 56 #[.slice A l.length c] w fun e w' => (∃ A' c', e = .returned (.slice A' l.length c') ∧ Kd.C k40 w' A' l.length l) ∧ Below w.heap.size w w' :=
  (clone_ok A c l w hr hl (C_none hr)).mono fun e w' ⟨v, he, hR, hb⟩ => by
    obtain ⟨A', c', rfl, _, hC'⟩ := Kd.R_reads hR
    exact ⟨⟨A', c', he, hC'⟩, hb⟩
set_option maxHeartbeats 4000000 in
set_option maxRecDepth 100000 in
set_option linter.unusedSimpArgs false in
theorem own_ok (nv : Value) (rs : List S49) (l : List S40) (w : World) (hn : NamesAt w nv rs l) (hl1 : rs.length ≤ 1000000) (hl2 : l.length ≤ 1000000) :
    Calls Tryd.prog 66 #[nv] w fun e w' => (∃ nv', e = .returned nv' ∧ NamesAt w' nv' rs l) ∧ Below w.heap.size w w' := by
  obtain ⟨A1, c1, A2, c2, rfl, hC1, hC2⟩ := hn.out
  have hb1 : Below w.heap.size w (w.alloc (Obj.cells #[.slice A1 rs.length c1, .slice A2 l.length c2] 55)) := (Below.refl _ _).alloc (Nat.le_refl _) _
  have hk1 := heap_alloc_new w (Obj.cells #[.slice A1 rs.length c1, .slice A2 l.length c2] 55)
  have hb2 : Below w.heap.size w ((w.alloc (Obj.cells #[.slice A1 rs.length c1, .slice A2 l.length c2] 55)).alloc (Obj.cells #[.slice none 0 0, .slice none 0 0] 55)) := hb1.alloc hb1.size _
  have hk2 := heap_alloc_new (w.alloc (Obj.cells #[.slice A1 rs.length c1, .slice A2 l.length c2] 55)) (Obj.cells #[.slice none 0 0, .slice none 0 0] 55)
  have hk1' := blk_alloc hk1 (Obj.cells #[.slice none 0 0, .slice none 0 0] 55)
  rw [World.size_alloc] at hk2
  go_enter Tryd.func66, Tryd.ntmps66
  go_wp2_with fail
  generalize (w.alloc (Obj.cells #[.slice A1 rs.length c1, .slice A2 l.length c2] 55)).alloc (Obj.cells #[.slice none 0 0, .slice none 0 0] 55) = wq at hb2 hk2 hk1' ⊢
  have hGw := Lib.hid hb2
  generalize hG : w.heap.size = G at hk2 hk1' ⊢
  have hGl : w.heap.size ≤ G := Nat.le_of_eq hG
  have q0 : wq.cell? ⟨G, 0, none⟩ = some (.slice A1 rs.length c1) := (cell_row hk1' 0).trans rfl
  have q1 : wq.cell? ⟨G, 1, none⟩ = some (.slice A2 l.length c2) := (cell_row hk1' 1).trans rfl
  have qz := hk2
  have cr := Lib.hid (fun w' (hb : Below wq.heap.size wq w') => clone49_ok A1 c1 rs w' (Kd.C_below (Kd.C_below hC1 hb2) hb) hl1)
  have ca := Lib.hid (fun w' (hb : Below wq.heap.size wq w') => clone40_ok A2 c2 l w' (Kd.C_below (Kd.C_below hC2 hb2) hb) hl2)
  clear hk1 hk1' hk2 hC1 hC2 hn hb1 hb2
  replace hG := Lib.hid hG
  refine start_ (n := 8) (S := fun w' => w'.cell? ⟨G, 0, none⟩ = some (.slice A1 rs.length c1) ∧ w'.cell? ⟨G, 1, none⟩ = some (.slice A2 l.length c2) ∧ w'.heap[G + 1]? = some (.cells #[.slice none 0 0, .slice none 0 0] 55 (0, 0)) ∧ Below wq.heap.size wq w') (ds := [7]) #[false, false, false, false, false, false, false, false] (by kernel_rfl) rfl rfl ⟨q0, q1, qz, (Below.refl _ _).drew⟩ (fun hHeld => ?_)
  refine pure_ (i := 0) (N := some 3) (v := ?_) (a' := ?_) #[true, false, false, false, false, false, false, false] rfl rfl (by kernel_rfl) (fun _ _ _ h => h) (Or.inl ⟨by rfl, ?_⟩) ?_ ?_
  rotate_left
  · intro w'
    go_simp
    with_reducible rfl
  rotate_left
  · simp only [Act.put, List.setIfInBounds_toArray, List.set_cons_zero, List.set_cons_succ, i64_w, i32_w]
    rfl
  refine pure_ (i := 3) (N := some 6) (v := ?_) (a' := ?_) #[true, false, false, true, false, false, false, false] rfl rfl (by kernel_rfl) (fun _ _ _ h => h) (Or.inl ⟨by rfl, ?_⟩) ?_ ?_
  rotate_left
  · intro w'
    go_simp
    with_reducible rfl
  rotate_left
  · simp only [Act.put, List.setIfInBounds_toArray, List.set_cons_zero, List.set_cons_succ, i64_w, i32_w]
    rfl
  refine take_ (i := 1) (N := some 4) (v := ?_) (a' := ?_) #[true, true, false, true, false, false, false, false] rfl rfl (by kernel_rfl) (fun _ _ _ h => h) (Or.inl ⟨by rfl, ?_⟩) hHeld ?_ ?_
  rotate_left
  · rintro w' ⟨s0, s1, s2, s3⟩
    go_simp
    with_reducible rfl
  rotate_left
  · simp only [Act.put, List.setIfInBounds_toArray, List.set_cons_zero, List.set_cons_succ, i64_w, i32_w]
    rfl
  refine take_ (i := 4) (N := some 7) (v := ?_) (a' := ?_) #[true, true, false, true, true, false, false, false] rfl rfl (by kernel_rfl) (fun _ _ _ h => h) (Or.inl ⟨by rfl, ?_⟩) hHeld ?_ ?_
  rotate_left
  · rintro w' ⟨s0, s1, s2, s3⟩
    go_simp
    with_reducible rfl
  rotate_left
  · simp only [Act.put, List.setIfInBounds_toArray, List.set_cons_zero, List.set_cons_succ, i64_w, i32_w]
    rfl
  refine one_ (i := 2) (N := some 5) #[true, true, true, true, true, false, false, false] rfl rfl (by kernel_rfl) (by decide) (fun K hK => ?_)
  refine goes_ Tryd.func82 (by kernel_rfl) rfl #[.slice A1 rs.length c1] (by rfl) rfl rfl (by simp only [List.map_toArray, List.map_cons, List.map_nil]; rfl) ?_
  with_reducible refine (cr.out _ hHeld.2.2.2).mono ?_
  rintro e w5 ⟨⟨A5, c5, rfl, hC5⟩, hb5⟩
  refine ⟨_, rfl, ?_⟩
  refine hK.out _ _ ⟨pw_cell_below hb5 hHeld.1, pw_cell_below hb5 hHeld.2.1, blk_below hHeld.2.2.1 hb5, hHeld.2.2.2.trans (hb5.mono hHeld.2.2.2.size)⟩ (fun hHeld => ?_)
  clear hK K
  refine norm_ (a' := ?_) ?_ ?_
  rotate_left
  · show Act.put _ (some 5) _ = _
    simp only [Act.put, List.setIfInBounds_toArray, List.set_cons_zero, List.set_cons_succ, i64_w, i32_w]
    rfl
  refine one_ (i := 5) (N := some 8) #[true, true, true, true, true, true, false, false] rfl rfl (by kernel_rfl) (by decide) (fun K hK => ?_)
  refine goes_ Tryd.func56 (by kernel_rfl) rfl #[.slice A2 l.length c2] (by rfl) rfl rfl (by simp only [List.map_toArray, List.map_cons, List.map_nil]; rfl) ?_
  with_reducible refine (ca.out _ hHeld.2.2.2).mono ?_
  rintro e w6 ⟨⟨A6, c6, rfl, hC6⟩, hb6⟩
  refine ⟨_, rfl, ?_⟩
  refine hK.out _ _ ⟨pw_cell_below hb6 hHeld.1, pw_cell_below hb6 hHeld.2.1, blk_below hHeld.2.2.1 hb6, hHeld.2.2.2.trans (hb6.mono hHeld.2.2.2.size)⟩ (fun hHeld => ?_)
  clear hK K
  refine norm_ (a' := ?_) ?_ ?_
  rotate_left
  · show Act.put _ (some 8) _ = _
    simp only [Act.put, List.setIfInBounds_toArray, List.set_cons_zero, List.set_cons_succ, i64_w, i32_w]
    rfl
  refine pure_ (i := 6) (N := some 9) (v := ?_) (a' := ?_) #[true, true, true, true, true, true, true, false] rfl rfl (by kernel_rfl) (fun _ _ _ h => h) (Or.inl ⟨by rfl, ?_⟩) ?_ ?_
  rotate_left
  · intro w'
    go_simp
    with_reducible rfl
  rotate_left
  · simp only [Act.put, List.setIfInBounds_toArray, List.set_cons_zero, List.set_cons_succ, i64_w, i32_w]
    rfl
  refine last_ (i := 7) (N := none) #[true, true, true, true, true, true, true, true] rfl rfl (by kernel_rfl) (by decide) (fun K hK => ?_)
  have hz := hHeld.2.2.1
  have z0 : w6.cell? ⟨G + 1, 0, none⟩ = some (.slice none 0 0) := (cell_row hz 0).trans rfl
  have z1 : w6.cell? ⟨G + 1, 1, none⟩ = some (.slice none 0 0) := (cell_row hz 1).trans rfl
  have zf : ∀ j, w6.frozen? ⟨G + 1, j, none⟩ = false := fun j => blk_frozen hz j
  refine skip_ (w1 := ?_) (by rfl) rfl ?_ ?_
  rotate_left
  · go_simp
    rfl
  refine hK.out _ _ ?_
  clear hK K
  refine done_ (by kernel_rfl) ?_
  have hHb := hHeld.2.2.2
  have hzz := hHeld.2.2.1
  have hbG : Below w.heap.size w w6 := hGw.out.trans (hHb.mono hGw.out.size)
  have hx3 := blk_put (cs := #[.slice A5 rs.length c5, .slice none 0 0]) (blk_put (cs := #[.slice none 0 0, .slice none 0 0]) hzz 0 (.slice A5 rs.length c5) rfl) 1 (.slice A6 l.length c6) rfl
  have hw : ∀ p v, w6.cell? p = some v → p.block ≠ G + 1 → ((w6.setCell ⟨G + 1, 0, none⟩ (.slice A5 rs.length c5)).setCell ⟨G + 1, 1, none⟩ (.slice A6 l.length c6)).cell? p = some v := by
    intro p v hp hne
    rw [cell_far hne, cell_far hne]
    exact hp
  have hN : NamesAt ((w6.setCell ⟨G + 1, 0, none⟩ (.slice A5 rs.length c5)).setCell ⟨G + 1, 1, none⟩ (.slice A6 l.length c6)) (.agg #[.slice A5 rs.length c5, .slice A6 l.length c6]) rs l := ⟨_, _, _, _, rfl, C49_far hzz (Kd.C_below hC5 hb6) hw, C40_far hzz hC6 hw⟩
  have hbF := (hbG.setCell (p := ⟨G + 1, 0, none⟩) (Nat.le_succ_of_le hGl) (.slice A5 rs.length c5)).setCell (p := ⟨G + 1, 1, none⟩) (Nat.le_succ_of_le hGl) (.slice A6 l.length c6)
  clear hw hHeld
  go_wp2
  (try simp only [Exit.inBlock, Exit.then])
  refine bodyPost_ret (results_cell_row rfl _ _ (G + 1) 55 #[.slice A5 rs.length c5, .slice A6 l.length c6] (0, 0) _ rfl hx3 Tryd.underlying55 rfl (by kernel_rfl)) rfl ?_
  exact ⟨⟨_, rfl, hN⟩, hbF⟩

def CorrPost (rs : List S49) (l : List S40) (a b : ByteArray) (t : Int) (e : Ending) (w' : World) : Prop :=
  ∃ mv k, e = .returned (.tuple #[mv, .int .i64 k]) ∧ ((k ≠ 0 ∧ mv = .agg #[.slice none 0 0, .slice none 0 0]) ∨ (k = 0 ∧ ∃ x y, rulesT rs = true ∧ beginT rs a = (x, 0) ∧ beginT rs b = (y, 0) ∧ AddT l ⟨x, y, t, false⟩ 0 ∧ NamesAt w' mv rs (l ++ [⟨x, y, t, false⟩])))
set_option maxHeartbeats 8000000 in
set_option maxRecDepth 100000 in
theorem correct_ok (nv : Value) (rs : List S49) (l : List S40) (a b : ByteArray) (t : Int) (w : World) (hT : Tabs w) (hn : NamesAt w nv rs l) (ha : a.size ≤ 256) (hb : b.size ≤ 256) :
    Calls Tryd.prog 41 #[nv, .string a, .string b, .int .i64 t] w fun e w' => CorrPost rs l a b t e w' ∧ Below w.heap.size w w' := by
  have hN := hn
  obtain ⟨A1, c1, A2, c2, rfl, hC1, hC2⟩ := hn.out
  have hb1 : Below w.heap.size w (w.alloc (Obj.cells #[.slice A1 rs.length c1, .slice A2 l.length c2] 55)) := (Below.refl _ _).alloc (Nat.le_refl _) _
  have hk1 := heap_alloc_new w (Obj.cells #[.slice A1 rs.length c1, .slice A2 l.length c2] 55)
  have hb2 : Below w.heap.size w ((w.alloc (Obj.cells #[.slice A1 rs.length c1, .slice A2 l.length c2] 55)).alloc (Obj.cells #[.slice none 0 0, .slice none 0 0] 55)) := hb1.alloc hb1.size _
  have hk2 := heap_alloc_new (w.alloc (Obj.cells #[.slice A1 rs.length c1, .slice A2 l.length c2] 55)) (Obj.cells #[.slice none 0 0, .slice none 0 0] 55)
  have hy := blk_alloc hk1 (Obj.cells #[.slice none 0 0, .slice none 0 0] 55)
  rw [World.size_alloc] at hk2
  have emax : (max (a.size : Int) (b.size : Int) > 256) = False := eq_false (by omega)
  have emax2 : decide (256 < max (a.size : Int) (b.size : Int)) = false := decide_eq_false (by omega)
  have hTb := Lib.hid (fun w1 (h : Below w.heap.size w w1) => hT.below h hT.six)
  have cv0 := fun w1 (h : Below w.heap.size w w1) => canon_valid _ rs l w1 (hTb.out w1 h) (hN.below h)
  have cb := Lib.hid (fun s w1 (h : Below w.heap.size w w1) => begin_fn _ rs l s w1 (hTb.out w1 h) (hN.below h))
  replace cv0 := Lib.hid cv0
  have hC2b := Lib.hid (fun w1 (h : Below w.heap.size w w1) => Kd.C_below hC2 h)
  replace hN := Lib.hid hN
  go_enter Tryd.func41, Tryd.ntmps41
  go_wp2_with fail
  generalize (w.alloc (Obj.cells #[.slice A1 rs.length c1, .slice A2 l.length c2] 55)).alloc (Obj.cells #[.slice none 0 0, .slice none 0 0] 55) = wq at hb2 hk2 hy ⊢
  generalize hG : w.heap.size = G at hk2 hy ⊢
  have hGl : w.heap.size ≤ G := Nat.le_of_eq hG
  have hz := hk2
  have cv := cv0.out wq hb2
  clear hk1 hk2 hC1 hC2 hn hb1 ha hb cv0 hT
  replace hG := Lib.hid hG
  have q0 : wq.cell? ⟨G, 0, none⟩ = some (.slice A1 rs.length c1) := (cell_row hy 0).trans rfl
  have q1 : wq.cell? ⟨G, 1, none⟩ = some (.slice A2 l.length c2) := (cell_row hy 1).trans rfl
  have z0 : wq.cell? ⟨G + 1, 0, none⟩ = some (.slice none 0 0) := (cell_row hz 0).trans rfl
  have z1 : wq.cell? ⟨G + 1, 1, none⟩ = some (.slice none 0 0) := (cell_row hz 1).trans rfl
  have zf : ∀ j, wq.frozen? ⟨G + 1, j, none⟩ = false := fun j => blk_frozen hz j
  cases hv : (rulesT rs && validT l) with
  | false =>
    rw [hv] at cv
    replace cv := Lib.hid cv
    replace hy0 := Lib.hid hy
    replace hz0 := Lib.hid hz
    clear hy hz
    refine cv.out.mono ?_
    rintro e w1 ⟨rfl, hb3⟩
    have hbw := hb2.trans (hb3.mono hb2.size)
    have hy := blk_below hy0.out hb3
    have hz := blk_below hz0.out hb3
    clear hy0 hz0 q0 q1 z0 z1 zf
    have q0 : w1.cell? ⟨G, 0, none⟩ = some (.slice A1 rs.length c1) := (cell_row hy 0).trans rfl
    have q1 : w1.cell? ⟨G, 1, none⟩ = some (.slice A2 l.length c2) := (cell_row hy 1).trans rfl
    have z0 : w1.cell? ⟨G + 1, 0, none⟩ = some (.slice none 0 0) := (cell_row hz 0).trans rfl
    have z1 : w1.cell? ⟨G + 1, 1, none⟩ = some (.slice none 0 0) := (cell_row hz 1).trans rfl
    have zf : ∀ j, w1.frozen? ⟨G + 1, j, none⟩ = false := fun j => blk_frozen hz j
    go_wp2_with fail
    (try simp only [Exit.inBlock, Exit.then])
    refine bodyPost_ret (results_ct rfl _ _ (G + 1) 55 #[.slice none 0 0, .slice none 0 0] (0, 0) _ rfl (blk_put (cs := #[.slice none 0 0, .slice none 0 0]) (blk_put (cs := #[.slice none 0 0, .slice none 0 0]) hz 0 (.slice none 0 0) rfl) 1 (.slice none 0 0) rfl) Tryd.underlying55 rfl (by kernel_rfl)) rfl ?_
    exact ⟨⟨_, 1, rfl, Or.inl ⟨by decide, rfl⟩⟩, (hbw.setCell (p := ⟨G + 1, 0, none⟩) (Nat.le_succ_of_le hGl) (.slice none 0 0)).setCell (p := ⟨G + 1, 1, none⟩) (Nat.le_succ_of_le hGl) (.slice none 0 0)⟩
  | true =>
    rw [hv] at cv
    have hrT : rulesT rs = true ∧ validT l = true := by simpa using hv
    replace cv := Lib.hid cv
    replace hy0 := Lib.hid hy
    replace hz0 := Lib.hid hz
    clear hy hz hv
    refine cv.out.mono ?_
    rintro e w1 ⟨rfl, hb3⟩
    have hbw := hb2.trans (hb3.mono hb2.size)
    have hy := blk_below hy0.out hb3
    have hz := blk_below hz0.out hb3
    clear hy0 hz0 q0 q1 z0 z1 zf
    have q0 : w1.cell? ⟨G, 0, none⟩ = some (.slice A1 rs.length c1) := (cell_row hy 0).trans rfl
    have q1 : w1.cell? ⟨G, 1, none⟩ = some (.slice A2 l.length c2) := (cell_row hy 1).trans rfl
    have z0 : w1.cell? ⟨G + 1, 0, none⟩ = some (.slice none 0 0) := (cell_row hz 0).trans rfl
    have z1 : w1.cell? ⟨G + 1, 1, none⟩ = some (.slice none 0 0) := (cell_row hz 1).trans rfl
    have zf : ∀ j, w1.frozen? ⟨G + 1, j, none⟩ = false := fun j => blk_frozen hz j
    have c1' := cb.out a w1 hbw
    generalize hRa : beginT rs a = Ra at c1'
    obtain ⟨x, k1⟩ := Ra
    simp only at c1'
    replace c1' := Lib.hid c1'
    replace hRa := Lib.hid hRa
    replace hrT := Lib.hid hrT
    go_wp2_with fail
    refine c1'.out.mono ?_
    rintro e w2 ⟨rfl, hb4⟩
    replace hy0 := Lib.hid hy
    replace hz0 := Lib.hid hz
    clear hy hz
    have hbw2 := hbw.trans (hb4.mono hbw.size)
    have hy := blk_below hy0.out hb4
    have hz := blk_below hz0.out hb4
    clear hy0 hz0 q0 q1 z0 z1 zf
    have q0 : w2.cell? ⟨G, 0, none⟩ = some (.slice A1 rs.length c1) := (cell_row hy 0).trans rfl
    have q1 : w2.cell? ⟨G, 1, none⟩ = some (.slice A2 l.length c2) := (cell_row hy 1).trans rfl
    have z0 : w2.cell? ⟨G + 1, 0, none⟩ = some (.slice none 0 0) := (cell_row hz 0).trans rfl
    have z1 : w2.cell? ⟨G + 1, 1, none⟩ = some (.slice none 0 0) := (cell_row hz 1).trans rfl
    have zf : ∀ j, w2.frozen? ⟨G + 1, j, none⟩ = false := fun j => blk_frozen hz j
    have c2' := cb.out b w2 hbw2
    generalize hRb : beginT rs b = Rb at c2'
    obtain ⟨y, k2⟩ := Rb
    simp only at c2'
    replace c2' := Lib.hid c2'
    replace hRb := Lib.hid hRb
    clear c1' hb3 hb4 hb2 hbw cv cb
    go_wp2_with fail
    refine c2'.out.mono ?_
    rintro e w3 ⟨rfl, hb5⟩
    replace hy0 := Lib.hid hy
    replace hz0 := Lib.hid hz
    clear hy hz
    have hbw3 := hbw2.trans (hb5.mono hbw2.size)
    have hy := blk_below hy0.out hb5
    have hz := blk_below hz0.out hb5
    clear hy0 hz0 q0 q1 z0 z1 zf
    have q0 : w3.cell? ⟨G, 0, none⟩ = some (.slice A1 rs.length c1) := (cell_row hy 0).trans rfl
    have q1 : w3.cell? ⟨G, 1, none⟩ = some (.slice A2 l.length c2) := (cell_row hy 1).trans rfl
    have z0 : w3.cell? ⟨G + 1, 0, none⟩ = some (.slice none 0 0) := (cell_row hz 0).trans rfl
    have z1 : w3.cell? ⟨G + 1, 1, none⟩ = some (.slice none 0 0) := (cell_row hz 1).trans rfl
    have zf : ∀ j, w3.frozen? ⟨G + 1, j, none⟩ = false := fun j => blk_frozen hz j
    clear c2' hb5 hbw2
    replace hz := hz
    by_cases hk1 : k1 = 0
    · subst hk1
      by_cases hk2 : k2 = 0
      · subst hk2
        by_cases hxy : x.toList = y.toList
        · have hxy2 : (x.toList == y.toList) = true := by simpa using hxy
          go_wp2_with fail
          (try simp only [Exit.inBlock, Exit.then])
          refine bodyPost_ret (results_ct rfl _ _ (G + 1) 55 #[.slice none 0 0, .slice none 0 0] (0, 0) _ rfl (blk_put (cs := #[.slice none 0 0, .slice none 0 0]) (blk_put (cs := #[.slice none 0 0, .slice none 0 0]) hz 0 (.slice none 0 0) rfl) 1 (.slice none 0 0) rfl) Tryd.underlying55 rfl (by kernel_rfl)) rfl ?_
          exact ⟨⟨_, 6, rfl, Or.inl ⟨by decide, rfl⟩⟩, (hbw3.setCell (p := ⟨G + 1, 0, none⟩) (Nat.le_succ_of_le hGl) (.slice none 0 0)).setCell (p := ⟨G + 1, 1, none⟩) (Nat.le_succ_of_le hGl) (.slice none 0 0)⟩
        · have hxy1 : (x.toList = y.toList) = False := eq_false hxy
          have hxy2 : (x.toList == y.toList) = false := by simpa using hxy
          have cadd := Lib.hid (add_ok A2 c2 l ⟨x, y, t, false⟩ w3 (hTb.out w3 hbw3) (hC2b.out w3 hbw3))
          clear hxy
          go_wp2_with fail
          refine cadd.out.mono ?_
          rintro e w4 ⟨⟨v, k, hadd, rfl, hv⟩, hb6⟩
          replace hy0 := Lib.hid hy
          replace hz0 := Lib.hid hz
          clear hy hz
          have hbw4 := hbw3.trans (hb6.mono hbw3.size)
          have hy := blk_below hy0.out hb6
          have hz := blk_below hz0.out hb6
          clear hy0 hz0 q0 q1 z0 z1 zf
          have q0 : w4.cell? ⟨G, 0, none⟩ = some (.slice A1 rs.length c1) := (cell_row hy 0).trans rfl
          have q1 : w4.cell? ⟨G, 1, none⟩ = some (.slice A2 l.length c2) := (cell_row hy 1).trans rfl
          have z0 : w4.cell? ⟨G + 1, 0, none⟩ = some (.slice none 0 0) := (cell_row hz 0).trans rfl
          have z1 : w4.cell? ⟨G + 1, 1, none⟩ = some (.slice none 0 0) := (cell_row hz 1).trans rfl
          have zf : ∀ j, w4.frozen? ⟨G + 1, j, none⟩ = false := fun j => blk_frozen hz j
          clear cadd
          by_cases hk : k = 0
          · subst hk
            have hR4 : Kd.R k40 40 w4 w3.heap.size (fun _ => True) v (l ++ [⟨x, y, t, false⟩]) := by
              rcases hv with ⟨h, _⟩ | ⟨_, h⟩
              · exact absurd rfl h
              · exact h
            obtain ⟨A5, c5, rfl, hc5, hC5⟩ := Kd.R_reads hR4
            have co := own_ok _ rs l w4 (hN.out.below hbw4) (by have := ((rulesT_iff rs).1 hrT.out.1).1; omega) (by have := ((valid_iff l).1 hrT.out.2).1; omega)
            replace hadd := Lib.hid hadd
            replace hC5 := Lib.hid hC5
            replace co := Lib.hid co
            clear hv hR4 hc5
            go_wp2_with fail
            refine co.out.mono ?_
            rintro e w5 ⟨⟨nv5, rfl, hN5⟩, hb7⟩
            obtain ⟨A7, c7, A8, c8, rfl, hC7, hC8⟩ := hN5.out
            replace hy0 := Lib.hid hy
            replace hz0 := Lib.hid hz
            clear hy hz
            have hbw5 := hbw4.trans (hb7.mono hbw4.size)
            have hy := blk_below hy0.out hb7
            have hz := blk_below hz0.out hb7
            clear hy0 hz0 q0 q1 z0 z1 zf
            have q0 : w5.cell? ⟨G, 0, none⟩ = some (.slice A1 rs.length c1) := (cell_row hy 0).trans rfl
            have q1 : w5.cell? ⟨G, 1, none⟩ = some (.slice A2 l.length c2) := (cell_row hy 1).trans rfl
            have z0 : w5.cell? ⟨G + 1, 0, none⟩ = some (.slice none 0 0) := (cell_row hz 0).trans rfl
            have z1 : w5.cell? ⟨G + 1, 1, none⟩ = some (.slice none 0 0) := (cell_row hz 1).trans rfl
            have zf : ∀ j, w5.frozen? ⟨G + 1, j, none⟩ = false := fun j => blk_frozen hz j
            clear co
            have hglt := blk_lt hz
            go_wp2_with fail
            have hw : ∀ p v, w5.cell? p = some v → p.block ≠ G + 1 → (((w5.setCell ⟨G + 1, 0, none⟩ (.slice A7 rs.length c7)).setCell ⟨G + 1, 1, none⟩ (.slice A5 (l.length + 1) c5)).alloc (Obj.cells #[.slice A7 rs.length c7, .slice A5 (l.length + 1) c5] 55)).cell? p = some v := by
              intro p v hp hne
              refine pw_cell_below ((Below.refl _ _).alloc (Nat.le_refl _) _) ?_
              rw [cell_far hne, cell_far hne]
              exact hp
            have hNF : NamesAt (((w5.setCell ⟨G + 1, 0, none⟩ (.slice A7 rs.length c7)).setCell ⟨G + 1, 1, none⟩ (.slice A5 (l.length + 1) c5)).alloc (Obj.cells #[.slice A7 rs.length c7, .slice A5 (l.length + 1) c5] 55)) (.agg #[.slice A7 rs.length c7, .slice A5 (l.length + 1) c5]) rs (l ++ [⟨x, y, t, false⟩]) :=
              ⟨A7, c7, A5, c5, by rw [List.length_append, List.length_singleton], C49_far hz hC7 hw, C40_far hz (Kd.C_below hC5.out hb7) hw⟩
            have hbF : Below w.heap.size w (((w5.setCell ⟨G + 1, 0, none⟩ (.slice A7 rs.length c7)).setCell ⟨G + 1, 1, none⟩ (.slice A5 (l.length + 1) c5)).alloc (Obj.cells #[.slice A7 rs.length c7, .slice A5 (l.length + 1) c5] 55)) := ((hbw5.setCell (p := ⟨G + 1, 0, none⟩) (Nat.le_succ_of_le hGl) (.slice A7 rs.length c7)).setCell (p := ⟨G + 1, 1, none⟩) (Nat.le_succ_of_le hGl) (.slice A5 (l.length + 1) c5)).alloc (by rw [World.size_setCell, World.size_setCell]; exact hbw5.size) _
            (try simp only [Exit.inBlock, Exit.then])
            refine bodyPost_ret (results_ct rfl _ _ (G + 1) 55 #[.slice A7 rs.length c7, .slice A5 (l.length + 1) c5] (0, 0) _ rfl (blk_alloc (blk_put (cs := #[.slice A7 rs.length c7, .slice none 0 0]) (blk_put (cs := #[.slice none 0 0, .slice none 0 0]) hz 0 (.slice A7 rs.length c7) rfl) 1 (.slice A5 (l.length + 1) c5) rfl) _) Tryd.underlying55 rfl (by kernel_rfl)) rfl ?_
            exact ⟨⟨_, 0, rfl, Or.inr ⟨rfl, x, y, hrT.out.1, hRa.out, hRb.out, hadd.out, hNF⟩⟩, hbF⟩
          · have hv' : v = .slice none 0 0 := by
              rcases hv with ⟨_, h⟩ | ⟨h, _⟩
              · exact h
              · exact absurd h hk
            subst hv'
            have e5 : (k == 0) = false := beq_eq_false_iff_ne.mpr hk
            replace hk := Lib.hid hk
            clear hv hadd
            go_wp2_with fail
            (try simp only [Exit.inBlock, Exit.then])
            refine bodyPost_ret (results_ct rfl _ _ (G + 1) 55 #[.slice none 0 0, .slice none 0 0] (0, 0) _ rfl (blk_put (cs := #[.slice none 0 0, .slice none 0 0]) (blk_put (cs := #[.slice none 0 0, .slice none 0 0]) hz 0 (.slice none 0 0) rfl) 1 (.slice none 0 0) rfl) Tryd.underlying55 rfl (by kernel_rfl)) rfl ?_
            exact ⟨⟨_, k, rfl, Or.inl ⟨hk.out, rfl⟩⟩, (hbw4.setCell (p := ⟨G + 1, 0, none⟩) (Nat.le_succ_of_le hGl) (.slice none 0 0)).setCell (p := ⟨G + 1, 1, none⟩) (Nat.le_succ_of_le hGl) (.slice none 0 0)⟩
      · have e5 : (k2 == 0) = false := beq_eq_false_iff_ne.mpr hk2
        clear hk2
        go_wp2_with fail
        (try simp only [Exit.inBlock, Exit.then])
        refine bodyPost_ret (results_ct rfl _ _ (G + 1) 55 #[.slice none 0 0, .slice none 0 0] (0, 0) _ rfl (blk_put (cs := #[.slice none 0 0, .slice none 0 0]) (blk_put (cs := #[.slice none 0 0, .slice none 0 0]) hz 0 (.slice none 0 0) rfl) 1 (.slice none 0 0) rfl) Tryd.underlying55 rfl (by kernel_rfl)) rfl ?_
        exact ⟨⟨_, 4, rfl, Or.inl ⟨by decide, rfl⟩⟩, (hbw3.setCell (p := ⟨G + 1, 0, none⟩) (Nat.le_succ_of_le hGl) (.slice none 0 0)).setCell (p := ⟨G + 1, 1, none⟩) (Nat.le_succ_of_le hGl) (.slice none 0 0)⟩
    · have e5 : (k1 == 0) = false := beq_eq_false_iff_ne.mpr hk1
      clear hk1
      go_wp2_with fail
      (try simp only [Exit.inBlock, Exit.then])
      refine bodyPost_ret (results_ct rfl _ _ (G + 1) 55 #[.slice none 0 0, .slice none 0 0] (0, 0) _ rfl (blk_put (cs := #[.slice none 0 0, .slice none 0 0]) (blk_put (cs := #[.slice none 0 0, .slice none 0 0]) hz 0 (.slice none 0 0) rfl) 1 (.slice none 0 0) rfl) Tryd.underlying55 rfl (by kernel_rfl)) rfl ?_
      exact ⟨⟨_, 4, rfl, Or.inl ⟨by decide, rfl⟩⟩, (hbw3.setCell (p := ⟨G + 1, 0, none⟩) (Nat.le_succ_of_le hGl) (.slice none 0 0)).setCell (p := ⟨G + 1, 1, none⟩) (Nat.le_succ_of_le hGl) (.slice none 0 0)⟩
#print axioms correct_ok
end Go.Proofs.YtpejnnnkamodbaaDoor
