/- reportescrowlaw14.some, and the sanity check of chapter 14. -/
import Derived.Test.YtpejnnnkamodbaaDoorWCanonN
import Derived.Test.YtpejnnnkamodbaaDoorWRules
namespace Go.Proofs.YtpejnnnkamodbaaDoor
open Go Go.RowKit Go.Lib Go.Proofs.YtpejnnnkamodbaaDoorW.PrintWords Go.Proofs.YtpejnnnkamodbaaDoorW.PrintLast
open PCanonEqual (S49 k49 z49 S40 k40 z40 at_T49 at_T40 rd_T49 rd_T40 k49_open k49_mk k40_open k40_mk)

theorem keep_row {w w' : World} {g b : Nat} {o : Obj} (h : KeepBut w w' g none) (hb : w.heap[b]? = some o) (hg : b ≠ g) : w'.heap[b]? = some o :=
  (h.2 b (Array.getElem?_eq_some_iff.1 hb).1 hg (by simp)).trans hb
theorem C49_far {w w' : World} {A : Option Addr} {l : List S49} {b : Nat} {s1 s2 : Option Addr} {n1 n2 k1 k2 : Nat} (hb : w.heap[b]? = some (.cells #[.slice s1 n1 k1, .slice s2 n2 k2] 55 (0, 0))) (h : Kd.C k49 w A l.length l) (hw : ∀ p v, w.cell? p = some v → p.block ≠ b → w'.cell? p = some v) : Kd.C k49 w' A l.length l := by
  refine ⟨rfl, h.2.1, fun hl => ?_⟩
  have hne : ∀ ad, A = some ad → ad.block ≠ b := by
    intro ad hA
    obtain ⟨ad', e, d0, _⟩ := at_T49 h 0 (by decide) (by omega)
    rw [hA] at e
    cases e
    intro hg
    have e2 : (ad.add ((0 : Int).toNat * 3)).block = b := by rw [addr_block']; exact hg
    generalize ad.add ((0 : Int).toNat * 3) = p at d0 e2
    unfold World.cell? at d0
    rw [e2, hb] at d0
    simp only at d0
    rcases hp : p.off with _ | _ | k <;> rw [hp] at d0 <;> simp at d0
  obtain ⟨ad, rfl, hc⟩ := h.2.2 hl
  refine ⟨ad, rfl, fun j p hj => ?_⟩
  obtain ⟨c, h1, h2, h3⟩ := hc j p hj
  refine ⟨c, h1, by rw [k49_open h2]; exact k49_mk w' p, fun i u hi => hw _ _ (h3 i u hi) (by rw [addr_block']; exact hne ad rfl)⟩
theorem C40_far {w w' : World} {A : Option Addr} {l : List S40} {b : Nat} {s1 s2 : Option Addr} {n1 n2 k1 k2 : Nat} (hb : w.heap[b]? = some (.cells #[.slice s1 n1 k1, .slice s2 n2 k2] 55 (0, 0))) (h : Kd.C k40 w A l.length l) (hw : ∀ p v, w.cell? p = some v → p.block ≠ b → w'.cell? p = some v) : Kd.C k40 w' A l.length l := by
  refine ⟨rfl, h.2.1, fun hl => ?_⟩
  have hne : ∀ ad, A = some ad → ad.block ≠ b := by
    intro ad hA
    obtain ⟨ad', e, d0, _⟩ := at_T40 h 0 (by decide) (by omega)
    rw [hA] at e
    cases e
    intro hg
    have e2 : (ad.add ((0 : Int).toNat * 4)).block = b := by rw [addr_block']; exact hg
    generalize ad.add ((0 : Int).toNat * 4) = p at d0 e2
    unfold World.cell? at d0
    rw [e2, hb] at d0
    simp only at d0
    rcases hp : p.off with _ | _ | k <;> rw [hp] at d0 <;> simp at d0
  obtain ⟨ad, rfl, hc⟩ := h.2.2 hl
  refine ⟨ad, rfl, fun j p hj => ?_⟩
  obtain ⟨c, h1, h2, h3⟩ := hc j p hj
  refine ⟨c, h1, by rw [k40_open h2]; exact k40_mk w' p, fun i u hi => hw _ _ (h3 i u hi) (by rw [addr_block']; exact hne ad rfl)⟩
theorem NamesAt.keep {w0 w w' : World} {g : Nat} {nv : Value} {rs : List S49} {l : List S40} (hd : DiceOk w0 w g) (h : NamesAt w nv rs l) (hk : KeepBut w w' g none) : NamesAt w' nv rs l := by
  obtain ⟨A1, c1, A2, c2, e, h1, h2⟩ := h.out
  exact ⟨A1, c1, A2, c2, e, C49_keep hd h1 hk, C_keep hd h2 hk⟩
set_option maxHeartbeats 4000000 in
set_option maxRecDepth 100000 in
theorem some_ok (w0 : World) (g : Nat) (w : World) (hd : DiceOk w0 w g) :
    Calls Tryd.prog 36 #[.pointer (some ⟨g, 0, none⟩)] w fun e w' => ∃ nv rs l, e = .returned nv ∧ NamesAt w' nv rs l ∧ l.length ≤ 5 ∧ DiceOk w0 w' g ∧ KeepBut w w' g none := by
  have hgw := hd.lt
  have hb0 : Below w.heap.size w (w.alloc (Obj.cells #[.slice none 0 0, .slice none 0 0] 55)) := (Below.refl _ _).alloc (Nat.le_refl _) _
  have hk0 := heap_alloc_new w (Obj.cells #[.slice none 0 0, .slice none 0 0] 55)
  have hlow := hd.low.size
  have hd0 := hd.alloc (Obj.cells #[.slice none 0 0, .slice none 0 0] 55)
  have hne : w.heap.size ≠ g := by omega
  go_enter Tryd.func36, Tryd.ntmps36
  go_wp2_with fail
  refine (rules_any w0 g _ hd0).mono ?_
  rintro e w1 ⟨A1, c1, rs, rfl, hl1, hc1, hC1, hd1, hk1⟩
  have hx1 := keep_row hk1 hk0 hne
  clear hk0 hd0
  replace hk1 := keep_then (keep_of_below hb0 g) hk1
  clear hb0
  go_wp2_with fail
  refine (aliases_ok w0 g w1 hd1).mono ?_
  rintro e w2 ⟨v2, l2, rfl, hR2, hl2, hd2, hk2⟩
  obtain ⟨A2, c2, rfl, hc2, hC2⟩ := Kd.R_reads hR2
  have hC1' := C49_keep hd1 hC1 hk2
  have hx2 := keep_row hk2 hx1 hne
  have hk2' := keep_then hk1 hk2
  have q0 : w2.cell? ⟨w.heap.size, 0, none⟩ = some (.slice none 0 0) := (cell_row hx2 0).trans rfl
  have q1 : w2.cell? ⟨w.heap.size, 1, none⟩ = some (.slice none 0 0) := (cell_row hx2 1).trans rfl
  have qf : ∀ j, w2.frozen? ⟨w.heap.size, j, none⟩ = false := fun j => blk_frozen hx2 j
  have hw : ∀ p v, w2.cell? p = some v → p.block ≠ w.heap.size → ((w2.setCell ⟨w.heap.size, 0, none⟩ (.slice A1 rs.length c1)).setCell ⟨w.heap.size, 1, none⟩ (.slice A2 l2.length c2)).cell? p = some v := by
    intro p v hp hne
    rw [cell_far hne, cell_far hne]
    exact hp
  have hN : NamesAt ((w2.setCell ⟨w.heap.size, 0, none⟩ (.slice A1 rs.length c1)).setCell ⟨w.heap.size, 1, none⟩ (.slice A2 l2.length c2)) (.agg #[.slice A1 rs.length c1, .slice A2 l2.length c2]) rs l2 := ⟨_, _, _, _, rfl, C49_far hx2 hC1' hw, C40_far hx2 hC2 hw⟩
  have hd3 := dice_set (dice_set (j := 0) hd2 hne hlow (.slice A1 rs.length c1)) (j := 1) hne hlow (.slice A2 l2.length c2)
  have hk3 := keep_far (keep_far hk2' (p := ⟨w.heap.size, 0, none⟩) (Nat.le_refl _) (.slice A1 rs.length c1)) (p := ⟨w.heap.size, 1, none⟩) (Nat.le_refl _) (.slice A2 l2.length c2)
  have hx3 := Lib.hid (blk_put (cs := #[.slice A1 rs.length c1, .slice none 0 0]) (blk_put (cs := #[.slice none 0 0, .slice none 0 0]) hx2 0 (.slice A1 rs.length c1) rfl) 1 (.slice A2 l2.length c2) rfl)
  clear hw hC1 hC1' hC2 hR2 hx1 hx2 hk2 hk2' hk1 hd1 hd2
  replace hN := Lib.hid hN
  go_wp2_with fail
  (try simp only [Exit.inBlock, Exit.then])
  refine bodyPost_ret (results_cell_row rfl _ _ w.heap.size 55 #[.slice A1 rs.length c1, .slice A2 l2.length c2] (0, 0) _ rfl hx3.out Tryd.underlying55 rfl (by kernel_rfl)) rfl ?_
  exact ⟨_, rs, l2, rfl, hN.out, hl2, hd3, hk3⟩
/-! ### the sanity check -/
def exN : List S49 := [⟨⟨#[112, 104]⟩, ⟨#[102]⟩, 0⟩]
def exE : S40 := ⟨⟨#[98, 111, 98]⟩, ⟨#[114, 111, 98, 101, 114, 116]⟩, 1, false⟩
theorem exN_rules : rulesT exN = true := by decide +kernel
theorem exE_right : rightT exE = true := right_words [98, 111, 98] [114, 111, 98, 101, 114, 116] 1 false ⟨by decide, by decide⟩ ⟨by decide, by decide⟩ (by decide) (by decide) (by decide) (by decide) (by decide)
theorem exE_valid : validT [exE] = true := valid_add (l := []) rfl exE_right rfl (by decide)
theorem exE_pres (t : Int) (s : ByteArray) : presT [exE] t s = if 1 ≤ t ∧ s = bobB then some exE else none := by
  show layA t (fun _ => none) exE s = _
  unfold layA
  by_cases h : 1 ≤ t
  · rw [if_neg (show ¬ exE.f2 > t by show ¬ (1 : Int) > t; omega)]
    show (if s = bobB then some exE else none) = _
    by_cases hs : s = bobB
    · rw [if_pos hs, if_pos ⟨h, hs⟩]
    · rw [if_neg hs, if_neg (fun x => hs x.2)]
  · rw [if_pos (show exE.f2 > t by show (1 : Int) > t; omega), if_neg (fun x => h x.1)]
theorem ex_next {t : Int} {s r u : ByteArray} (h : Leads (presT [exE] t) s r) (hb : beginT exN r = (u, 0)) : nextF exN [exE] t s = (u, 0) := by
  unfold nextF
  rw [follow_of exE_valid h, if_pos rfl]
  exact hb
theorem ex_name {t : Int} {s a r : ByteArray} (hb : beginT exN s = (a, 0)) (h : Ends (nextF exN [exE] t) a r 0) : nameF exN [exE] s t = (r, 0) := by
  unfold nameF
  rw [if_pos ⟨exN_rules, exE_valid⟩, hb, if_pos rfl]
  exact end_of h
def josefB : ByteArray := ⟨#[106, 111, 115, 101, 102]⟩
theorem b1 : beginT exN ⟨#[74, 111, 115, 195, 168, 112, 104]⟩ = (josefB, 0) := by decide +kernel
theorem b2 : beginT exN josefB = (josefB, 0) := by decide +kernel
theorem b3 : beginT exN ⟨#[66, 111, 98]⟩ = (bobB, 0) := by decide +kernel
theorem b4 : beginT exN ⟨#[82, 79, 66, 69, 82, 84]⟩ = (robertB, 0) := by decide +kernel
theorem b5 : beginT exN robertB = (robertB, 0) := by decide +kernel
theorem b6 : beginT exN bobB = (bobB, 0) := by decide +kernel
theorem ne_jb : josefB ≠ bobB := by decide
theorem n1 : nameF exN [exE] ⟨#[74, 111, 115, 195, 168, 112, 104]⟩ 1 = (josefB, 0) :=
  ex_name b1 (.fix (ex_next (.done (by rw [exE_pres, if_neg (fun h => ne_jb h.2)])) b2))
theorem n2 : nameF exN [exE] ⟨#[82, 79, 66, 69, 82, 84]⟩ 1 = (robertB, 0) :=
  ex_name b4 (.fix (ex_next (.done (by rw [exE_pres, if_neg (fun h => ne_rb h.2)])) b5))
theorem n3 : nameF exN [exE] ⟨#[66, 111, 98]⟩ 1 = (robertB, 0) :=
  ex_name b3 (.step (ex_next (.step (a := exE) (by rw [exE_pres, if_pos ⟨by decide, rfl⟩]) (.done (s := robertB) (by rw [exE_pres, if_neg (fun h => ne_rb h.2)]))) b5) ne_rb (.fix (ex_next (.done (by rw [exE_pres, if_neg (fun h => ne_rb h.2)])) b5)))
theorem n4 : nameF exN [exE] ⟨#[66, 111, 98]⟩ 0 = (bobB, 0) :=
  ex_name b3 (.fix (ex_next (.done (by rw [exE_pres, if_neg (fun h => absurd h.1 (by decide))])) b6))
theorem n5 : nameF exN [exE] ⟨#[82, 79, 66, 69, 82, 84]⟩ 0 = (robertB, 0) :=
  ex_name b4 (.fix (ex_next (.done (by rw [exE_pres, if_neg (fun h => absurd h.1 (by decide))])) b5))
theorem s1 : sameF exN [exE] ⟨#[66, 111, 98]⟩ ⟨#[82, 79, 66, 69, 82, 84]⟩ 1 = true := by
  unfold sameF
  rw [n3, n2]
  simp
theorem s0 : sameF exN [exE] ⟨#[66, 111, 98]⟩ ⟨#[82, 79, 66, 69, 82, 84]⟩ 0 = false := by
  unfold sameF
  rw [n4, n5, ByteArray.toList_eq, ByteArray.toList_eq]
  rfl
theorem names_ok (w : World) : Calls Tryd.prog 61 #[] w fun e w' => ∃ nv, e = .returned nv ∧ NamesAt w' nv exN [exE] ∧ Below w.heap.size w w' :=
  (PCanonEqual.reportescrowlaw14_names.calls exN [exE] w rfl).mono fun e w' ⟨v0, v1, he, h0, h1, hb⟩ => by
    obtain ⟨A1, c1, rfl, _, hC1⟩ := Kd.R_reads h0
    obtain ⟨A2, c2, rfl, _, hC2⟩ := Kd.R_reads h1
    exact ⟨_, he, ⟨A1, c1, A2, c2, rfl, hC1, hC2⟩, hb⟩
set_option maxHeartbeats 4000000 in
set_option maxRecDepth 100000 in
theorem awake14_ok (w : World) (hT : Tabs w) : Calls Tryd.prog 35 #[] w fun e w' => e = .returned (.bool true) ∧ Below w.heap.size w w' := by
  go_enter Tryd.func35, Tryd.ntmps35
  go_wp2_with fail
  refine (names_ok w).mono ?_
  rintro e w1 ⟨nv, rfl, hN1, hb1⟩
  have c1 := name_fn nv exN [exE] ⟨#[74, 111, 115, 195, 168, 112, 104]⟩ 1 w1 (hT.below hb1 hT.six) hN1
  rw [n1] at c1
  replace c1 := Lib.hid c1
  clear hN1
  go_wp2_with fail
  refine c1.out.mono ?_
  rintro e w2 ⟨rfl, hb2⟩
  have hb2' := hb1.trans (hb2.mono hb1.size)
  clear c1
  go_wp2_with fail
  refine (names_ok w2).mono ?_
  rintro e w3 ⟨nv3, rfl, hN3, hb3⟩
  have hb3' := hb2'.trans (hb3.mono hb2'.size)
  have c3 := same_fn nv3 exN [exE] ⟨#[66, 111, 98]⟩ ⟨#[82, 79, 66, 69, 82, 84]⟩ 1 w3 (hT.below hb3' hT.six) hN3
  rw [s1] at c3
  replace c3 := Lib.hid c3
  clear hN3
  go_wp2_with fail
  refine c3.out.mono ?_
  rintro e w4 ⟨rfl, hb4⟩
  have hb4' := hb3'.trans (hb4.mono hb3'.size)
  clear c3
  go_wp2_with fail
  refine (names_ok w4).mono ?_
  rintro e w5 ⟨nv5, rfl, hN5, hb5⟩
  have hb5' := hb4'.trans (hb5.mono hb4'.size)
  have c5 := same_fn nv5 exN [exE] ⟨#[66, 111, 98]⟩ ⟨#[82, 79, 66, 69, 82, 84]⟩ 0 w5 (hT.below hb5' hT.six) hN5
  rw [s0] at c5
  replace c5 := Lib.hid c5
  clear hN5
  go_wp2_with fail
  refine c5.out.mono ?_
  rintro e w6 ⟨rfl, hb6⟩
  have hb6' := hb5'.trans (hb6.mono hb5'.size)
  have tr : (josefB.toList = [106, 111, 115, 101, 102]) = True := by rw [ByteArray.toList_eq]; exact eq_true rfl
  have tr2 : (josefB.toList == [106, 111, 115, 101, 102]) = true := by rw [ByteArray.toList_eq]; rfl
  clear c5
  go_wp2_with fail
  go_ret
  exact ⟨rfl, hb6'⟩
#print axioms awake14_ok
end Go.Proofs.YtpejnnnkamodbaaDoor
