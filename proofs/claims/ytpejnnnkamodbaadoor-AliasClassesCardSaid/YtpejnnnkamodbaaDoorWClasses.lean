/- The walk of reportescrowlaw13.AliasClasses: whatever the dice, it returns true. -/
import Derived.Test.YtpejnnnkamodbaaDoorWClass
namespace Go.Proofs.YtpejnnnkamodbaaDoor
open Go Go.RowKit Go.Maps Go.WideMaps Go.Proofs.YtpejnnnkamodbaaDoorW.PrintWords Go.Proofs.YtpejnnnkamodbaaDoorW.PrintLast
open PCanonEqual (S40 k40 z40)

theorem getD_eq' {α : Type} {l : List α} {i : Nat} {z : α} (h : i < l.length) : l.getD i z = l[i] := by simp [List.getD, h]
theorem asc_nodup {L : List ByteArray} (h : Asc L) : L.Nodup := h.imp fun {a b} h e => by
  subst e
  exact List.lt_irrefl _ ((less_iff _ _).1 h)
theorem asc_unique {L M : List ByteArray} (h1 : Asc L) (h2 : Asc M) (hm : ∀ x, x ∈ L ↔ x ∈ M) : L = M := by
  have hp := (List.perm_ext_iff_of_nodup (asc_nodup h1) (asc_nodup h2)).2 hm
  unfold Asc at h1 h2
  refine List.Perm.eq_of_pairwise (fun a b _ _ h3 h4 => ?_) h1 h2 hp
  exact absurd (List.lt_trans ((less_iff _ _).1 h3) ((less_iff _ _).1 h4)) (List.lt_irrefl _)
theorem class_goal {f : ByteArray → Option S40} {s x goal : ByteArray} (hg : Leads f s goal) (h : classM f s x) : Leads f x goal := by
  rcases h with rfl | ⟨_, r, h1, h2⟩
  · exact hg
  · rw [leads_det hg h1]; exact h2
theorem class_in {f : ByteArray → Option S40} {s x goal : ByteArray} (hk : ∀ k a, f k = some a → a.f0 = k) (hs : Leads f s goal) (hx : Leads f x goal) (hne : x ≠ s) : ∃ k a, f k = some a ∧ (s = a.f0 ∨ s = a.f1) := by
  cases hf : f s with
  | some a => exact ⟨s, a, hf, Or.inl (hk s a hf).symm⟩
  | none =>
    have : goal = s := leads_det hs (.done hf)
    subst this
    rcases leads_from hx with h | ⟨k, a, h1, h2⟩
    · exact absurd h.symm hne
    · exact ⟨k, a, h1, Or.inr h2⟩
theorem class_move {f : ByteArray → Option S40} {s x : ByteArray} (hk : ∀ k a, f k = some a → a.f0 = k) (hl : ∃ r, Leads f s r) (h : classM f s x) (y : ByteArray) : classM f x y ↔ classM f s y := by
  obtain ⟨goal, hg⟩ := hl
  have hx := class_goal hg h
  by_cases hxs : x = s
  · subst hxs; exact Iff.rfl
  · constructor
    · rintro (rfl | ⟨h1, r, h2, h3⟩)
      · exact h
      · exact Or.inr ⟨h1, goal, hg, by rw [leads_det hx h2]; exact h3⟩
    · rintro (rfl | ⟨h1, r, h2, h3⟩)
      · exact Or.inr ⟨class_in hk hg hx hxs, goal, hx, hg⟩
      · exact Or.inr ⟨h1, goal, hx, by rw [leads_det hg h2]; exact h3⟩
set_option maxHeartbeats 4000000 in
set_option maxRecDepth 100000 in
theorem same44_ok (A1 A2 : Option Addr) (c1 c2 : Nat) (R : List ByteArray) (w : World) (h1 : Kd.C Kd.string w A1 R.length R) (h2 : Kd.C Kd.string w A2 R.length R) (hl : R.length ≤ 1000000) :
    Calls Tryd.prog 44 #[.slice A1 R.length c1, .slice A2 R.length c2] w fun e w' => e = .returned (.bool true) ∧ Below w.heap.size w w' := by
  replace h1 := Lib.hid h1
  replace h2 := Lib.hid h2
  go_enter Tryd.func44, Tryd.ntmps44
  go_wp2_with fail
  go_loopw [14] (fun v14 wr => ∃ i : Nat, i ≤ R.length ∧ v14 = .int .i64 i ∧ Below w.heap.size w wr) (fun v14 _ => R.length - (intOf v14).toNat)
  case atStart => exact ⟨0, Nat.zero_le _, rfl, Below.refl _ _⟩
  case round =>
    obtain ⟨i, hi, rfl, hbr⟩ := hrel
    by_cases hlt : i < R.length
    · have e3 : decide (i < R.length) = true := decide_eq_true hlt
      obtain ⟨a1, rfl, d1⟩ := Kd.at_string (Kd.C_below h1.out hbr) i (by omega) (by omega)
      obtain ⟨a2, rfl, d2⟩ := Kd.at_string (Kd.C_below h2.out hbr) i (by omega) (by omega)
      rw [Int.toNat_natCast] at d1 d2
      generalize rdOf ByteArray.empty R (i : Int) = s at d1 d2
      go_wp2_with fail
      go_roundw
      case rel => exact ⟨i + 1, by omega, by go_num, hbr⟩
      case measure => simp [intOf]; omega
    · have e3 : decide (i < R.length) = false := decide_eq_false hlt
      go_wp2_with fail
      go_ret
      exact ⟨rfl, hbr⟩
def anyS (R : List ByteArray) (s : ByteArray) (i : Nat) : Bool := (R.take i).any fun a => a.toList == s.toList
theorem anyS_step {R : List ByteArray} {s : ByteArray} {i : Nat} (h : i < R.length) : anyS R s (i + 1) = (anyS R s i || ((R.getD i ByteArray.empty).toList == s.toList)) := by
  unfold anyS
  rw [List.take_add_one, List.any_append, getD_eq' h, List.getElem?_eq_getElem h]
  simp
theorem anyS_all {R : List ByteArray} {s : ByteArray} (h : s ∈ R) : anyS R s R.length = true := by
  unfold anyS
  rw [List.take_length, List.any_eq_true]
  exact ⟨s, h, by simp⟩
set_option maxHeartbeats 8000000 in
set_option maxRecDepth 100000 in
set_option linter.unusedSimpArgs false in
theorem aliasClasses_walk (A : Option Addr) (c : Nat) (l : List Int) (x : Int) (w : World) (hT : Tabs w) (hr : Kd.C (Kd.int .i64) w A l.length l) (hc : l.length ≤ c) (hx0 : 0 ≤ x) (_hx1 : x ≤ 255) :
    Calls Tryd.prog 16 #[.slice A l.length c, .int .u8 x] w fun e w' => e = .returned (.bool true) ∧ Below w.heap.size w w' := by
  have cl := Lib.hid (light_any A c l w hr hc)
  obtain ⟨m, hm⟩ : ∃ m : Nat, Int.tmod x 16 = m := ⟨(Int.tmod x 16).toNat, by have := Int.tmod_nonneg 16 hx0; omega⟩
  have hm9 : m < 16 := by have := Int.tmod_lt_of_pos x (b := 16) (by decide); omega
  clear hx0 _hx1
  by_cases hl : l.length ≤ 500
  · have e0 : decide ((l.length : Int) ≤ 500) = true := decide_eq_true (by omega)
    rw [e0] at cl
    have cr := Lib.hid (fun w1 hB => roll_any A c l w w1 hB hr hc hl)
    replace hr := Lib.hid hr
    clear hl e0
    replace hc := Lib.hid hc
    go_enter Tryd.func16, Tryd.ntmps16
    go_wp2_with fail
    refine cl.out.mono ?_
    rintro e w1 ⟨rfl, ⟨n1, rfl⟩⟩
    go_wp2_with fail
    refine (cr.out _ (pw_below_drewN (Below.refl _ _) _)).mono ?_
    rintro e w2 ⟨g, rfl, hd2, hb2⟩
    go_wp2_with fail
    refine (grown_ok w g w2 hT hd2).mono ?_
    rintro e w3 ⟨A3, c3, L, rfl, hS, hC3, hd3, hk3, hL10⟩
    replace hC3 := Lib.hid hC3
    replace hS := Lib.hid hS
    clear cl cr hd2 hb2 hk3
    go_wp2_with fail
    refine (word_new w g w3 [⟨#[98, 111, 98]⟩, ⟨#[114, 111, 98]⟩, ⟨#[114, 111, 98, 101, 114, 116]⟩, ⟨#[97, 110, 110]⟩, ⟨#[106, 111, 115, 101, 102]⟩, ⟨#[120]⟩, ⟨#[111, 116, 104, 101, 114]⟩] hd3 (by decide) (by decide)).mono ?_
    rintro e w4 ⟨s, hs, rfl, hd4, hk4⟩
    have hsz : s.size ≤ 1000 := by
      simp only [List.mem_cons, List.not_mem_nil, or_false] at hs
      rcases hs with rfl | rfl | rfl | rfl | rfl | rfl | rfl <;> decide
    have hC4 := Lib.hid (C_keep hd3 hC3.out hk4)
    have hlow := hd4.low
    have hT4 := hT.below hlow hT.six
    have hLm := Lib.hid (fun k a (h : presT L m k = some a) => (presT_mem L m k a h))
    have hsz2 := Lib.hid (fun a (ha : a ∈ L) => right_sizes (valid_mem hS.out.1 a ha))
    have cc := Lib.hid (fun (y : ByteArray) w' (hy : y.size ≤ 1000) (hb : Below w4.heap.size w4 w') => class43_ok A3 c3 L y m w' (Kd.C_below hC4.out hb) hS.out (by omega) hy)
    have cf := Lib.hid (fun (y : ByteArray) w' (hy : y.size ≤ 1000) (hb : Below w4.heap.size w4 w') => followAll_ok A3 c3 L y m w' (hT4.below hb hT4.six) (Kd.C_below hC4.out hb) (by omega))
    have ccs := Lib.hid (cc.out s w4 hsz (Below.refl _ _))
    clear hd3 hk4 hd4 hs
    go_wp2_with fail
    refine ccs.out.mono ?_
    rintro e w5 ⟨⟨A5, c5, R, rfl, hC5, hRl, hasc, hmemR⟩, hb5⟩
    have cfs := Lib.hid (cf.out s w5 hsz hb5)
    replace hasc := Lib.hid hasc
    replace hmemR := Lib.hid hmemR
    replace hC5 := Lib.hid hC5
    clear ccs
    go_wp2_with fail
    refine cfs.out.mono ?_
    rintro e w6 ⟨⟨goal, k1, hf1, rfl⟩, hb6⟩
    obtain ⟨rfl, hgoal⟩ := follow_good hS.out hf1
    have hb6' := hb5.trans (hb6.mono hb5.size)
    have hC6 := Lib.hid (Kd.C_below hC5.out hb6)
    have hkey := Lib.hid (fun k a (h : presT L m k = some a) => (hLm.out k a h).2.1)
    have hany := anyS_all ((hmemR.out s).2 (Or.inl rfl))
    have hRz : Hid (∀ y, y ∈ R → y.size ≤ 1000) := Lib.hid (fun y hy => by
      rcases (hmemR.out y).1 hy with rfl | ⟨⟨k, a, h1, h2⟩, _⟩
      · exact hsz
      · have h3 := hsz2.out a (hLm.out k a h1).1
        rcases h2 with rfl | rfl
        · omega
        · omega)
    replace hgoal := Lib.hid hgoal
    replace hany := Lib.hid hany
    clear cfs hf1 hC5
    go_wp2_with fail
    go_loopw [12, 44] (fun v12 v44 wr => ∃ i : Nat, i ≤ R.length ∧ v44 = .int .i64 i ∧ v12 = .bool (anyS R s i) ∧ Below w6.heap.size w6 wr) (fun _ v44 _ => R.length - (intOf v44).toNat)
    case atStart => exact ⟨0, Nat.zero_le _, rfl, rfl, Below.refl _ _⟩
    case round =>
      obtain ⟨i, hi, rfl, rfl, hbr⟩ := hrel
      have hbr4 := hb6'.trans (hbr.mono hb6'.size)
      by_cases hlt : i < R.length
      · have e3 : decide (i < R.length) = true := decide_eq_true hlt
        have hrr : Kd.C Kd.string wr A5 R.length R := Kd.C_below hC6.out hbr
        obtain ⟨ad, rfl, d0⟩ := Kd.at_string hrr i (by omega) (by omega)
        rw [Int.toNat_natCast] at d0
        have hrd : rdOf ByteArray.empty R (i : Int) = R.getD i ByteArray.empty := by simp [rdOf]
        rw [hrd] at d0
        have hstep := anyS_step (s := s) hlt
        have hyin : R.getD i ByteArray.empty ∈ R := by rw [getD_eq' hlt]; exact List.getElem_mem hlt
        have hA : ∀ (h0 : 0 < i), Op.bytesLess (R.getD (i - 1) ByteArray.empty).toList (R.getD i ByteArray.empty).toList = true := by
          intro h0
          rw [getD_eq' hlt, getD_eq' (show i - 1 < R.length by omega)]
          exact List.pairwise_iff_getElem.1 hasc.out (i - 1) i (by omega) hlt (by omega)
        generalize R.getD i ByteArray.empty = y at d0 hstep hyin hA
        have hyz := hRz.out y hyin
        have hycl := (hmemR.out y).1 hyin
        have hyg := class_goal hgoal.out hycl
        have cy := Lib.hid (cf.out y wr hyz hbr4)
        generalize anyS R s i = Y at hstep ⊢
        replace hstep := Lib.hid hstep
        replace hycl := Lib.hid hycl
        replace hyg := Lib.hid hyg
        replace hyin := Lib.hid hyin
        clear hrd
        have hpos : (0 < i) ∨ i = 0 := by omega
        rcases hpos with hpos | hz0
        case' inl =>
          have e5 : decide (0 < i) = true := decide_eq_true hpos
          have hlss := hA hpos
          obtain ⟨ad', had', d0'⟩ := Kd.at_string hrr ((i - 1 : Nat) : Int) (by omega) (by omega)
          obtain rfl := Option.some.inj had'
          rw [Int.toNat_natCast, show rdOf ByteArray.empty R ((i - 1 : Nat) : Int) = R.getD (i - 1) ByteArray.empty from by simp [rdOf]] at d0'
          generalize R.getD (i - 1) ByteArray.empty = p at d0' hlss
          obtain ⟨q, k1⟩ : ∃ q : Int, (i : Int) - 1 = q := ⟨_, rfl⟩
          have k2 : (0 : Int) ≤ q := by omega
          have k3 : q < (R.length : Int) := by omega
          have k4 : wrap64 q = q := by unfold wrap64; omega
          rw [show i - 1 = q.toNat from by omega] at d0'
          clear hA hrr
          go_wp2_with fail
          refine cy.out.mono ?_
          rintro e w7 ⟨⟨r2, e2, hf2, rfl⟩, hb7⟩
          obtain ⟨rfl, hl2⟩ := follow_good hS.out hf2
          obtain rfl : goal = r2 := leads_det hyg.out hl2
          have hb7' := hbr4.trans (hb7.mono hbr4.size)
          have p0 := pw_cell_below hb7 d0'
          have cyc := Lib.hid (cc.out y w7 hyz hb7')
          clear hf2 hl2 cy d0 d0'
          go_wp2_with fail
        case' inr =>
          have e5 : decide (0 < i) = false := decide_eq_false (by omega)
          replace hz0 := Lib.hid hz0
          clear hA hrr
          go_wp2_with fail
          refine cy.out.mono ?_
          rintro e w7 ⟨⟨r2, e2, hf2, rfl⟩, hb7⟩
          obtain ⟨rfl, hl2⟩ := follow_good hS.out hf2
          obtain rfl : goal = r2 := leads_det hyg.out hl2
          have hb7' := hbr4.trans (hb7.mono hbr4.size)
          have cyc := Lib.hid (cc.out y w7 hyz hb7')
          clear hf2 hl2 cy d0
          go_wp2_with fail
        all_goals
          refine cyc.out.mono ?_
          rintro e w8 ⟨⟨A8, c8, R8, rfl, hC8, hR8l, hasc8, hmem8⟩, hb8⟩
          have hRR : R8 = R := asc_unique hasc8 hasc.out (fun v => by rw [hmem8 v, hmemR.out v]; exact class_move hkey.out ⟨goal, hgoal.out⟩ hycl.out v)
          subst hRR
          have hb8' := (hbr.trans (hb7.mono hbr.size)).trans (hb8.mono (Nat.le_trans hbr.size hb7.size))
          have cs := Lib.hid (same44_ok A8 _ c8 c5 R8 w8 hC8 (Kd.C_below hC6.out hb8') hR8l)
          clear cyc hasc8 hmem8 hC8
          go_wp2_with fail
          refine cs.out.mono ?_
          rintro e w9 ⟨rfl, hb9⟩
          have hb9' := hb8'.trans (hb9.mono hb8'.size)
          cases Y
          · go_wp2_with fail
            go_roundw
            case rel => exact ⟨_, hlt, by go_num, by rw [hstep.out]; simp, hb9'⟩
            case measure => simp [intOf]; omega
          · go_wp2_with fail
            go_roundw
            case rel => exact ⟨_, hlt, by go_num, by rw [hstep.out]; simp, hb9'⟩
            case measure => simp [intOf]; omega
      · have e3 : decide (i < R.length) = false := decide_eq_false hlt
        obtain rfl : i = R.length := by omega
        rw [hany.out]
        have hbw := hlow.trans (hbr4.mono hlow.size)
        have cw := Lib.hid (awake13_ok wr (hT.below hbw hT.six))
        go_wp2_with fail
        refine cw.out.mono ?_
        rintro e w9 ⟨rfl, hb9⟩
        go_wp2_with fail
        go_ret
        exact ⟨rfl, hbw.trans (hb9.mono hbw.size)⟩
  · have e0 : decide ((l.length : Int) ≤ 500) = false := decide_eq_false (by omega)
    rw [e0] at cl
    have ca := Lib.hid (fun w1 hB => awake13_ok w1 hB)
    replace hr := Lib.hid hr
    clear hl e0
    replace hc := Lib.hid hc
    go_enter Tryd.func16, Tryd.ntmps16
    go_wp2_with fail
    refine cl.out.mono ?_
    rintro e w1 ⟨rfl, ⟨n1, rfl⟩⟩
    go_wp2_with fail
    have hb := pw_below_drewN (Below.refl w.heap.size w) n1
    refine (ca.out _ (hT.below hb hT.six)).mono ?_
    rintro e w2 ⟨rfl, hb1⟩
    go_wp2_with fail
    go_ret
    exact ⟨rfl, hb.trans (hb1.mono (Nat.le_refl _))⟩
#print axioms aliasClasses_walk
end Go.Proofs.YtpejnnnkamodbaaDoor
