/- reportescrowlaw13.grown: a list that Add has made. -/
import Derived.Test.YtpejnnnkamodbaaDoorWAliases
import Derived.Test.YtpejnnnkamodbaaDoorWGood
namespace Go.Proofs.YtpejnnnkamodbaaDoor
open Go Go.RowKit Go.Maps Go.WideMaps Go.Proofs.YtpejnnnkamodbaaDoorW.PrintWords Go.Proofs.YtpejnnnkamodbaaDoorW.PrintLast
open PCanonEqual (S40 k40 z40 rd_T40 at_T40 k40_open k40_mk k40_openM k40_mkM)

theorem k40_move {w : World} {base : Nat} {ok : Nat → Prop} {x : S40} {cs : List Value} (h : k40.K w x cs) : k40.M w base ok x cs := k40_free h
set_option maxHeartbeats 4000000 in
set_option maxRecDepth 100000 in
set_option linter.unusedSimpArgs false in
theorem grown_ok (w0 : World) (g : Nat) (w : World) (hT : Tabs w0) (hd : DiceOk w0 w g) :
    Calls Tryd.prog 27 #[.pointer (some ⟨g, 0, none⟩)] w fun e w' => ∃ A c l, e = .returned (.slice A l.length c) ∧ Sound40 l ∧ Kd.C k40 w' A l.length l ∧ DiceOk w0 w' g ∧ KeepBut w w' g none ∧ l.length ≤ 10 := by
  have hgw := hd.lt
  go_enter Tryd.func27, Tryd.ntmps27
  go_wp2_with fail
  refine (aliases_ok w0 g w hd).mono ?_
  rintro e w1 ⟨v1, l1, rfl, hR1, hl1, hd1, hk1⟩
  go_wp2_with fail
  refine (aliases_ok w0 g w1 hd1).mono ?_
  rintro e w2 ⟨v2, l2, rfl, hR2, hl2, hd2, hk2⟩
  have hR12 := Kd.R_keep hR1 hk2 (fun k hk => hk)
  have hkk2 := keep_then hk1 hk2
  obtain ⟨A2, c2, rfl, hc2, hC2⟩ := Kd.R_reads hR2
  clear hR1 hk1 hk2 hR2 hd1
  have hgw2 : ∀ k, w2.heap.size ≤ k → k ≠ g := fun k hk => by have := hkk2.1; omega
  go_wp2_with (at_builtin; refine Kd.R_append_rows k40 w.heap.size rfl _ _ 36 40 _ 48 rfl Tryd.underlying36 info40 rfl (by decide) (by decide) v1 l1 l2 A2 l2.length c2 (fun k => k ≠ g) (fun _ => False) (by rfl) (by rfl) hR12 hC2 (fun x cs h => k40_free h) (fun k h => h.elim) hgw2 (Below.refl _ _) hkk2.1 (by omega) ?_; intro v3 w3 hR3 hb3 hg3 hat3; obtain ⟨A3, c3, rfl, hc3, hC3⟩ := Kd.R_reads hR3; have hL : (l1 ++ l2).length ≤ 10 := (by rw [List.length_append]; omega); generalize l1 ++ l2 = L at hR3 hat3 hc3 hC3 hL ⊢)
  have hd3 : DiceOk w0 w3 g := hd2.grown hg3 (fun e => (R_own40 hR12).1 g e.symm rfl) (fun k hk => by
    have h1 := own_base (R_own40 hR12).2 k hk
    have h2 := hd.low.size
    omega)
  have hkk3 : KeepBut w w3 g none := ⟨Nat.le_trans hkk2.1 hg3.size, fun k hk hkg hr => (hg3.block k (Nat.lt_of_lt_of_le hk hkk2.1) (fun e => by
    have h1 := own_base (R_own40 hR12).2 k e.symm
    omega)).trans (hkk2.2 k hk hkg hr)⟩
  have hT3 : Tabs w3 := hT.below hd3.low hT.six
  clear hR12 hR3 hat3 hg3 hb3 hkk2 hd2 hC2 hc2 hgw2
  replace hC3 := Lib.hid hC3
  go_loopw [3, 14] (fun v3 v14 wr => ∃ (i : Nat) (l : List S40) (A : Option Addr) (c : Nat), i ≤ L.length ∧ v14 = .int .i64 i ∧ v3 = .slice A l.length c ∧ l.length ≤ i ∧ Sound40 l ∧ Kd.C k40 wr A l.length l ∧ Below w3.heap.size w3 wr) (fun _ v14 _ => L.length - (intOf v14).toNat)
  case atStart => exact ⟨0, [], none, 0, Nat.zero_le _, rfl, rfl, Nat.le_refl _, good_nil, ⟨rfl, by decide, fun h => absurd h (by simp)⟩, Below.refl _ _⟩
  case round =>
    obtain ⟨i, l, A, c, hi, rfl, rfl, hll, hgood, hC, hbr⟩ := hrel
    by_cases hlt : i < L.length
    · have e3 : decide (i < L.length) = true := decide_eq_true hlt
      have hrr : Kd.C k40 wr A3 L.length L := Kd.C_below hC3.out hbr
      obtain ⟨ad, rfl, d0, d1, d2, d3⟩ := at_T40 hrr i (by omega) (by omega)
      rw [Int.toNat_natCast] at d0 d1 d2 d3
      generalize rd_T40 L i = a at d0 d1 d2 d3
      obtain ⟨n, o, ti, g1⟩ := a
      have hbq : Below wr.heap.size wr (wr.alloc (Obj.cells #[Value.string n, Value.string o, Value.int IntKind.i64 ti, Value.bool g1] 40)) := (Below.refl _ _).alloc (Nat.le_refl _) _
      have hbq' := hbr.trans (hbq.mono hbr.size)
      have ca := Lib.hid (add_ok A c l ⟨n, o, ti, g1⟩ _ (hT3.below hbq' hT3.six) (Kd.C_below hC hbq))
      replace hgood := Lib.hid hgood
      clear hrr
      go_wp2_with fail
      refine ca.out.mono ?_
      rintro e w4 ⟨⟨v, r, hadd, rfl, hv⟩, hb4⟩
      have hb4' := hbq'.trans (hb4.mono hbq'.size)
      have hC4 := Kd.C_below (Kd.C_below hC hbq) hb4
      clear ca
      by_cases hr0 : r = 0
      · subst hr0
        have hR4 : Kd.R k40 40 w4 (wr.alloc (Obj.cells #[Value.string n, Value.string o, Value.int IntKind.i64 ti, Value.bool g1] 40)).heap.size (fun _ => True) v (l ++ [⟨n, o, ti, g1⟩]) := by
          rcases hv with ⟨h, _⟩ | ⟨_, h⟩
          · exact absurd rfl h
          · exact h
        obtain ⟨A5, c5, rfl, hc5, hC5⟩ := Kd.R_reads hR4
        have hg5 := Lib.hid (add_good hgood.out hadd)
        clear hv hadd hR4 hC hC4 hbq
        have hl5 : (l ++ [(⟨n, o, ti, g1⟩ : S40)]).length ≤ i + 1 := by rw [List.length_append, List.length_singleton]; omega
        generalize l ++ [(⟨n, o, ti, g1⟩ : S40)] = l5 at hc5 hC5 hg5 hl5 ⊢
        go_wp2_with fail
        go_roundw
        case rel => exact ⟨i + 1, l5, A5, c5, by omega, by go_num, rfl, hl5, hg5.out, hC5, hb4'⟩
        case measure => simp [intOf]; omega
      · have e5 : (r == 0) = false := beq_eq_false_iff_ne.mpr hr0
        have hv' : v = .slice none 0 0 := by
          rcases hv with ⟨_, h⟩ | ⟨h, _⟩
          · exact h
          · exact absurd h hr0
        subst hv'
        clear hv hadd hC hbq
        go_wp2_with fail
        go_roundw
        case rel => exact ⟨i + 1, l, A, c, by omega, by go_num, rfl, by omega, hgood.out, hC4, hb4'⟩
        case measure => simp [intOf]; omega
    · have e3 : decide (i < L.length) = false := decide_eq_false hlt
      replace hgood := Lib.hid hgood
      go_wp2_with fail
      go_ret
      exact ⟨A, c, l, rfl, hgood.out, hC, hd3.below hbr, keep_then hkk3 (keep_of_below hbr g), by omega⟩
#print axioms grown_ok
end Go.Proofs.YtpejnnnkamodbaaDoor
