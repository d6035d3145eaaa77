/- The walk of reportescrowlaw12.RewriteLimits: it returns true. -/
import Derived.Test.YtpejnnnkamodbaaDoorWRwB
namespace Go.Proofs.YtpejnnnkamodbaaDoor
open Go Go.RowKit Go.Lib Go.Proofs.YtpejnnnkamodbaaDoorW.PrintWords Go.Proofs.YtpejnnnkamodbaaDoorW.PrintLast
open PCanonEqual (S49 k49 z49 k49_mk k49_mkM k49_open k49_openM)

theorem info49 : (Tryd.prog.info? 49).map (fun i => (i.zero, i.size, i.bytes)) = some (some (.agg #[(.string ⟨#[]⟩), (.string ⟨#[]⟩), (.int .i64 0)]), 3, 40) := by kernel_rfl
def abR : S49 := ⟨⟨#[97, 98]⟩, ⟨#[97]⟩, 0⟩
theorem abR_right : ruleT abR = true := by decide +kernel
def abS (k : Nat) : List UInt8 := 97 :: List.replicate k 98
/-- The text less all letters b. -/
def abC (x : UInt8) (r : List UInt8) : List UInt8 := if x = 97 ∧ r.head? = some 98 then 97 :: r.dropWhile (· == 98) else x :: r
def abN (l : List UInt8) : List UInt8 := l.foldr abC []
theorem drop_98 (v : List UInt8) : (98 :: v).dropWhile (· == 98) = v.dropWhile (· == 98) := by simp [List.dropWhile]
theorem ab_word (k : Nat) : Word (abS k) := ⟨by simp [abS], fun b hb => by
  unfold abS at hb
  rcases List.mem_cons.1 hb with rfl | hb
  · decide
  · rw [List.eq_of_mem_replicate hb]; decide⟩
theorem ab_two (r : List UInt8) : abC 97 r = abC 97 (abC 98 r) := by
  have e : abC 98 r = 98 :: r := by unfold abC; rw [if_neg fun h => absurd h.1 (by decide)]
  rw [e, show abC 97 (98 :: r) = 97 :: (98 :: r).dropWhile (· == 98) from if_pos ⟨rfl, rfl⟩, drop_98]
  unfold abC
  by_cases h : r.head? = some 98
  · rw [if_pos ⟨rfl, h⟩]
  · rw [if_neg (fun h2 => h h2.2)]
    cases r with
    | nil => rfl
    | cons x r =>
      have hx : (x == 98) = false := beq_eq_false_iff_ne.mpr (by rintro rfl; exact h rfl)
      rw [List.dropWhile_cons_of_neg (by rw [hx]; decide)]
theorem ab_step (v u : List UInt8) : abN (u ++ [97] ++ v) = abN (u ++ [97, 98] ++ v) := by
  unfold abN
  simp only [List.foldr_append]
  exact congrArg (fun z => u.foldr abC z) (ab_two (v.foldr abC []))
theorem ab_fix (s : List UInt8) (h : ∀ u v, s ≠ u ++ [97, 98] ++ v) : abN s = s := by
  have hm : ∀ r u, s = u ++ r → abN r = r := by
    intro r
    induction r with
    | nil => intro u _; rfl
    | cons x r ih =>
      intro u hs
      have h1 := ih (u ++ [x]) (by simpa using hs)
      unfold abN at h1 ⊢
      rw [List.foldr_cons, h1]
      unfold abC
      rw [if_neg]
      rintro ⟨rfl, h2⟩
      cases r with
      | nil => cases h2
      | cons y r =>
        simp only [List.head?_cons, Option.some.injEq] at h2
        subst h2
        exact h u r (by rw [hs]; simp)
  exact hm s [] rfl
theorem ab_rep : ∀ k : Nat, abN (List.replicate k 98) = List.replicate k 98
  | 0 => rfl
  | k + 1 => by
    have := ab_rep k
    unfold abN at this ⊢
    rw [List.replicate_succ, List.foldr_cons, this]
    unfold abC
    rw [if_neg (fun h => absurd h.1 (by decide))]
theorem ab_drop : ∀ k : Nat, (List.replicate k (98 : UInt8)).dropWhile (· == 98) = []
  | 0 => rfl
  | k + 1 => by rw [List.replicate_succ, drop_98]; exact ab_drop k
theorem ab_nf (k : Nat) : abN (abS k) = [97] := by
  have h := ab_rep k
  unfold abN abS at *
  rw [List.foldr_cons, h]
  unfold abC
  cases k with
  | zero => rfl
  | succ k =>
    rw [if_pos ⟨rfl, rfl⟩, ab_drop]
theorem abR_all (n : Nat) (r : S49) (hr : r ∈ List.replicate n abR) : r = abR := List.eq_of_mem_replicate hr
theorem ab_reduce (L : List S49) (hL : ∀ r ∈ L, r = abR) (hm : abR ∈ L) (k : Nat) (hk : k + 1 ≤ 256) (q : ByteArray) (hl : q.data.toList = abS k) : reduceT L q = ⟨#[97]⟩ := by
  have hw := ab_word k
  have hf : foldB q = q := by
    refine ByteArray.ext (Array.toList_inj.1 ?_)
    rw [foldB_list, hl, fold_word _ hw]
  have e : reduceT L q = reduceFrom L (meas (foldB q).data.toList + 1) (foldB q) := rfl
  rw [e, hf]
  have h1 : ∀ b ∈ q.data.toList, LS b := by rw [hl]; exact fun b hb => Or.inl (hw.2 b hb)
  have h2 : okN true q.data.toList = true := by
    rw [hl]
    have := okN_word (abS k) true [] hw.1 hw.2
    rw [List.append_nil] at this
    rw [this]
    rfl
  have h3 : q.data.toList.length ≤ 1000 := by rw [hl]; simp [abS]; omega
  have h4 : abN q.data.toList = [97] := by rw [hl, ab_nf]
  have hlt : meas q.data.toList < meas q.data.toList + 1 := Nat.lt_succ_self _
  generalize meas q.data.toList + 1 = m at hlt ⊢
  refine ByteArray.ext (Array.toList_inj.1 ?_)
  rw [reduce_nf L abN (fun r hr => by rw [hL r hr]; exact abR_right) (fun r hr => by rw [hL r hr]; exact ⟨⟨by simp [abR], by simp [abR]; decide⟩, ⟨by simp [abR], by simp [abR]; decide⟩⟩) (fun r hr => by rw [hL r hr]; exact Or.inl rfl) (fun r hr u v _ => by rw [hL r hr]; exact ab_step v u) (fun s hs => ab_fix s fun u v => hs abR hm u v (Or.inl rfl)) m q hlt h1 (Or.inr h2) h3, h4]
theorem limits_apply (n k : Nat) (hn : n = 32 ∨ n = 33) (q : ByteArray) (hl : q.data.toList = abS k) : applyT (List.replicate n abR) q = if n = 33 then (⟨#[]⟩, 1) else if k + 1 ≤ 256 then (⟨#[97]⟩, 0) else (⟨#[]⟩, 3) := by
  have hsz : q.size = k + 1 := by
    have : q.data.toList.length = q.size := by simp
    rw [← this, hl]
    simp [abS]
  have hL := abR_all n
  have hlen : (List.replicate n abR).length = n := List.length_replicate
  have hm : abR ∈ List.replicate n abR := List.mem_replicate.2 ⟨by omega, rfl⟩
  generalize List.replicate n abR = L at hL hlen hm
  unfold applyT
  by_cases h33 : n = 33
  · have hv : ¬ rulesT L = true := fun h => absurd ((rulesT_iff _).1 h).1 (by omega)
    rw [if_neg hv, if_pos h33]
  · have hv : rulesT L = true := (rulesT_iff _).2 ⟨by omega, fun r hr => by rw [hL r hr]; exact abR_right⟩
    rw [if_pos hv, if_neg h33, hsz]
    by_cases h : k + 1 ≤ 256
    · rw [if_pos h, if_pos h, ab_reduce L hL hm k h q hl]
    · rw [if_neg h, if_neg h]
theorem limits_valid (n : Nat) (hn : n = 32 ∨ n = 33) : rulesT (List.replicate n abR) = decide (n = 32) := by
  have hL := abR_all n
  have hlen : (List.replicate n abR).length = n := List.length_replicate
  generalize List.replicate n abR = L at hL hlen
  by_cases h33 : n = 33
  · have hv : ¬ rulesT L = true := fun h => absurd ((rulesT_iff _).1 h).1 (by omega)
    rw [decide_eq_false (show ¬ n = 32 by omega)]
    simpa using hv
  · rw [decide_eq_true (show n = 32 by omega)]
    exact (rulesT_iff _).2 ⟨by omega, fun r hr => by rw [hL r hr]; exact abR_right⟩
theorem rep_snoc {α : Type} (n : Nat) (x : α) : List.replicate n x ++ [x] = List.replicate (n + 1) x := by rw [← List.replicate_succ']
theorem bs_snoc (n : Nat) : (⟨(List.replicate n (98 : UInt8)).toArray⟩ : ByteArray) ++ ⟨#[98]⟩ = ⟨(List.replicate (n + 1) (98 : UInt8)).toArray⟩ := by
  refine ByteArray.ext (Array.toList_inj.1 ?_)
  rw [ByteArray.data_append, Array.toList_append]
  simp [List.replicate_succ']
theorem bs_cut (n : Nat) : ((⟨#[97]⟩ : ByteArray) ++ (⟨(List.replicate (n + 1) (98 : UInt8)).toArray⟩ : ByteArray).extract 1 (n + 1)).data.toList = abS n := by
  rw [ByteArray.data_append, Array.toList_append, ext_list]
  simp [abS]
theorem bs_size (n : Nat) : (⟨(List.replicate n (98 : UInt8)).toArray⟩ : ByteArray).size = n := by
  show (List.replicate n (98 : UInt8)).toArray.size = n
  simp

theorem limits_cases (m j : Nat) (hm : m < 2) (hj : j < 3) (S : ByteArray) (hS : S = ⟨(List.replicate (255 + j) (98 : UInt8)).toArray⟩) : applyT (List.replicate (32 + m) abR) (⟨#[97]⟩ ++ S.extract 1 S.size) = if m = 1 then (⟨#[]⟩, 1) else if j = 2 then (⟨#[]⟩, 3) else (⟨#[97]⟩, 0) := by
  subst hS
  rw [bs_size, show 255 + j = (254 + j) + 1 from by omega, limits_apply (32 + m) (254 + j) (by omega) _ (by rw [bs_cut])]
  by_cases h1 : m = 1
  · rw [if_pos (by omega), if_pos h1]
  · rw [if_neg (by omega), if_neg h1]
    by_cases h2 : j = 2
    · rw [if_neg (by omega), if_pos h2]
    · rw [if_pos (by omega), if_neg h2]
set_option maxHeartbeats 4000000 in
set_option maxRecDepth 100000 in
theorem rewriteLimits_walk (x y : Int) (w : World) (hT : Tabs w) (hx0 : 0 ≤ x) (_hx1 : x ≤ 255) (hy0 : 0 ≤ y) (_hy1 : y ≤ 255) : Calls Tryd.prog 10 #[.int .u8 x, .int .u8 y] w fun e w' => e = .returned (.bool true) ∧ Below w.heap.size w w' := by
  obtain ⟨m, hm⟩ : ∃ m : Nat, Int.tmod x 2 = m := ⟨(Int.tmod x 2).toNat, by have := Int.tmod_nonneg 2 hx0; omega⟩
  have hm2 : m < 2 := by have := Int.tmod_lt_of_pos x (b := 2) (by decide); omega
  obtain ⟨j, hj⟩ : ∃ j : Nat, Int.tmod y 3 = j := ⟨(Int.tmod y 3).toNat, by have := Int.tmod_nonneg 3 hy0; omega⟩
  have hj3 : j < 3 := by have := Int.tmod_lt_of_pos y (b := 3) (by decide); omega
  clear hx0 _hx1 hy0 _hy1
  go_enter Tryd.func10, Tryd.ntmps10
  go_wp2_with fail
  go_loopw [5, 14] (fun v5 v14 wr => ∃ i : Nat, i ≤ 32 + m ∧ v14 = .int .i64 i ∧ Kd.R k49 49 wr w.heap.size (fun _ => True) v5 (List.replicate i abR) ∧ Below w.heap.size w wr) (fun _ v14 _ => 40 - (intOf v14).toNat)
  case atStart => exact ⟨0, by omega, rfl, Kd.R_nil _ _ _ _ _, Below.refl _ _⟩
  case round =>
    obtain ⟨i, hi, rfl, hR, hbr⟩ := hrel
    by_cases hlt : i < 32 + m
    · have e0 : decide (i < 32 + m) = true := decide_eq_true hlt
      have e1 : decide ((i : Int) < 32 + (m : Int)) = true := decide_eq_true (by omega)
      have hll : (List.replicate i abR).length ≤ 40 := by rw [List.length_replicate]; omega
      have hsn : List.replicate i abR ++ [abR] = List.replicate (i + 1) abR := rep_snoc i abR
      generalize List.replicate i abR = l at hR hll hsn
      go_wp2_with (at_builtin; refine Kd.R_append k49 w.heap.size rfl _ _ 47 49 _ 40 rfl Tryd.underlying47 info49 rfl (by decide) (by decide) u5 l abR _ (fun _ => True) (fun _ => False) (by rfl) (by rfl) (k49_mkM _ _ _ _) (fun k h => h.elim) (fun _ _ => trivial) hR hbr hbr.size (by omega) ?_; intro v6 w6 hR6 hb6 hg6 hat6)
      go_roundw
      case rel => exact ⟨i + 1, by omega, by go_num, by rw [← hsn]; exact hR6, hb6⟩
      case measure => simp [intOf]; omega
    · have e0 : decide (i < 32 + m) = false := decide_eq_false hlt
      have e1 : decide ((i : Int) < 32 + (m : Int)) = false := decide_eq_false (by omega)
      obtain rfl : i = 32 + m := by omega
      have hv := limits_valid (32 + m) (by omega)
      have ha := limits_cases m j hm2 hj3
      generalize List.replicate (32 + m) abR = l at hR hv ha
      obtain ⟨A3, c3, rfl, hc3, hC3⟩ := Kd.R_reads hR
      clear hR hi hlt
      replace hC3 := Lib.hid hC3
      replace ha := Lib.hid ha
      replace hv := Lib.hid hv
      clear e0 e1
      go_wp2_with fail
      go_loopw [6, 25] (fun v6 v25 wr2 => ∃ i : Nat, i ≤ 255 + j ∧ v25 = .int .i64 i ∧ (∃ S : ByteArray, v6 = .string S ∧ Aside (S = ⟨(List.replicate i (98 : UInt8)).toArray⟩)) ∧ Below wr.heap.size wr wr2) (fun _ v25 _ => 300 - (intOf v25).toNat)
      case atStart => exact ⟨0, by omega, rfl, ⟨_, rfl, rfl⟩, Below.refl _ _⟩
      case round =>
        obtain ⟨i, hi, rfl, ⟨S, rfl, hS⟩, hbr2⟩ := hrel
        have hsz : S.size = i := by rw [hS.out]; exact bs_size i
        by_cases hlt : i < 255 + j
        · have e0 : decide (i < 255 + j) = true := decide_eq_true hlt
          have e1 : decide ((i : Int) < 255 + (j : Int)) = true := decide_eq_true (by omega)
          go_wp2_with fail
          go_roundw
          case rel => exact ⟨i + 1, by omega, by go_num, ⟨_, rfl, by rw [hS.out]; exact bs_snoc i⟩, hbr2⟩
          case measure => simp [intOf]; omega
        · have e0 : decide (i < 255 + j) = false := decide_eq_false hlt
          have e1 : decide ((i : Int) < 255 + (j : Int)) = false := decide_eq_false (by omega)
          obtain rfl : i = 255 + j := by omega
          have ha2 := ha.out S hS.out
          have hbw := hbr.trans (hbr2.mono hbr.size)
          have ca := apply_ok A3 c3 l (⟨#[97]⟩ ++ S.extract 1 S.size) wr (hT.below hbw hT.six) (Kd.C_below hC3.out hbr2)
          rw [ha2] at ca
          have hS1 : (1 : Int) ≤ (S.size : Int) := by omega
          have hS2 : (S.extract 1 S.size).size ≤ 300 := by rw [ByteArray.size_extract]; omega
          clear ha2 hlt hi e0 e1 ha
          have hsz2 : S.size ≤ 300 := by omega
          have hsz3 : S.size - 1 ≤ 300 := by omega
          replace hsz := Lib.hid hsz
          by_cases h1 : m = 1
          · subst h1
            rw [if_pos rfl] at ca
            replace ca := Lib.hid ca
            go_wp2_with fail
            refine ca.out.mono ?_
            rintro e w4 ⟨rfl, hb4⟩
            have hbq := hbw.trans (hb4.mono hbw.size)
            have cv := rules_valid_ok A3 c3 l w4 (Kd.C_below (Kd.C_below hC3.out hbr2) hb4)
            rw [show rulesT l = false by simpa using hv.out] at cv
            replace cv := Lib.hid cv
            clear ca hv
            go_wp2_with fail
            refine cv.out.mono ?_
            rintro e w5 ⟨rfl, hb5⟩
            have hbq5 := hbq.trans (hb5.mono hbq.size)
            have cw := Lib.hid (awake12_ok w5 (hT.below hbq5 hT.six))
            clear cv
            go_wp2_with fail
            refine cw.out.mono ?_
            rintro e w6 ⟨rfl, hb6⟩
            go_wp2_with fail
            go_ret
            exact ⟨rfl, hbq5.trans (hb6.mono hbq5.size)⟩
          · obtain rfl : m = 0 := by omega
            rw [if_neg (by decide)] at ca
            clear h1
            by_cases h2 : j = 2
            · subst h2
              rw [if_pos rfl] at ca
              replace ca := Lib.hid ca
              go_wp2_with fail
              refine ca.out.mono ?_
              rintro e w4 ⟨rfl, hb4⟩
              have hbq := hbw.trans (hb4.mono hbw.size)
              have cv := rules_valid_ok A3 c3 l w4 (Kd.C_below (Kd.C_below hC3.out hbr2) hb4)
              rw [show rulesT l = true by simpa using hv.out] at cv
              replace cv := Lib.hid cv
              clear ca hv
              go_wp2_with fail
              refine cv.out.mono ?_
              rintro e w5 ⟨rfl, hb5⟩
              have hbq5 := hbq.trans (hb5.mono hbq.size)
              have cw := Lib.hid (awake12_ok w5 (hT.below hbq5 hT.six))
              clear cv
              go_wp2_with fail
              refine cw.out.mono ?_
              rintro e w6 ⟨rfl, hb6⟩
              go_wp2_with fail
              go_ret
              exact ⟨rfl, hbq5.trans (hb6.mono hbq5.size)⟩
            · rw [if_neg h2] at ca
              have e2 : ((j : Int) == 2) = false := beq_eq_false_iff_ne.mpr (by omega)
              replace ca := Lib.hid ca
              clear h2
              go_wp2_with fail
              refine ca.out.mono ?_
              rintro e w4 ⟨rfl, hb4⟩
              have hbq := hbw.trans (hb4.mono hbw.size)
              have cv := rules_valid_ok A3 c3 l w4 (Kd.C_below (Kd.C_below hC3.out hbr2) hb4)
              rw [show rulesT l = true by simpa using hv.out] at cv
              replace cv := Lib.hid cv
              clear ca hv
              go_wp2_with fail
              refine cv.out.mono ?_
              rintro e w5 ⟨rfl, hb5⟩
              have hbq5 := hbq.trans (hb5.mono hbq.size)
              have cw := Lib.hid (awake12_ok w5 (hT.below hbq5 hT.six))
              clear cv
              go_wp2_with fail
              refine cw.out.mono ?_
              rintro e w6 ⟨rfl, hb6⟩
              go_wp2_with fail
              go_ret
              exact ⟨rfl, hbq5.trans (hb6.mono hbq5.size)⟩
#print axioms rewriteLimits_walk
end Go.Proofs.YtpejnnnkamodbaaDoor
