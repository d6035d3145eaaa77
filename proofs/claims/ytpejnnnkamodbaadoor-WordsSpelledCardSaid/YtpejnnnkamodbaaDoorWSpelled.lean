/- The walk of reportescrowlaw11.WordsSpelled: whatever the dice, it returns true. -/
import Derived.Test.YtpejnnnkamodbaaDoorWDice
import Derived.Test.YtpejnnnkamodbaaDoorWParts
namespace Go.Proofs.YtpejnnnkamodbaaDoor
open Go Go.RowKit Go.Lib Go.Proofs.YtpejnnnkamodbaaDoorW.PrintWords

/-- The pieces, and the same ones spelled otherwise. -/
def pieceA (k : Nat) : List UInt8 := match k with | 0 => [97] | 1 => [101] | 2 => [90] | 3 => [195, 164] | 4 => [195, 137] | 5 => [195, 167] | 6 => [32] | _ => [120]
def pieceB (k : Nat) : List UInt8 := match k with | 0 => [65] | 1 => [195, 169] | 2 => [122] | 3 => [97, 101] | 4 => [101] | 5 => [67] | 6 => [32, 32] | _ => [88]
def rawA (k : Nat) : List UInt8 := match k with | 0 => [97] | 1 => [101] | 2 => [122] | 3 => [97, 101] | 4 => [101] | 5 => [99] | 6 => [32] | _ => [120]
def rawB (k : Nat) : List UInt8 := match k with | 6 => [32, 32] | k => rawA k
theorem raw_two (b c : UInt8) (t : List UInt8) (h : ∀ n ≥ 2, decodeN n b.toNat c.toNat (t.getD 0 0).toNat (t.getD 1 0).toNat = (b.toNat % 32 * 64 + c.toNat % 64, 2)) :
    raw (b :: c :: t) = foldR (b.toNat % 32 * 64 + c.toNat % 64) ++ raw t := by
  have e : decodeL (b :: c :: t) = (b.toNat % 32 * 64 + c.toNat % 64, 2) := by
    rw [decodeL_N]
    exact h _ (by simp)
  rw [raw_cons _ (by simp), e]
  unfold piece
  rw [e, if_neg (by simp)]
  rfl
theorem raw_195 (c : UInt8) (t : List UInt8) (h1 : c.toNat / 64 = 2) : raw (195 :: c :: t) = foldR (192 + c.toNat % 64) ++ raw t :=
  raw_two 195 c t (fun n hn => by
    unfold decodeN
    rw [if_neg (by decide), if_pos ⟨by decide, by omega, h1⟩, if_pos (by show (195 : Nat) % 32 * 64 + _ ≥ 128; omega)])
theorem raw_pieceA (k : Nat) (t : List UInt8) : raw (pieceA k ++ t) = rawA k ++ raw t := by
  rcases k with _ | _ | _ | _ | _ | _ | _ | k <;> simp only [pieceA, rawA, List.cons_append, List.nil_append] <;>
    first
    | (rw [raw_195 _ _ (by decide)]; rfl)
    | (rw [raw_ascii _ _ (by decide)]; rfl)
theorem raw_pieceB (k : Nat) (t : List UInt8) : raw (pieceB k ++ t) = rawB k ++ raw t := by
  rcases k with _ | _ | _ | _ | _ | _ | _ | k <;> simp only [pieceB, rawB, rawA, List.cons_append, List.nil_append] <;>
    first
    | (rw [raw_195 _ _ (by decide)]; rfl)
    | (rw [raw_ascii _ _ (by decide), raw_ascii _ _ (by decide)]; rfl)
    | (rw [raw_ascii _ _ (by decide)]; rfl)
theorem fields_rawAB : ∀ (ks : List Nat) (cur : List UInt8), fieldsGo cur (raw (ks.flatMap pieceA)) = fieldsGo cur (raw (ks.flatMap pieceB))
  | [], cur => rfl
  | k :: ks, cur => by
    have ih := fields_rawAB ks
    rw [List.flatMap_cons, List.flatMap_cons, raw_pieceA, raw_pieceB]
    rcases k with _ | _ | _ | _ | _ | _ | _ | k <;> simp only [rawA, rawB, List.cons_append, List.nil_append, fieldsGo, isSp_32, if_true, ih, List.isEmpty_nil] <;> rfl
theorem fold_AB (ks : List Nat) : foldT (ks.flatMap pieceA) = foldT (ks.flatMap pieceB) := by
  unfold foldT splitT fields
  rw [fields_rawAB]
set_option maxHeartbeats 2000000 in
set_option maxRecDepth 100000 in
theorem wordsSpelled_walk (A : Option Addr) (c : Nat) (l : List Int) (w : World) (hT : Tabs w) (hr : Kd.C (Kd.int .i64) w A l.length l) (hc : l.length ≤ c) :
    Calls Tryd.prog 5 #[.slice A l.length c] w fun e w' => e = .returned (.bool true) ∧ Below w.heap.size w w' := by
  have cl := Lib.hid (light_any A c l w hr hc)
  by_cases hl : l.length ≤ 500
  · have e0 : decide ((l.length : Int) ≤ 500) = true := decide_eq_true (by omega)
    rw [e0] at cl
    have cr := Lib.hid (fun w1 hB => roll_any A c l w w1 hB hr hc hl)
    replace hr := Lib.hid hr
    clear hl e0
    replace hc := Lib.hid hc
    go_enter Tryd.func5, Tryd.ntmps5
    go_wp2_with fail
    refine cl.out.mono ?_
    rintro e w1 ⟨rfl, ⟨n1, rfl⟩⟩
    go_wp2_with fail
    refine (cr.out _ (pw_below_drewN (Below.refl _ _) _)).mono ?_
    rintro e w2 ⟨g, rfl, hd2, hb2⟩
    go_wp2_with fail
    refine (next_any w g 10 w2 hd2 (by decide) (by decide)).mono ?_
    rintro e w3 ⟨K, hK, rfl, hd3, hk3⟩
    go_wp2_with fail
    clear hd2 hb2 hk3 cl cr
    go_loopw [4, 5, 15] (fun v4 v5 v15 wr => ∃ ks : List Nat, (ks.length : Int) ≤ K ∧ v15 = .int .i64 ks.length ∧ v4 = .string ⟨(ks.flatMap pieceA).toArray⟩ ∧ v5 = .string ⟨(ks.flatMap pieceB).toArray⟩ ∧ (ks.flatMap pieceA).length ≤ 2 * ks.length ∧ (ks.flatMap pieceB).length ≤ 2 * ks.length ∧ DiceOk w wr g) (fun _ _ v15 _ => K - (intOf v15).toNat)
    case atStart => exact ⟨[], by simp, rfl, rfl, rfl, by simp, by simp, hd3⟩
    case round =>
      obtain ⟨ks, hks, rfl, rfl, rfl, hla, hlb, hdr⟩ := hrel
      by_cases hlt : (ks.length : Int) < K
      · have e1 : decide (ks.length < K) = true := decide_eq_true (by omega)
        replace hla := Lib.hid hla
        replace hlb := Lib.hid hlb
        go_wp2_with fail
        refine (next_any w g 8 wr hdr (by decide) (by decide)).mono ?_
        rintro e w4 ⟨k, hk, rfl, hd4, hk4⟩
        have hk8 : k < 8 := by omega
        clear hdr hk4
        generalize hA : pieceA k = pA
        have e2 : ((ks ++ [k]).flatMap pieceA) = ks.flatMap pieceA ++ pA := by simp [hA]
        generalize hB : pieceB k = pB
        have e3 : ((ks ++ [k]).flatMap pieceB) = ks.flatMap pieceB ++ pB := by simp [hB]
        have e4 : (ks ++ [k]).length = ks.length + 1 := by simp
        generalize ks.flatMap pieceA = LA at hla e2
        generalize ks.flatMap pieceB = LB at hlb e3
        replace e2 := Lib.hid e2
        replace e3 := Lib.hid e3
        replace e4 := Lib.hid e4
        have hLA := hla.out
        have hLB := hlb.out
        have nA1 : (9223372036854775807 < LA.length + 1) = False := by simp; omega
        have nA2 : (9223372036854775807 < LA.length + 2) = False := by simp; omega
        have nB1 : (9223372036854775807 < LB.length + 1) = False := by simp; omega
        have nB2 : (9223372036854775807 < LB.length + 2) = False := by simp; omega
        have hks' : (ks.length : Int) + 1 ≤ 10 := by omega
        replace hlt := Lib.hid hlt
        clear hLA hLB hks
        rcases k with _ | _ | _ | _ | _ | _ | _ | _ | k
        all_goals first
          | (exfalso; omega)
          | (subst hA hB
             clear hk hk8
             go_wp2_with fail
             go_roundw
             case rel =>
               refine ⟨_, ?_, by rw [e4.out]; go_num, by rw [e2.out]; exact congrArg Value.string (ByteArray.ext (by simp [pieceA])), by rw [e3.out]; exact congrArg Value.string (ByteArray.ext (by simp [pieceB])), ?_, ?_, (hd4.alloc _).alloc _⟩
               · have := hlt.out
                 rw [e4.out]
                 omega
               · have := hla.out
                 rw [e2.out, e4.out, List.length_append]
                 simp only [pieceA, List.length_cons, List.length_nil]
                 omega
               · have := hlb.out
                 rw [e3.out, e4.out, List.length_append]
                 simp only [pieceB, List.length_cons, List.length_nil]
                 omega
             case measure =>
               have := hlt.out
               simp [intOf]
               omega)
      · have e1 : decide (ks.length < K) = false := decide_eq_false (by omega)
        have hs1 : (⟨(ks.flatMap pieceA).toArray⟩ : ByteArray).size ≤ 1000000000 := by show (ks.flatMap pieceA).toArray.size ≤ _; rw [List.size_toArray]; omega
        have hs2 : (⟨(ks.flatMap pieceB).toArray⟩ : ByteArray).size ≤ 1000000000 := by show (ks.flatMap pieceB).toArray.size ≤ _; rw [List.size_toArray]; omega
        have hbr := hdr.low
        have c1 := foldtext_any ⟨(ks.flatMap pieceA).toArray⟩ wr hs1 (hT.below hbr hT.six)
        have c2 := fun w h => foldtext_any ⟨(ks.flatMap pieceB).toArray⟩ w hs2 h
        rw [show (⟨(ks.flatMap pieceA).toArray⟩ : ByteArray).data.toList = ks.flatMap pieceA from by simp, fold_AB] at c1
        rw [show (⟨(ks.flatMap pieceB).toArray⟩ : ByteArray).data.toList = ks.flatMap pieceB from by simp] at c2
        generalize foldT (ks.flatMap pieceB) = R at c1 c2
        clear hla hlb hks hs1 hs2 hlt hdr
        generalize ks.flatMap pieceA = LA at c1
        generalize ks.flatMap pieceB = LB at c2
        replace c1 := Lib.hid c1
        replace c2 := Lib.hid c2
        go_wp2_with fail
        refine c1.out.mono ?_
        rintro e w4 ⟨rfl, hb4⟩
        have hb4' := hbr.trans (hb4.mono hbr.size)
        go_wp2_with fail
        refine (c2.out w4 (hT.below hb4' hT.six)).mono ?_
        rintro e w5 ⟨rfl, hb5⟩
        have hb5' := hb4'.trans (hb5.mono hb4'.size)
        have ca := Lib.hid (awake_any w5 (hT.below hb5' hT.six))
        go_wp2_with fail
        refine ca.out.mono ?_
        rintro e w6 ⟨rfl, hb6⟩
        go_wp2_with fail
        go_ret
        exact ⟨rfl, hb5'.trans (hb6.mono hb5'.size)⟩
  · have e0 : decide ((l.length : Int) ≤ 500) = false := decide_eq_false (by omega)
    rw [e0] at cl
    have ca := Lib.hid (fun w1 hB => awake_any w1 hB)
    replace hr := Lib.hid hr
    clear hl e0
    replace hc := Lib.hid hc
    go_enter Tryd.func5, Tryd.ntmps5
    go_wp2_with fail
    refine cl.out.mono ?_
    rintro e w1 ⟨rfl, ⟨n1, rfl⟩⟩
    go_wp2_with fail
    have hb := pw_below_drewN (Below.refl w.heap.size w) n1
    refine (ca.out _ (hT.below hb hT.six)).mono ?_
    rintro e w2 ⟨rfl, hb1⟩
    go_wp2_with fail
    go_ret
    exact ⟨rfl, hb.trans (hb1.mono (Nat.le_refl _))⟩
end Go.Proofs.YtpejnnnkamodbaaDoor
