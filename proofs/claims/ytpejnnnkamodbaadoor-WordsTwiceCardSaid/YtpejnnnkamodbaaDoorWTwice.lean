/- The walk of reportescrowlaw11.WordsTwice: for every two texts it returns true. -/
import Derived.Test.YtpejnnnkamodbaaDoorWAwake
namespace Go.Proofs.YtpejnnnkamodbaaDoor
open Go Go.RowKit

theorem getElem_join {l u v : List UInt8} {k : Nat} {x : UInt8} (h : l[k]? = some x) (hu : u = l.take k) (hv : v = l.drop (k + 1)) : l = u ++ x :: v := by
  subst hu hv
  obtain ⟨hk, rfl⟩ := List.getElem?_eq_some_iff.1 h
  rw [← List.drop_eq_getElem_cons hk, List.take_append_drop]
/-- A folded text has only letters and single spaces, said of places. -/
theorem fold_places (l : List UInt8) (S : ByteArray) (hS : S = ⟨(foldT l).toArray⟩) (k : Nat) (h : k < S.size) :
    (S[k].toNat = 32 → ∃ j, k = j + 1 ∧ k + 1 < S.size ∧ ∃ hj : j < S.size, S[j].toNat ≠ 32) ∧ (S[k].toNat ≠ 32 → letterN S[k].toNat = true) := by
  subst hS
  have hsz : (⟨(foldT l).toArray⟩ : ByteArray).size = (foldT l).length := by show (foldT l).toArray.size = _; simp
  have hk : k < (foldT l).length := by omega
  have e : (⟨(foldT l).toArray⟩ : ByteArray)[k] = (foldT l)[k] := by show (foldT l).toArray[k] = _; simp
  constructor
  · intro h32
    rw [e] at h32
    have hx : (foldT l)[k] = 32 := UInt8.toNat_inj.1 (by rw [h32]; rfl)
    obtain ⟨h1, h2, h3⟩ := join_spaces (splitT l) (split_words l) ((foldT l).take k) ((foldT l).drop (k + 1)) (getElem_join (l := foldT l) (x := 32) (by rw [List.getElem?_eq_getElem hk, hx]) rfl rfl)
    have hk0 : k ≠ 0 := by rintro rfl; simp at h1
    have hk1 : k + 1 < (foldT l).length := by
      rcases Nat.lt_or_ge (k + 1) (foldT l).length with h | h
      · exact h
      · exact absurd (List.drop_of_length_le h) h2
    refine ⟨k - 1, by omega, by omega, by omega, ?_⟩
    have e2 : (⟨(foldT l).toArray⟩ : ByteArray)[k - 1]'(by omega) = (foldT l)[k - 1]'(by omega) := by show (foldT l).toArray[k - 1]'(by simp; omega) = _; simp
    rw [e2]
    intro h4
    apply h3
    rw [List.getLast?_eq_getElem?, List.length_take, Nat.min_eq_left (by omega), List.getElem?_take, if_pos (by omega), List.getElem?_eq_getElem (by omega)]
    exact congrArg some (UInt8.toNat_inj.1 (by rw [h4]; rfl))
  · intro h32
    rw [e] at h32 ⊢
    rcases fold_LS l (foldT l)[k] (List.getElem_mem hk) with h | h
    · exact h
    · exact absurd (by rw [h]; rfl) h32

set_option maxHeartbeats 2000000 in
set_option maxRecDepth 100000 in
theorem wordsTwice_walk (s b : ByteArray) (w : World) (hT : Tabs w) (hs : s.size ≤ 140737488351232) (hb : b.size ≤ 140737488351232) : Calls Tryd.prog 3 #[.string s, .string b] w fun e w' => e = .returned (.bool true) ∧ Below w.heap.size w w' := by
  by_cases h4 : 400 < s.size + b.size
  · have h4' : (400 : Int) < (s.size : Int) + (b.size : Int) := by omega
    have ca := Lib.hid (awake_any w hT)
    go_enter Tryd.func3, Tryd.ntmps3
    go_wp2_with (go_at_call 17; refine ca.out.mono ?_; rintro e w1 ⟨rfl, hb1⟩)
    go_ret
    exact ⟨rfl, hb1⟩
  · have h4' : ¬ (400 : Int) < (s.size : Int) + (b.size : Int) := by omega
    have hts : (b ++ s).size ≤ 1000000000 := by rw [ByteArray.size_append]; omega
    have hpl := fold_places (b ++ s).data.toList _ rfl
    have cf := foldtext_any (b ++ s) w hts hT
    have cs := fun w h => split_any (b ++ s) w hts h
    have hfl := fold_len (b ++ s).data.toList
    have hll : (b ++ s).data.toList.length = b.size + s.size := by rw [← ByteArray.size_append]; simp
    have cg := fun w h => foldtext_any ⟨(foldT (b ++ s).data.toList).toArray⟩ w (by show (foldT (b ++ s).data.toList).toArray.size ≤ _; simp only [List.size_toArray]; omega) h
    have cp := fun w h => plaintext_any ⟨(foldT (b ++ s).data.toList).toArray⟩ w (by show (foldT (b ++ s).data.toList).toArray.size ≤ _; simp only [List.size_toArray]; omega) h
    have e1 : foldT (⟨(foldT (b ++ s).data.toList).toArray⟩ : ByteArray).data.toList = foldT (b ++ s).data.toList := by
      show foldT (foldT (b ++ s).data.toList).toArray.toList = _
      rw [List.toList_toArray, fold_fold]
    have e2 : plainT (⟨(foldT (b ++ s).data.toList).toArray⟩ : ByteArray).data.toList = true := by
      show plainT (foldT (b ++ s).data.toList).toArray.toList = _
      rw [List.toList_toArray]
      unfold plainT
      rw [fold_fold]
      simp
    rw [e1] at cg
    rw [e2] at cp
    have cj := fun A w1 h => join_row (b ++ s).data.toList A w1 (by omega) h
    have hSz : (⟨(foldT (b ++ s).data.toList).toArray⟩ : ByteArray).size ≤ 1000 := by show (foldT (b ++ s).data.toList).toArray.size ≤ _; simp only [List.size_toArray]; omega
    generalize hS : (⟨(foldT (b ++ s).data.toList).toArray⟩ : ByteArray) = S at *
    clear hS e1 e2 hfl hll hts
    replace cf := Lib.hid cf
    replace cs := Lib.hid cs
    replace cg := Lib.hid cg
    replace cp := Lib.hid cp
    replace cj := Lib.hid cj
    go_enter Tryd.func3, Tryd.ntmps3
    go_wp2_with fail
    refine cf.out.mono ?_
    rintro e w1 ⟨rfl, hb1⟩
    have hT1 := hT.below hb1 hT.six
    go_wp2_with fail
    go_loop [20] (fun v => ∃ k : Nat, k ≤ S.size ∧ v = .int .i64 k) (fun v => S.size - (intOf v).toNat)
    case atStart => exact ⟨0, Nat.zero_le _, rfl⟩
    case round =>
      obtain ⟨k, hk, rfl⟩ := hrel
      by_cases hlt : k < S.size
      · obtain ⟨hp1, hp2⟩ := hpl k hlt
        have hlb := S[k].toNat_lt
        have cl := letter_any S[k].toNat (by omega)
        by_cases h32 : S[k].toNat = 32
        · obtain ⟨j, rfl, hj1, hj, hj2⟩ := hp1 h32
          clear hp1 hp2 cl
          have hlb2 := S[j].toNat_lt
          have t1 : ((S[j + 1].toNat : Int) == 32) = true := by simp; omega
          have t2 : ((S[j].toNat : Int) == 32) = false := by simp; omega
          have t3 : ((S[j + 1].toNat : Int) != 32) = false := by simp; omega
          have t4 : ((j : Int) + 1 == 0) = false := by simp; omega
          have t5 : ((j : Int) + 1 == (S.size : Int) - 1) = false := by simp; omega
          clear h32
          go_wp2
          go_round
          case rel => exact ⟨j + 1 + 1, by omega, by go_num⟩
          case measure => simp [intOf]; omega
        · have t1 : ((S[k].toNat : Int) == 32) = false := by simp; omega
          have t3 : ((S[k].toNat : Int) != 32) = true := by simp; omega
          rw [hp2 h32] at cl
          replace cl := Lib.hid cl
          clear hp1 hp2
          go_wp2_with (go_at_call 19; refine (cl.out _).mono ?_; rintro e w2 ⟨rfl, rfl⟩)
          go_round
          case rel => exact ⟨k + 1, by omega, by go_num⟩
          case measure => simp [intOf]; omega
      · clear hpl
        have hA1 : w.heap.size ≤ w1.heap.size := hb1.size
        go_wp2_with fail
        refine (cg.out _ hT1).mono ?_
        rintro e w2 ⟨rfl, hb2⟩
        have hT2 := hT1.below hb2 hT1.six
        go_wp2_with fail
        refine (cp.out _ hT2).mono ?_
        rintro e w3 ⟨rfl, hb3⟩
        have hT3 := hT2.below hb3 hT2.six
        go_wp2_with fail
        refine (cs.out _ hT3).mono ?_
        rintro e w4 ⟨A, rfl, hA, hrow, hb4⟩
        have hT4 := hT3.below hb4 hT3.six
        go_wp2_with fail
        refine (cj.out A w4 hrow).mono ?_
        rintro e w5 ⟨rfl, hb5⟩
        have hT5 := hT4.below hb5 hT4.six
        go_wp2_with fail
        refine (awake_any _ hT5).mono ?_
        rintro e w6 ⟨rfl, hb6⟩
        go_wp2
        go_ret
        have c2 := hb1.trans (hb2.mono hb1.size)
        have c3 := c2.trans (hb3.mono c2.size)
        have c4 := c3.trans (hb4.mono c3.size)
        have c5 := c4.trans (hb5.mono c4.size)
        exact ⟨rfl, c5.trans (hb6.mono c5.size)⟩
#print axioms wordsTwice_walk
end Go.Proofs.YtpejnnnkamodbaaDoor
