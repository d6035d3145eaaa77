/- The walk of reportescrowlaw11.WordsLetters: for every byte it returns true. -/
import Derived.Test.YtpejnnnkamodbaaDoorWAwake
import Derived.Laws.IdiomStrings
namespace Go.Proofs.YtpejnnnkamodbaaDoor
open Go Go.RowKit

set_option maxRecDepth 100000 in
theorem letters_tab : ∀ i : Fin 256, letterN i.val = (foldT [UInt8.ofNat i.val] == [UInt8.ofNat i.val] && !(i.val == 32)) := by decide +kernel
set_option maxRecDepth 100000 in
theorem letters_head : ∀ i : Fin 256, ((foldT [UInt8.ofNat i.val]).head?.all letB) = true := by decide +kernel
theorem letters_one (b : UInt8) : letterN b.toNat = (foldT [b] == [b] && !(b.toNat == 32)) := by
  have := letters_tab ⟨b.toNat, b.toNat_lt⟩
  simpa using this
theorem letters_first (b x : UInt8) (r : List UInt8) (h : foldT [b] = x :: r) : letB x = true := by
  have := letters_head ⟨b.toNat, b.toNat_lt⟩
  simp [h] at this
  exact this
theorem conv1 (b : UInt8) (w : World) (k : Nat) (h : w.cell? ⟨k, 0, none⟩ = some (.int .u8 (b.toNat : Int))) : (convert 35 9 (.slice (some ⟨k, 0, none⟩) 1 1)).run Tryd.prog w = .ok (.string ⟨#[b]⟩) w := by
  refine run_convert_bytes_back w 35 9 5 ⟨k, 0, none⟩ 1 [b] Tryd.underlying35 Tryd.underlying5 Tryd.underlying9 fun j hj => ?_
  have : j = 0 := by simp at hj; omega
  subst this
  have e : (⟨k, 0, none⟩ : Addr).add 0 = ⟨k, 0, none⟩ := rfl
  rw [e]
  exact h

set_option maxHeartbeats 1000000 in
set_option maxRecDepth 100000 in
theorem wordsLetters_walk (b : UInt8) (w : World) (hT : Tabs w) : Calls Tryd.prog 6 #[.int .u8 b.toNat] w fun e w' => e = .returned (.bool true) ∧ Below w.heap.size w w' := by
  have h6 := hT.six
  have hb255 : b.toNat ≤ 255 := by have := b.toNat_lt; omega
  have h1 := letters_one b
  have h2 := letters_first b
  have cf : ∀ w, Tabs w → Calls Tryd.prog 18 #[.string ⟨#[b]⟩] w fun e w' => e = .returned (.string ⟨(foldT [b]).toArray⟩) ∧ Below w.heap.size w w' := fun w h => foldtext_any ⟨#[b]⟩ w (by show (1 : Nat) ≤ _; omega) h
  have cl := fun w => letter_any b.toNat hb255 w
  generalize foldT [b] = f at h1 h2 cf
  replace cf := Lib.hid cf
  have hcv := conv1 b (w.alloc (.cells #[.int .u8 b.toNat] 5)) w.heap.size (by simp)
  have hTa : Tabs (w.alloc (.cells #[.int .u8 b.toNat] 5)) := hT.below ((Below.refl _ w).alloc (Nat.le_refl _) _) h6
  have hba : Below w.heap.size w (w.alloc (.cells #[.int .u8 b.toNat] 5)) := (Below.refl _ w).alloc (Nat.le_refl _) _
  by_cases hA : f = [b] ∧ b.toNat ≠ 32
  · obtain ⟨rfl, h32⟩ := hA
    have e1 : letterN b.toNat = true := by rw [h1]; simp; omega
    rw [e1] at cl
    clear h1 h2
    replace cl := Lib.hid cl
    have h32' : ((b.toNat : Int) != 32) = true := by simp; omega
    go_enter Tryd.func6, Tryd.ntmps6
    go_wp2_with fail
    refine (cl.out _).mono ?_
    rintro e w0 ⟨rfl, rfl⟩
    go_wp2_with fail
    refine (cf.out _ hTa).mono ?_
    rintro e w1 ⟨rfl, hb1⟩
    have hT1 := hTa.below hb1 hTa.six
    go_wp2_with fail
    refine (cf.out _ hT1).mono ?_
    rintro e w2 ⟨rfl, hb2⟩
    have hT2 := hT1.below hb2 hT1.six
    go_wp2_with fail
    refine (cf.out _ hT2).mono ?_
    rintro e w3 ⟨rfl, hb3⟩
    have hT3 := hT2.below hb3 hT2.six
    go_wp2_with fail
    refine (cl.out _).mono ?_
    rintro e w4 ⟨rfl, rfl⟩
    go_wp2_with fail
    refine (awake_any _ hT3).mono ?_
    rintro e w4 ⟨rfl, hb4⟩
    go_wp2
    go_ret
    exact ⟨rfl, (((hba.trans (hb1.mono hba.size)).trans (hb2.mono (Nat.le_trans hba.size hb1.size))).trans (hb3.mono (Nat.le_trans hba.size (Nat.le_trans hb1.size hb2.size)))).trans (hb4.mono (Nat.le_trans hba.size (Nat.le_trans hb1.size (Nat.le_trans hb2.size hb3.size))))⟩
  · cases f with
    | nil =>
      have e1 : letterN b.toNat = false := by rw [h1]; rfl
      rw [e1] at cl
      clear h1 h2 hA
      replace cl := Lib.hid cl
      go_enter Tryd.func6, Tryd.ntmps6
      go_wp2_with fail
      refine (cl.out _).mono ?_
      rintro e w0 ⟨rfl, rfl⟩
      go_wp2_with fail
      refine (cf.out _ hTa).mono ?_
      rintro e w1 ⟨rfl, hb1⟩
      have hT1 := hTa.below hb1 hTa.six
      go_wp2_with fail
      refine (cf.out _ hT1).mono ?_
      rintro e w2 ⟨rfl, hb2⟩
      have hT2 := hT1.below hb2 hT1.six
      go_wp2_with fail
      refine (awake_any _ hT2).mono ?_
      rintro e w4 ⟨rfl, hb4⟩
      go_wp2
      go_ret
      exact ⟨rfl, ((hba.trans (hb1.mono hba.size)).trans (hb2.mono (Nat.le_trans hba.size hb1.size))).trans (hb4.mono (Nat.le_trans hba.size (Nat.le_trans hb1.size hb2.size)))⟩
    | cons x r =>
      have hx := h2 x r rfl
      have hne : ¬ (x :: r = [b]) := by
        intro e
        apply hA
        refine ⟨e, ?_⟩
        intro h32
        simp only [List.cons.injEq] at e
        rw [e.1] at hx
        unfold letB at hx
        rw [h32] at hx
        exact absurd hx (by decide)
      have hne' : (x :: r == [b]) = false := by simpa using hne
      have e1 : letterN b.toNat = false := by rw [h1, hne']; rfl
      rw [e1] at cl
      clear h1 h2 hA hne
      have clx : ∀ w, Calls Tryd.prog 19 #[.int .u8 x.toNat] w fun e w' => e = .returned (.bool true) ∧ w = w' := fun w => by
        have := letter_any x.toNat (by have := x.toNat_lt; omega) w
        unfold letB at hx
        rw [hx] at this
        exact this
      clear hx
      replace cl := Lib.hid cl
      replace clx := Lib.hid clx
      go_enter Tryd.func6, Tryd.ntmps6
      go_wp2_with fail
      refine (cl.out _).mono ?_
      rintro e w0 ⟨rfl, rfl⟩
      go_wp2_with fail
      refine (cf.out _ hTa).mono ?_
      rintro e w1 ⟨rfl, hb1⟩
      have hT1 := hTa.below hb1 hTa.six
      go_wp2_with fail
      refine (cf.out _ hT1).mono ?_
      rintro e w2 ⟨rfl, hb2⟩
      have hT2 := hT1.below hb2 hT1.six
      go_wp2_with fail
      refine (cf.out _ hT2).mono ?_
      rintro e w3 ⟨rfl, hb3⟩
      have hT3 := hT2.below hb3 hT2.six
      go_wp2_with fail
      refine (clx.out _).mono ?_
      rintro e w4 ⟨rfl, rfl⟩
      go_wp2_with fail
      refine (awake_any _ hT3).mono ?_
      rintro e w4 ⟨rfl, hb4⟩
      go_wp2
      go_ret
      exact ⟨rfl, (((hba.trans (hb1.mono hba.size)).trans (hb2.mono (Nat.le_trans hba.size hb1.size))).trans (hb3.mono (Nat.le_trans hba.size (Nat.le_trans hb1.size hb2.size)))).trans (hb4.mono (Nat.le_trans hba.size (Nat.le_trans hb1.size (Nat.le_trans hb2.size hb3.size))))⟩
#print axioms wordsLetters_walk
end Go.Proofs.YtpejnnnkamodbaaDoor
