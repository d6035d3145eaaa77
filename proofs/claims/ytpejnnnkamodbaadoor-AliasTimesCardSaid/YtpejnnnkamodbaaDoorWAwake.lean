/- The sanity check of the statements of layer 11: it holds. -/
import Derived.Test.YtpejnnnkamodbaaDoorWText
namespace Go.Proofs.YtpejnnnkamodbaaDoor
open Go Go.RowKit

theorem aw1 : foldT [79, 39, 66, 114, 105, 101, 110, 45, 77, 195, 188, 108, 108, 101, 114] = [111, 98, 114, 105, 101, 110, 32, 109, 117, 101, 108, 108, 101, 114] := by decide +kernel
theorem aw2 : plainT [97, 32, 98] = true := by decide +kernel
theorem aw3 : plainT [65] = false := by decide +kernel
theorem awf (w : World) (hT : Tabs w) : Calls Tryd.prog 18 #[.string ⟨#[79, 39, 66, 114, 105, 101, 110, 45, 77, 195, 188, 108, 108, 101, 114]⟩] w fun e w' => e = .returned (.string ⟨#[111, 98, 114, 105, 101, 110, 32, 109, 117, 101, 108, 108, 101, 114]⟩) ∧ Below w.heap.size w w' := by
  have := foldtext_any ⟨#[79, 39, 66, 114, 105, 101, 110, 45, 77, 195, 188, 108, 108, 101, 114]⟩ w (by decide) hT
  rw [show (⟨#[79, 39, 66, 114, 105, 101, 110, 45, 77, 195, 188, 108, 108, 101, 114]⟩ : ByteArray).data.toList = [79, 39, 66, 114, 105, 101, 110, 45, 77, 195, 188, 108, 108, 101, 114] from rfl, aw1] at this
  exact this
theorem awp (w : World) (hT : Tabs w) : Calls Tryd.prog 20 #[.string ⟨#[97, 32, 98]⟩] w fun e w' => e = .returned (.bool true) ∧ Below w.heap.size w w' := by
  have := plaintext_any ⟨#[97, 32, 98]⟩ w (by decide) hT
  rw [show (⟨#[97, 32, 98]⟩ : ByteArray).data.toList = [97, 32, 98] from rfl, aw2] at this
  exact this
theorem awq (w : World) (hT : Tabs w) : Calls Tryd.prog 20 #[.string ⟨#[65]⟩] w fun e w' => e = .returned (.bool false) ∧ Below w.heap.size w w' := by
  have := plaintext_any ⟨#[65]⟩ w (by decide) hT
  rw [show (⟨#[65]⟩ : ByteArray).data.toList = [65] from rfl, aw3] at this
  exact this
set_option maxHeartbeats 1000000 in
set_option maxRecDepth 100000 in
theorem awake_any (w : World) (hT : Tabs w) : Calls Tryd.prog 17 #[] w fun e w' => e = .returned (.bool true) ∧ Below w.heap.size w w' := by
  have h6 := hT.six
  go_enter Tryd.func17, Tryd.ntmps17
  go_wp2_with fail
  refine (awf _ hT).mono ?_
  rintro e w1 ⟨rfl, hb1⟩
  have hT1 := hT.below hb1 h6
  go_wp2_with fail
  refine (awp _ hT1).mono ?_
  rintro e w2 ⟨rfl, hb2⟩
  have hT2 := hT1.below hb2 hT1.six
  go_wp2_with fail
  refine (awq _ hT2).mono ?_
  rintro e w3 ⟨rfl, hb3⟩
  have hT3 := hT2.below hb3 hT2.six
  go_wp2_with fail
  refine (letter_any 97 (by omega) _).mono ?_
  rintro e w4 ⟨rfl, rfl⟩
  go_wp2_with fail
  refine (letter_any 32 (by omega) _).mono ?_
  rintro e w4 ⟨rfl, rfl⟩
  go_wp2
  go_ret
  exact ⟨rfl, (hb1.trans (hb2.mono hb1.size)).trans (hb3.mono (Nat.le_trans hb1.size hb2.size))⟩
#print axioms awake_any
end Go.Proofs.YtpejnnnkamodbaaDoor
