/- The dice of the kit: what a draw gives is some number below the bound; which one is left open. -/
import Derived.Test.YtpejnnnkamodbaaDoorPCanonEqualx1
import Derived.Test.YtpejnnnkamodbaaDoorWAwake
namespace Go.Proofs.YtpejnnnkamodbaaDoor
open Go Go.RowKit Go.Proofs.YtpejnnnkamodbaaDoorW.PrintWords
open PCanonEqual (IsS80)

/-- Dice at block g; what they read, and all that was there in w0, is as it was in w0. -/
def DiceOk (w0 w : World) (g : Nat) : Prop := ∃ (l : List Int) (at' : Nat), l.length ≤ 500 ∧ at' ≤ l.length ∧ IsS80 w0 w g l at' ∧ Below w0.heap.size w0 w
theorem DiceOk.low {w0 w : World} {g : Nat} (h : DiceOk w0 w g) : Below w0.heap.size w0 w := by
  obtain ⟨l, at', h1, h2, h3, h4⟩ := h
  exact h4
theorem DiceOk.lt {w0 w : World} {g : Nat} (h : DiceOk w0 w g) : g < w.heap.size := by
  obtain ⟨l, at', h1, h2, h3, h4⟩ := h
  exact h3.lt
theorem DiceOk.ge {w0 w : World} {g : Nat} (h : DiceOk w0 w g) : w0.heap.size ≤ g := by
  obtain ⟨l, at', h1, h2, h3, h4⟩ := h
  exact h3.ge
theorem DiceOk.grown {w0 w w' : World} {g : Nat} {row : Option Nat} (h : DiceOk w0 w g) (hg : w.grownBy w' row) (hne : some g ≠ row) (hlow : ∀ k, row = some k → w0.heap.size ≤ k) : DiceOk w0 w' g := by
  obtain ⟨l, at', h1, h2, h3, h4⟩ := h
  exact ⟨l, at', h1, h2, h3.grown hg hne, h4.grown hg h4.size hlow⟩
theorem DiceOk.below {w0 w w' : World} {g : Nat} (h : DiceOk w0 w g) (hb : Below w.heap.size w w') : DiceOk w0 w' g := by
  obtain ⟨l, at', h1, h2, h3, h4⟩ := h
  exact ⟨l, at', h1, h2, h3.below hb, h4.trans (hb.mono h4.size)⟩
theorem DiceOk.alloc {w0 w : World} {g : Nat} (h : DiceOk w0 w g) (o : Obj) : DiceOk w0 (w.alloc o) g := h.below ((Below.refl _ _).alloc (Nat.le_refl _) o)
theorem DiceOk.drewN {w0 w : World} {g : Nat} (h : DiceOk w0 w g) (n : Nat) : DiceOk w0 (w.drewN n) g := by
  obtain ⟨l, at', h1, h2, h3, h4⟩ := h
  exact ⟨l, at', h1, h2, h3.drewN n, pw_below_drewN h4 n⟩

theorem light_any (A : Option Addr) (c : Nat) (l : List Int) (w : World) (h : Kd.C (Kd.int .i64) w A l.length l) (hc : l.length ≤ c) :
    Calls Tryd.prog 23 #[.slice A l.length c] w fun e w' => e = .returned (.bool (decide ((l.length : Int) ≤ 500))) ∧ Drawn0 w w' :=
  PCanonEqual.reportescrowkit_Light.calls A c l _ w h hc rfl
theorem roll_any (A : Option Addr) (c : Nat) (l : List Int) (w0 w : World) (hB : Below w0.heap.size w0 w) (h : Kd.C (Kd.int .i64) w0 A l.length l) (hc : l.length ≤ c) (hl : l.length ≤ 500) :
    Calls Tryd.prog 24 #[.slice A l.length c] w fun e w' => ∃ g, e = .returned (.pointer (some ⟨g, 0, none⟩)) ∧ DiceOk w0 w' g ∧ Below w.heap.size w w' :=
  (PCanonEqual.reportescrowkit_Roll.calls A c l _ _ w0 w hB h hc rfl).mono fun _ _ ⟨g, he, hI, hb, hb'⟩ => ⟨g, he, ⟨l, 0, hl, Nat.zero_le _, hI, hb⟩, hb'⟩
theorem mod_range (x m : Int) (hm : 1 ≤ m) (hm2 : m ≤ 1000000) : 0 ≤ Int.tmod (wrap64 (Int.tmod x m + m)) m ∧ Int.tmod (wrap64 (Int.tmod x m + m)) m < m := by
  have h1 : -m < Int.tmod x m := by
    have h := Int.tmod_lt_of_pos (-x) (b := m) (by omega)
    rw [Int.neg_tmod] at h
    omega
  have h2 : Int.tmod x m < m := Int.tmod_lt_of_pos x (by omega)
  have h3 : wrap64 (Int.tmod x m + m) = Int.tmod x m + m := by
    unfold wrap64
    omega
  rw [h3]
  exact ⟨Int.tmod_nonneg _ (by omega), Int.tmod_lt_of_pos _ (by omega)⟩
/-- What Next computes: some number below n, and the place moves on by at most one. -/
theorem next_f (l : List Int) (at' : Nat) (n : Int) (hl : l.length ≤ 500) (ha : at' ≤ l.length) (hn : 1 ≤ n) (hn2 : n ≤ 1000000) :
    ∃ k at2 : Nat, (k : Int) < n ∧ at2 ≤ l.length ∧ PCanonEqual.reportescrowkit_Dice_Next.f l at' n = some ((k : Int), (at2 : Int)) := by
  unfold PCanonEqual.reportescrowkit_Dice_Next.f PCanonEqual.reportescrowkit_Mod.f
  by_cases h : (at' : Int) ≥ (l.length : Int)
  · rw [if_pos h]
    exact ⟨0, at', by omega, ha, rfl⟩
  · rw [if_neg h]
    have e1 : wrap64 ((at' : Int) + 1) = ((at' + 1 : Nat) : Int) := by unfold wrap64; omega
    have e2 : wrap64 (((at' + 1 : Nat) : Int) - 1) = (at' : Int) := by unfold wrap64; omega
    rw [e1, e2, if_pos (by omega), if_pos (by omega), if_neg (by omega), if_neg (by omega)]
    have hr := mod_range (rd l at') n hn hn2
    refine ⟨(Int.tmod (wrap64 (Int.tmod (rd l at') n + n)) n).toNat, at' + 1, by omega, by omega, ?_⟩
    rw [Int.toNat_of_nonneg hr.1]
    rfl
theorem next_any (w0 : World) (g : Nat) (n : Int) (w : World) (h : DiceOk w0 w g) (hn : 1 ≤ n) (hn2 : n ≤ 1000000) :
    Calls Tryd.prog 25 #[.pointer (some ⟨g, 0, none⟩), .int .i64 n] w fun e w' => ∃ k : Nat, (k : Int) < n ∧ e = .returned (.int .i64 k) ∧ DiceOk w0 w' g ∧ KeepBut w w' g none := by
  obtain ⟨l, at', h1, h2, h3, h4⟩ := h
  obtain ⟨k, at2, e1, e2, e3⟩ := next_f l at' n h1 h2 hn hn2
  exact (PCanonEqual.reportescrowkit_Dice_Next.calls g l at' n k at2 w0 w h3 h4 e3).mono fun _ _ ⟨he, hI, hb, hk⟩ => ⟨k, e1, he, ⟨l, at2, h1, e2, hI, hb⟩, hk⟩
theorem word_f (l : List Int) (at' : Nat) (ss : List ByteArray) (hl : l.length ≤ 500) (ha : at' ≤ l.length) (hn : 1 ≤ ss.length) (hn2 : ss.length ≤ 1000) :
    ∃ s ∈ ss, ∃ at2 : Nat, at2 ≤ l.length ∧ PCanonEqual.reportescrowkit_Dice_Word.f l at' ss = some (s, (at2 : Int)) := by
  obtain ⟨k, at2, e1, e2, e3⟩ := next_f l at' ss.length hl ha (by omega) (by omega)
  unfold PCanonEqual.reportescrowkit_Dice_Word.f
  rw [e3]
  have hk : k < ss.length := by omega
  refine ⟨ss[k], List.getElem_mem hk, at2, e2, ?_⟩
  rw [Option.bind_some]
  simp only []
  rw [if_pos (by omega), if_pos (by simpa using hk)]
  simp [rdOf, List.getD, hk]
theorem word_any (w0 : World) (g : Nat) (A : Option Addr) (c : Nat) (ss : List ByteArray) (w : World) (h : DiceOk w0 w g) (hr : Kd.C Kd.string w A ss.length ss) (hc : ss.length ≤ c) (hf : ∀ ad, A = some ad → ad.block ≠ g) (hn : 1 ≤ ss.length) (hn2 : ss.length ≤ 1000) :
    Calls Tryd.prog 30 #[.pointer (some ⟨g, 0, none⟩), .slice A ss.length c] w fun e w' => ∃ s ∈ ss, e = .returned (.string s) ∧ DiceOk w0 w' g ∧ KeepBut w w' g none := by
  obtain ⟨l, at', h1, h2, h3, h4⟩ := h
  obtain ⟨s, hs, at2, e2, e3⟩ := word_f l at' ss h1 h2 hn hn2
  exact (PCanonEqual.reportescrowkit_Dice_Word.calls g l at' A c ss s at2 w0 w h3 h4 hr hc (fun ad he _ => hf ad he) e3).mono fun _ _ ⟨he, hI, hb, hk⟩ => ⟨s, hs, he, ⟨l, at2, h1, e2, hI, hb⟩, hk⟩
theorem name_any (w0 : World) (g : Nat) (w : World) (h : DiceOk w0 w g) :
    Calls Tryd.prog 37 #[.pointer (some ⟨g, 0, none⟩)] w fun e w' => ∃ s : ByteArray, s.size ≤ 15 ∧ e = .returned (.string s) ∧ DiceOk w0 w' g ∧ KeepBut w w' g none := by
  obtain ⟨l, at', h1, h2, h3, h4⟩ := h
  have hw := fun ss hn hn2 => word_f l at' ss h1 h2 hn hn2
  have hc := fun s at2 hh => PCanonEqual.reportescrowkit_Name.calls g l at' s at2 w0 w h3 h4 hh
  unfold PCanonEqual.reportescrowkit_Name.f at hc
  obtain ⟨s, hs, at2, e2, e3⟩ := hw [(⟨#[82, 111, 98, 101, 114, 116]⟩ : ByteArray), (⟨#[114, 111, 98, 101, 114, 116]⟩ : ByteArray), (⟨#[66, 111, 98]⟩ : ByteArray), (⟨#[68, 114, 46, 32, 82, 111, 98, 101, 114, 116]⟩ : ByteArray), (⟨#[79, 39, 66, 114, 105, 101, 110, 45, 77, 195, 188, 108, 108, 101, 114]⟩ : ByteArray), (⟨#[111, 98, 114, 105, 101, 110, 32, 109, 117, 101, 108, 108, 101, 114]⟩ : ByteArray), (⟨#[74, 79, 83, 69, 80, 72, 32, 32, 106, 114]⟩ : ByteArray), (⟨#[106, 111, 115, 101, 102]⟩ : ByteArray), (⟨#[65, 110, 110]⟩ : ByteArray), (⟨#[97, 110, 110]⟩ : ByteArray), (⟨#[195, 132, 110, 110, 99, 104, 101, 110]⟩ : ByteArray), (⟨#[120]⟩ : ByteArray), (⟨#[]⟩ : ByteArray), (⟨#[97, 97, 97, 97]⟩ : ByteArray), (⟨#[112, 104, 112, 104]⟩ : ByteArray), (⟨#[97, 32, 98, 32, 97, 32, 98]⟩ : ByteArray), (⟨#[32]⟩ : ByteArray)] (by decide) (by decide)
  have hsz : s.size ≤ 15 := by
    simp only [List.mem_cons, List.not_mem_nil, or_false] at hs
    rcases hs with rfl | rfl | rfl | rfl | rfl | rfl | rfl | rfl | rfl | rfl | rfl | rfl | rfl | rfl | rfl | rfl | rfl <;> decide
  exact (hc s at2 (by rw [e3]; rfl)).mono fun _ _ ⟨he, hI, hb, hk⟩ => ⟨s, hsz, he, ⟨l, at2, h1, e2, hI, hb⟩, hk⟩
#print axioms name_any
end Go.Proofs.YtpejnnnkamodbaaDoor
