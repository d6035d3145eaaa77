/- words.Join, Fold, Plain of this program. -/
import Derived.Test.YtpejnnnkamodbaaDoorWSplit
namespace Go.Proofs.YtpejnnnkamodbaaDoor
open Go Go.RowKit

set_option maxHeartbeats 1000000 in
theorem join_any (bk o c : Nat) (xs : List ByteArray) (w : World) (hcells : ∀ (j : Nat) (x : ByteArray), xs[j]? = some x → w.cell? ⟨bk, o + j, none⟩ = some (.string x)) (hbk : bk < w.heap.size) (hN : xs.length ≤ 1000000000000) (hcap : xs.length ≤ c)
    (hlen : (Lib.join (xs.map fun x => x.data.toList) [32]).length ≤ 100000000000000) :
    Calls Tryd.prog 21 #[.slice (some ⟨bk, o, none⟩) xs.length c] w fun e w' => e = .returned (.string ⟨(Lib.join (xs.map fun x => x.data.toList) [32]).toArray⟩) ∧ Below w.heap.size w w' := by
  have cj := Lib.hid (Tryd.strings_Join bk o c xs ⟨#[32]⟩ w hcells hbk (by omega) hcap (by show (Lib.join _ [32]).length ≤ _; omega))
  clear hcells
  go_enter Tryd.func21, Tryd.ntmps21
  go_wp2_with (go_at_call 45; refine cj.out.mono ?_; rintro e w1 ⟨rfl, hb1⟩)
  go_ret
  exact ⟨rfl, hb1⟩
/-- An empty list has no words. -/
theorem cell_row {w : World} {A : Nat} {cs : Array Value} {T : TypeId} {fz : Nat × Nat} (h : w.heap[A]? = some (.cells cs T fz)) (j : Nat) : w.cell? ⟨A, j, none⟩ = cs[j]? := by
  simp [World.cell?, h]
theorem join_row (l : List UInt8) (A : Nat) (w1 : World) (hl : l.length ≤ 1000000000) (hrow : w1.heap[A]? = some (.cells ((splitT l).map fun l => Value.string ⟨l.toArray⟩).toArray 9 (0, 0))) :
    Calls Tryd.prog 21 #[.slice (some ⟨A, 0, none⟩) (splitT l).length (splitT l).length] w1 fun e w' => e = .returned (.string ⟨(foldT l).toArray⟩) ∧ Below w1.heap.size w1 w' := by
  have h1 := fold_len l
  have h2 := split_len l
  have hlt : A < w1.heap.size := (Array.getElem?_eq_some_iff.1 hrow).1
  have cj := join_any A 0 (splitT l).length ((splitT l).map fun l => ⟨l.toArray⟩) w1 (fun j x hx => by
    rw [cell_row hrow]
    simp only [List.getElem?_map, Option.map_eq_some_iff] at hx
    obtain ⟨l, hl, rfl⟩ := hx
    simp [hl]) hlt (by rw [List.length_map]; omega) (by rw [List.length_map]; omega) (by
      rw [List.map_map]
      have : ((fun x : ByteArray => x.data.toList) ∘ fun l : List UInt8 => (⟨l.toArray⟩ : ByteArray)) = id := by funext l; simp
      rw [this, List.map_id]
      unfold foldT at h1
      omega)
  rw [List.length_map, List.map_map] at cj
  have e1 : ((fun x : ByteArray => x.data.toList) ∘ fun l : List UInt8 => (⟨l.toArray⟩ : ByteArray)) = id := by funext l; simp
  rw [e1, List.map_id] at cj
  exact cj
set_option maxHeartbeats 1000000 in
theorem foldtext_any (s : ByteArray) (w : World) (hs : s.size ≤ 1000000000) (hT : Tabs w) : Calls Tryd.prog 18 #[.string s] w fun e w' => e = .returned (.string ⟨(foldT s.data.toList).toArray⟩) ∧ Below w.heap.size w w' := by
  have cs := Lib.hid (split_any s w hs hT)
  have hl : s.data.toList.length = s.size := by simp
  go_enter Tryd.func18, Tryd.ntmps18
  go_wp2_with (go_at_call 22; refine cs.out.mono ?_; rintro e w1 ⟨A, rfl, hA, hrow, hb1⟩)
  have cj := Lib.hid (join_row s.data.toList A w1 (by omega) hrow)
  clear hl
  go_wp2_with (go_at_call 21; refine cj.out.mono ?_; rintro e w2 ⟨rfl, hb2⟩)
  go_ret
  exact ⟨rfl, hb1.trans (hb2.mono hb1.size)⟩
def plainT (l : List UInt8) : Bool := foldT l == l
set_option maxHeartbeats 1000000 in
theorem plaintext_any (s : ByteArray) (w : World) (hs : s.size ≤ 1000000000) (hT : Tabs w) : Calls Tryd.prog 20 #[.string s] w fun e w' => e = .returned (.bool (plainT s.data.toList)) ∧ Below w.heap.size w w' := by
  have cs := Lib.hid (foldtext_any s w hs hT)
  go_enter Tryd.func20, Tryd.ntmps20
  go_wp2_with (go_at_call 18; refine cs.out.mono ?_; rintro e w1 ⟨rfl, hb1⟩)
  go_ret
  exact ⟨ret_bool (by rw [ByteArray.toList_eq]; rfl), hb1⟩
#print axioms plaintext_any
end Go.Proofs.YtpejnnnkamodbaaDoor
