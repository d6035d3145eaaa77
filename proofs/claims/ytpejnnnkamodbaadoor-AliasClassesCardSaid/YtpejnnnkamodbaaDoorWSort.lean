/- The package alias: the names of what counts, sorted. -/
import Derived.Test.YtpejnnnkamodbaaDoorSort
import Derived.Test.YtpejnnnkamodbaaDoorWAliasB
import Derived.Sort.KeysCollected
import Derived.Sort.OwnSorted
import Derived.Shelf.Slices.In.SortNone
namespace Go.Proofs.YtpejnnnkamodbaaDoor
open Go Go.RowKit Go.Maps Go.WideMaps Go.Sort Go.Proofs.YtpejnnnkamodbaaDoorW.PrintWords Go.Proofs.YtpejnnnkamodbaaDoorW.PrintLast
open PCanonEqual (S40 k40 z40)

theorem info9 : (Tryd.prog.info? 9).map (fun i => (i.zero, i.size, i.bytes)) = some (some (.string ByteArray.empty), 1, 16) := by kernel_rfl
def toB (l : List UInt8) : ByteArray := ⟨l.toArray⟩
theorem toB_list (l : List UInt8) : (toB l).data.toList = l := by simp [toB]
theorem toB_data (s : ByteArray) : toB s.data.toList = s := by
  refine ByteArray.ext (Array.toList_inj.1 ?_)
  rw [toB_list]
theorem enc_map (l : List (List UInt8)) : (l.map toB).map Value.string = l.map encStr := by rw [List.map_map]; rfl
theorem reps_str {w : World} {base : Nat} {ok : Nat → Prop} : ∀ (l : List ByteArray) (cs : List Value), Reps (Kd.string.M w base ok) 1 l cs → cs = l.map Value.string
  | [], cs, h => by
    have := h.1
    simpa using this
  | x :: l, cs, h => by
    have h1 := h.2 0 x rfl
    rw [Nat.zero_mul, List.drop_zero] at h1
    have e1 : cs.take 1 = [Value.string x] := h1
    have h2 := reps_str l (cs.drop 1) ⟨by rw [List.length_drop, h.1, List.length_cons]; omega, fun j p hj => by
      have := h.2 (j + 1) p (by simpa using hj)
      rwa [show (j + 1) * 1 = 1 + j * 1 from by omega, ← List.drop_drop] at this⟩
    rw [List.map_cons, ← h2]
    have h3 := List.take_append_drop 1 cs
    rw [e1] at h3
    exact h3.symm
theorem reps_of_str {w : World} {base : Nat} {ok : Nat → Prop} : ∀ l : List ByteArray, Reps (Kd.string.M w base ok) 1 l (l.map Value.string)
  | [] => Reps.none _ _
  | x :: l => Reps.one (show Kd.string.M w base ok x [Value.string x] from rfl) (reps_of_str l)
theorem R_ownS {w : World} {base : Nat} {ok : Nat → Prop} {v : Value} {l : List ByteArray} (h : Kd.R Kd.string 9 w base ok v l) : (∀ k, v.ownBlock = some k → ok k) ∧ w.ownsRow base 9 1 v l.length (l.map Value.string) := by
  obtain ⟨h0, inner, ho, hr⟩ := h
  obtain rfl := reps_str l inner hr
  exact ⟨h0, ho⟩
theorem ownS_R {w : World} {base : Nat} {ok : Nat → Prop} {v : Value} {l : List ByteArray} (h0 : ∀ k, v.ownBlock = some k → ok k) (h : w.ownsRow base 9 1 v l.length (l.map Value.string)) : Kd.R Kd.string 9 w base ok v l :=
  ⟨h0, _, h, reps_of_str l⟩
theorem keep_grown {w w' : World} {r : Nat} (hg : w.grownBy w' (some r)) : KeepBut w w' r none :=
  ⟨hg.size, fun i hi hne _ => hg.block i hi (fun e => hne (Option.some.inj e))⟩
/-! ### the order -/
theorem less_iff : ∀ x y : List UInt8, Op.bytesLess x y = true ↔ x < y
  | [], [] => by simp [Op.bytesLess]
  | [], b :: y => by simp [Op.bytesLess]
  | a :: x, [] => by simp [Op.bytesLess]
  | a :: x, b :: y => by
    rw [List.cons_lt_cons_iff]
    simp only [Op.bytesLess, Bool.or_eq_true, Bool.and_eq_true, decide_eq_true_eq, beq_iff_eq, less_iff x y]
/-- Strings in their order, each once. -/
def Asc (L : List ByteArray) : Prop := L.Pairwise (fun a b => Op.bytesLess a.toList b.toList = true)
/-- The names of what counts. -/
def NowP (f : ByteArray → Option S40) (L : List ByteArray) : Prop := Asc L ∧ ∀ s, s ∈ L ↔ f s ≠ none
theorem asc_sort {ss : List (List UInt8)} (hn : ss.Nodup) : Asc ((ss.mergeSort leB).map toB) := by
  have tr : ∀ a b c : List UInt8, leB a b = true → leB b c = true → leB a c = true := fun a b c h1 h2 => by simp only [leB, decide_eq_true_eq] at *; exact List.le_trans h1 h2
  have tot : ∀ a b : List UInt8, (leB a b || leB b a) = true := fun a b => by simp only [leB, Bool.or_eq_true, decide_eq_true_eq]; exact List.le_total a b
  have h1 := List.pairwise_mergeSort tr tot ss
  have h2 : (ss.mergeSort leB).Nodup := (List.mergeSort_perm ss leB).nodup_iff.2 hn
  unfold Asc
  refine List.pairwise_map.2 ((h1.and h2).imp fun {a b} h => ?_)
  rw [ByteArray.toList_eq, ByteArray.toList_eq, toB_list, toB_list, less_iff]
  have h3 : a ≤ b := by simpa [leB] using h.1
  by_cases hlt : a < b
  · exact hlt
  · exact absurd (List.le_antisymm h3 hlt) h.2
theorem mem_sort (ss : List (List UInt8)) (s : ByteArray) : s ∈ (ss.mergeSort leB).map toB ↔ s.data.toList ∈ ss := by
  rw [List.mem_map]
  constructor
  · rintro ⟨x, hx, rfl⟩
    rw [toB_list]
    exact (List.mergeSort_perm ss leB).mem_iff.1 hx
  · intro h
    exact ⟨_, (List.mergeSort_perm ss leB).mem_iff.2 h, toB_data s⟩
theorem now_sort {H : Type} {D : DataW H} {left : Lit → Bool} {ss : List (List UInt8)} {f : ByteArray → Option S40} (hC : Collected D left ss) (hl : ∀ kl, left kl = false) (hf : ∀ s : ByteArray, has D (.string s.data.toList) = (f s).isSome) : NowP f ((ss.mergeSort leB).map toB) := by
  refine ⟨asc_sort hC.1, fun s => ?_⟩
  rw [mem_sort, hC.2, hf, hl]
  cases f s <;> simp
set_option maxHeartbeats 4000000 in
set_option maxRecDepth 100000 in
theorem sorted_ok (b n : Nat) (f : ByteArray → Option S40) (w : World) (hD : Dict enc40 Tryd.prog 9 w b n f) (hn : n ≤ 1000000) :
    Calls Tryd.prog 67 #[.map (some b)] w fun e w' => (∃ A c L, e = .returned (.slice A L.length c) ∧ Kd.C Kd.string w' A L.length L ∧ L.length ≤ n ∧ NowP f L) ∧ Below w.heap.size w w' := by
  obtain ⟨D, hown, hm, hfun⟩ := hD
  have hfun' := Lib.hid (fun s : ByteArray => (hfun s).1)
  have hbl := hown.lt
  have hsz := hown.size_le
  clear hfun hm
  go_enter Tryd.func67, Tryd.ntmps67
  go_wp2_with (at_range; refine wpList_range_own _ rfl _ 85 rfl 9 40 kstr Tryd.underlying85 (encR enc40) b n D rfl hown ?_; intro w0 hrg0 hg0 hs0)
  go_frame
  have hb0 : Below w.heap.size w w0 := (Below.refl _ _).grown hg0 (Nat.le_refl _) (fun j hj => by cases hj)
  obtain ⟨r, hr⟩ : ∃ r, r = w.heap.size := ⟨_, rfl⟩
  rw [← hr] at hrg0
  rw [← hr]
  have hrle : w.heap.size ≤ r := Nat.le_of_eq hr.symm
  have hrl := hrg0.lt
  clear hg0 hs0 hown
  replace hr := Lib.hid hr
  go_loopw [3] (fun v3 wr => ∃ (left : Lit → Bool) (cnt : Nat) (ss : List (List UInt8)), wr.ranges Tryd.prog 9 (encR enc40) b r n D left cnt ∧ ss.length + cnt ≤ Maps.size D ∧ Kd.R Kd.string 9 wr w.heap.size (fun k => k ≠ r) v3 (ss.map toB) ∧ Collected D left ss ∧ Below w.heap.size w wr) (fun _ wr => wr.rangeLeft b r)
  case atStart => exact ⟨_, _, [], hrg0, by simp, Kd.R_nil _ _ _ _ _, Collected.start D, hb0⟩
  case round =>
    obtain ⟨left, cnt, ss, hrg, hcs, hR, hC, hbr⟩ := hrel
    obtain ⟨wo, rfl⟩ : ∃ wo : World, wo = wr := ⟨_, rfl⟩
    go_wp2_with (at_next; refine wpList_next_ranges _ rfl _ rfl 9 kstr (encR enc40) encStr enc40 (fun key kl hk => by obtain ⟨x, hx, _⟩ := Maps.keyOf_str Tryd.underlying9 hk; exact ⟨x, hx⟩) (fun v y hv => by obtain ⟨d, ps⟩ := y; obtain ⟨c, hc, _⟩ := encR_inv enc40 hv; exact ⟨c, hc⟩) b r n D left cnt rfl hrg ?_ ?_)
    · intro hc0 hl0
      have hnow := now_sort hC hl0 hfun'.out
      obtain ⟨h0, h1, h2⟩ := R_ownS hR
      have hlen : ss.length ≤ n := by omega
      clear hl0 hfun' hC
      replace hnow := Lib.hid hnow
      rcases h2 with ⟨hA, hB⟩ | ⟨g, cap, cur, rfl, hg, hb, hc, hm, hz, ht⟩
      · have hss : ss = [] := by
          rcases ss with _ | ⟨x, ss⟩
          · rfl
          · simp_all
        subst hss
        have hv : u3 = Value.slice none 0 0 := by first | exact hA | exact hB
        subst hv
        have hc : Calls Tryd.prog 68 #[.slice none 0 0] wo fun e w' => e = .returned (.tuple #[]) ∧ w' = wo := Any.slices_Sort_string_none Tryd.lays190 none 0 wo
        replace hc := Lib.hid hc
        clear hA hB h0 h1 hR
        go_wp2_with (go_at_call 68; refine hc.out.mono ?_; rintro e w' ⟨rfl, rfl⟩)
        go_ret
        exact ⟨⟨none, 0, [], rfl, ⟨rfl, by decide, fun h => absurd h (by simp)⟩, Nat.zero_le _, by have := hnow.out; simpa using this⟩, hbr⟩
      · have hH : Holds encStr wo g 0 ss.toArray := holds_of_block hb (by rw [← enc_map, ← ht, List.length_map, Nat.mul_one])
        have hcall := Lib.hid (Tryd.slices_Sort_string g 0 cap ss wo hH (blk_lt hb) (by omega))
        have ho := fun nn os => ownsRow_sorted (n := nn) (os := os) (ss := ss) (ts := ss.mergeSort leB) (List.length_mergeSort _) hg hb (by simpa using hc) hm (by simpa using hz)
        have hbF := fun nn os => hbr.grown (grownBy_sorted (n := nn) (os := os) (g := g) (ss.mergeSort leB).toArray) hbr.size (fun j hj => by cases hj; exact hg)
        replace ho := Lib.hid ho
        replace hbF := Lib.hid hbF
        clear h0 h1 hR hH hz ht hc hcs
        go_wp2_with (go_at_call 68; refine hcall.out.mono ?_; rintro e w' ⟨rfl, nn, os, rfl⟩)
        go_ret
        have hR2 : Kd.R Kd.string 9 _ w.heap.size (fun _ => True) (.slice (some ⟨g, 0, none⟩) ss.length cap) ((ss.mergeSort leB).map toB) := ownS_R (fun _ _ => trivial) (by
          have := ho.out nn os
          rw [enc_map, List.length_map, List.length_mergeSort]
          exact this)
        obtain ⟨A', c', hv, _, hC'⟩ := Kd.R_reads hR2
        refine ⟨⟨A', c', _, ?_, hC', by simpa using hlen, hnow.out⟩, hbF.out nn os⟩
        first | exact congrArg _ hv | (simp at hv ⊢; exact hv)
    · intro x c kl yd yp w2 cnt2 hkey hlk hv hat hrg2 hlt hg2 hs2 hen
      obtain ⟨x', ex, rfl, _⟩ := Maps.keyOf_str Tryd.underlying9 hkey
      obtain rfl : x = x' := encStr_inj ex
      have hR2 := Kd.R_keep hR (keep_grown hg2) (fun k hk => hk)
      have hC2 := hC.step hlk hat
      have hb2 := hbr.grown hg2 hbr.size (fun j hj => by cases hj; exact hrle)
      have hfresh : ∀ k, w2.heap.size ≤ k → k ≠ r := fun k hk => by have := hrg2.lt; omega
      have hown2 := (R_ownS hR2)
      have hbne : some b ≠ u3.ownBlock := fun e => by have := own_base hown2.2 b e.symm; omega
      have hrne : some r ≠ u3.ownBlock := fun e => hown2.1 r e.symm rfl
      have hlefts := Lib.hid hrg.left_eq
      have hlen2 : ((ss.map toB).length + 1) * 16 ≤ 140737488355328 := by rw [List.length_map]; omega
      replace hC2 := Lib.hid hC2
      clear hs2 hR hC hown2 hlk hat hkey hv ex hg2 hrg
      obtain ⟨n', o', ti', g'⟩ := c
      go_wp2_with (at_builtin; refine Kd.R_append Kd.string w.heap.size rfl _ _ 27 9 _ 16 rfl Tryd.underlying27 info9 rfl (by decide) (by decide) u3 (ss.map toB) (toB x) _ (fun k => k ≠ r) (fun _ => False) (by rfl) (by rfl) rfl (fun k h => h.elim) hfresh hR2 hb2 hb2.size hlen2 ?_; intro v6 w6 hR6 hb6 hg6 hat6)
      have hrg6 := hrg2.kept hg6 hbne hrne
      go_roundw
      case rel => exact ⟨_, cnt2, ss ++ [x], hrg6, by simp; omega, by simpa using hR6, hC2.out, hb6⟩
      case measure => rw [hrg6.left_eq, hlefts.out]; exact hlt
#print axioms sorted_ok
end Go.Proofs.YtpejnnnkamodbaaDoor
