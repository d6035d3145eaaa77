/- The package alias: At. -/
import Derived.Test.YtpejnnnkamodbaaDoorWSort
namespace Go.Proofs.YtpejnnnkamodbaaDoor
open Go Go.RowKit Go.Maps Go.WideMaps Go.Proofs.YtpejnnnkamodbaaDoorW.PrintWords Go.Proofs.YtpejnnnkamodbaaDoorW.PrintLast
open PCanonEqual (S40 k40 z40 k40_mkM)

def valF (f : ByteArray → Option S40) (s : ByteArray) : S40 := (f s).getD z40
theorem getD_eq {α : Type} {l : List α} {i : Nat} {z : α} (h : i < l.length) : l.getD i z = l[i] := by simp [List.getD, h]
theorem take_snoc {l : List ByteArray} {f : ByteArray → Option S40} {i : Nat} (h : i < l.length) : (l.take i).map (valF f) ++ [valF f (l.getD i ByteArray.empty)] = (l.take (i + 1)).map (valF f) := by
  rw [List.take_add_one, List.map_append, getD_eq h, List.getElem?_eq_getElem h]
  rfl
set_option maxHeartbeats 4000000 in
set_option maxRecDepth 100000 in
theorem at42_ok (A : Option Addr) (c : Nat) (l : List S40) (t : Int) (w : World) (hr : Kd.C k40 w A l.length l) (hl : l.length ≤ 1000) (hs : ∀ a ∈ l, a.f0.size ≤ 1000000) :
    Calls Tryd.prog 42 #[.slice A l.length c, .int .i64 t] w fun e w' => (∃ A' c' L, e = .returned (.slice A' (L.map (valF (presT l t))).length c') ∧ Kd.C k40 w' A' (L.map (valF (presT l t))).length (L.map (valF (presT l t))) ∧ NowP (presT l t) L ∧ L.length ≤ l.length) ∧ Below w.heap.size w w' := by
  have cp := Lib.hid (present_ok A c l t w hr (by omega) hs)
  have hsz := Lib.hid (fun k a (h : presT l t k = some a) => (presT_mem l t k a h))
  replace hr := Lib.hid hr
  replace hs := Lib.hid hs
  go_enter Tryd.func42, Tryd.ntmps42
  go_wp2_with fail
  refine cp.out.mono ?_
  rintro e w1 ⟨b, rfl, hb, hD, hb1⟩
  have cs := Lib.hid (sorted_ok b l.length (presT l t) w1 hD (by omega))
  clear cp
  go_wp2_with fail
  refine cs.out.mono ?_
  rintro e w2 ⟨⟨A2, c2, L, rfl, hC2, hL2, hnow⟩, hb2⟩
  have hD2 := hD.below hb2
  have hb2' := hb1.trans (hb2.mono hb1.size)
  clear cs hD
  have hmem := Lib.hid (fun s (h : s ∈ L) => by
    have h1 := (hnow.2 s).1 h
    cases hp : presT l t s with
    | none => exact absurd hp h1
    | some a =>
      have h2 := hsz.out s a hp
      have h3 := hs.out a h2.1
      rw [h2.2.1] at h3
      exact (h3 : s.size ≤ 1000000))
  replace hnow := Lib.hid hnow
  generalize hf : presT l t = f at *
  replace hf := Lib.hid hf
  replace hC2 := Lib.hid hC2
  replace hD2 := Lib.hid hD2
  go_wp2_with fail
  go_loopw [6, 15] (fun v6 v15 wr => ∃ i : Nat, i ≤ L.length ∧ v15 = .int .i64 i ∧ Kd.R k40 40 wr w2.heap.size (fun _ => True) v6 ((L.take i).map (valF f)) ∧ Below w2.heap.size w2 wr) (fun _ v15 _ => L.length - (intOf v15).toNat)
  case atStart => exact ⟨0, Nat.zero_le _, rfl, Kd.R_nil _ _ _ _ _, Below.refl _ _⟩
  case round =>
    obtain ⟨i, hi, rfl, hR, hbr⟩ := hrel
    by_cases hlt : i < L.length
    · have e3 : decide (i < L.length) = true := decide_eq_true hlt
      have hCr : Kd.C Kd.string wr A2 L.length L := Kd.C_below hC2.out hbr
      obtain ⟨ad, rfl, d0⟩ := Kd.at_string hCr i (by omega) (by omega)
      rw [Int.toNat_natCast] at d0
      have hDr := hD2.out.below hbr
      have hsn := take_snoc (f := f) hlt
      have hss := hmem.out (L.getD i ByteArray.empty) (by rw [getD_eq hlt]; exact List.getElem_mem hlt)
      have hrd : rdOf ByteArray.empty L (i : Int) = L.getD i ByteArray.empty := by simp [rdOf]
      rw [hrd] at d0
      generalize L.getD i ByteArray.empty = s at d0 hsn hss
      have hll : ((L.take i).map (valF f)).length ≤ 1000 := by rw [List.length_map, List.length_take]; omega
      generalize (L.take i).map (valF f) = N at hR hsn hll
      unfold valF at hsn
      generalize hX : (f s).getD z40 = x at hsn
      obtain ⟨n', o', ti', g'⟩ := x
      clear hCr hrd
      go_wp2_with (first | (at_lookup; refine wpList_dict_get (enc := enc40) _ rfl _ _ 85 rfl 9 40 Tryd.underlying9 Tryd.underlying85 enc40_inj z40 rfl _ _ _ rfl hDr s rfl (by unfold maxLen; exact Nat.le_trans hss (by decide)) ?_; rw [hX, enc40]) | (at_builtin; refine Kd.R_append k40 w2.heap.size rfl _ _ 36 40 _ 48 rfl Tryd.underlying36 info40 rfl (by decide) (by decide) u6 N ⟨n', o', ti', g'⟩ _ (fun _ => True) (fun _ => False) (by rfl) (by rfl) (k40_mkM _ _ _ _) (fun k h => h.elim) (fun _ _ => trivial) hR hbr hbr.size (by omega) ?_; intro v7 w7 hR7 hb7 hg7 hat7))
      go_roundw
      case rel => exact ⟨i + 1, by omega, by go_num, by unfold valF; rw [← hsn]; exact hR7, hb7⟩
      case measure => simp [intOf]; omega
    · have e3 : decide (i < L.length) = false := decide_eq_false hlt
      obtain rfl : i = L.length := by omega
      rw [List.take_length] at hR
      go_wp2_with fail
      go_ret
      obtain ⟨A', c', rfl, _, hC'⟩ := Kd.R_reads hR
      have hf' := hf.out
      subst hf'
      exact ⟨⟨A', c', L, rfl, hC', hnow.out, hL2⟩, hb2'.trans (hbr.mono hb2'.size)⟩
#print axioms at42_ok
end Go.Proofs.YtpejnnnkamodbaaDoor
