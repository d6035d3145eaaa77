/- What the program's words package computes, function by function: the table of letters with marks, small, Letter, fold. -/
import Derived.Test.YtpejnnnkamodbaaDoorProg
import Derived.Test.YtpejnnnkamodbaaDoorWTable
import Derived.Lib.OthersKept
import Derived.BigCall
import Derived.Lib.Hide
namespace Go.Proofs.YtpejnnnkamodbaaDoor
open Go Go.RowKit Go.Maps Go.WideMaps Go.WideElems

theorem kstr : Keyed Tryd.prog 9 := string_keyed Tryd.underlying9
theorem krune : Keyed Tryd.prog 21 := int_keyed Tryd.underlying21

set_option maxHeartbeats 1000000 in
set_option maxRecDepth 100000 in
theorem plain_any {H : Type} (w : World) : Calls Tryd.prog 106 #[] w fun e w' => e = .returned (.map (some w.heap.size)) ∧ w'.ownsMap (H := H) Tryd.prog 9 (plainElem Tryd.prog 9) w.heap.size 14 plainD ∧ Below w.heap.size w w' := by
  have hmm := @run_makeMap Tryd.prog
  have hown := World.ownsMap_made (H := H) w Tryd.prog 9 (plainElem Tryd.prog 9)
  have hb : Below w.heap.size w (w.alloc (.map #[] 0)) := (Below.refl _ w).alloc (Nat.le_refl _) _
  go_enter Tryd.func106, Tryd.ntmps106
  go_wp2_with (refine wpList_insert_own _ rfl _ _ _ 144 rfl 9 9 kstr Tryd.underlying144 (plainElem Tryd.prog 9) w.heap.size _ _ rfl hown (by unfold maxLen; omega) _ _ _ rfl rfl (keyOf_string_mk Tryd.underlying9 (by decide)) _ [] (plainElem_string Tryd.underlying9 (by decide)) ?_; intro w1 hown1 hg1; replace hb := hb.grown hg1 hb.size (fun j hj => by cases hj; exact Nat.le_refl _); replace hown := hown1; clear hown1 hg1)
  go_ret
  exact ⟨rfl, hown, hb⟩

theorem ownsMap_below {H : Type} {P : Program} {k : TypeId} {R : Value → Option (DataW H × List MemPlace)} {w w' : World} {b n B : Nat} {D : DataW H} (h : w.ownsMap P k R b n D) (hb : Below B w w') (hB : b < B) : w'.ownsMap P k R b n D := by
  obtain ⟨es, clock, h1, h2⟩ := h
  exact ⟨es, clock, (hb.block b hB).trans h1, h2⟩
/-- What the table's call leaves. -/
def TabPost (H : Type) (w w' : World) : Prop := ∃ n, ∃ D : DataW H, w'.ownsMap Tryd.prog 21 (plainElem Tryd.prog 9) w.heap.size n D ∧ ∀ q : Nat, Maps.has D (.int .i32 q) = (markedR q).isSome ∧ D.atKey (.int .i32 q) (.lit (.string [])) = .lit (.string ((markedR q).getD []))
theorem grown_iterAt (w : World) (k : Nat) (s : ByteArray) (pos : Nat) : w.grownBy (w.iterAt k s pos) (some k) :=
  ⟨rfl, rfl, rfl, by rw [Lib.iterAt_size]; exact Nat.le_refl _, fun i _ hne => Lib.iterAt_other w k i s pos (fun e => hne (by rw [e]))⟩

set_option maxHeartbeats 1000000 in
set_option maxRecDepth 100000 in
theorem table_any {H : Type} (w : World) : Calls Tryd.prog 87 #[] w fun e w' => e = .returned (.map (some w.heap.size)) ∧ TabPost H w w' ∧ Below w.heap.size w w' := by
  have hmm := @run_makeMap Tryd.prog
  go_enter Tryd.func87, Tryd.ntmps87
  have hout0 := World.ownsMap_made (H := H) w Tryd.prog 21 (plainElem Tryd.prog 9)
  have hb0 : Below w.heap.size w (w.alloc (.map #[] 0)) := (Below.refl _ w).alloc (Nat.le_refl _) _
  go_wp2_with (first | (go_at_call 106; refine (plain_any (H := H) _).mono ?_; rintro e w1 ⟨rfl, hp, hb1⟩; rw [World.size_alloc] at hp hb1) | (at_range; refine wpList_range_own _ rfl _ 144 rfl 9 9 kstr Tryd.underlying144 _ _ 14 plainD rfl hp ?_; intro w2 hrg hg2 hs2))
  go_frame
  have hout2 := (ownsMap_below hout0 hb1 (by omega)).kept hg2 (by simp)
  have hb2 : Below w.heap.size w w2 := ((hb0.trans (hb1.mono (by omega))).grown hg2 (by have := hb1.size; rw [World.size_alloc] at this; omega) (fun j hj => by cases hj))
  have h1sz : w.heap.size + 1 < w1.heap.size := hp.lt
  have hsz14 : Maps.size (plainD : DataW H) ≤ 14 := hp.size_le
  obtain ⟨r, hr⟩ : ∃ r, r = w1.heap.size := ⟨_, rfl⟩
  rw [← hr] at hrg h1sz
  rw [← hr]
  clear hr hg2 hs2 hb0 hout0
  go_loopw [] (fun wr => ∃ left cnt n, ∃ D : DataW H, wr.ranges Tryd.prog 9 (plainElem Tryd.prog 9) (w.heap.size + 1) r 14 plainD left cnt ∧ wr.ownsMap Tryd.prog 21 (plainElem Tryd.prog 9) w.heap.size n D ∧ Good left D ∧ n + 8 * cnt ≤ 112 ∧ Below w.heap.size w wr) (fun wr => wr.rangeLeft (w.heap.size + 1) r)
  case atStart => exact ⟨_, _, 0, _, hrg, hout2, good_start, by omega, hb2⟩
  case round =>
    obtain ⟨left, cnt, n, D, hrg, hown, hgood, hn, hbw⟩ := hrel
    clear hout2 hb2
    obtain ⟨wo, rfl⟩ : ∃ wo : World, wo = wr := ⟨_, rfl⟩
    go_wp2_with (at_next; refine wpList_next_ranges_ss _ rfl _ rfl 9 9 kstr Tryd.underlying9 Tryd.underlying9 _ r 14 plainD left cnt rfl hrg ?_ ?_)
    · intro _ hl0
      go_wp2
      go_ret
      exact ⟨rfl, ⟨n, D, hown, good_end hgood hl0⟩, hbw⟩
    · intro x c w3 cnt3 hwx hwc hlx hat hrg3 hlt hg3 hs3 hen
      have hpr := plain_hit hat
      have hc8 : c.size ≤ 8 := by have := gpairs_short _ hpr; simpa using this
      have hkr : r < wo.heap.size := hrg.lt
      have hit0 : (w3.iter c 0).heap[wo.heap.size]? = some (.stringIter c 0) := by rw [← hs3]; exact World.iter_heap w3 c 0
      have hrgI : (w3.iter c 0).ranges Tryd.prog 9 (plainElem Tryd.prog 9) (w.heap.size + 1) r 14 plainD (fun z : Lit => left z && !z.sameKey (Lit.string x.data.toList)) cnt3 := hrg3.alloc _
      have hownI : (w3.iter c 0).ownsMap Tryd.prog 21 (plainElem Tryd.prog 9) w.heap.size n D := (hown.kept hg3 (by simp; omega)).alloc _
      have hbI : Below w.heap.size w (w3.iter c 0) := (hbw.grown hg3 hbw.size (fun j hj => by cases hj; omega)).alloc (Nat.le_trans hbw.size (Nat.le_of_eq hs3.symm)) _
      have hgs := good_step hgood hpr
      have hwB : w.heap.size ≤ wo.heap.size := hbw.size
      have hl0 := Lib.hid hrg.left_eq
      clear hat hlx hgood hrg hown hbw hrg3
      go_wp2
      generalize (fun z : Lit => left z && !z.sameKey (Lit.string x.data.toList)) = left1 at hrgI hgs
      clear hen hs3 hg3
      generalize w3.iter c 0 = wi0 at hit0 hrgI hownI hbI
      have hin0 : putR D x.data.toList (runes (c.data.toList.drop 0)) = putR D x.data.toList (runes c.data.toList) := by rw [List.drop_zero]
      obtain ⟨Dend, hDend⟩ : ∃ Dend, Dend = putR D x.data.toList (runes c.data.toList) := ⟨_, rfl⟩
      rw [← hDend] at hgs hin0
      clear hDend
      go_loopw [] (fun wi => ∃ (pos m : Nat) (D' : DataW H), pos ≤ c.size ∧ wi.heap[wo.heap.size]? = some (.stringIter c pos) ∧ wi.ranges Tryd.prog 9 (plainElem Tryd.prog 9) (w.heap.size + 1) r 14 plainD left1 cnt3 ∧ wi.ownsMap Tryd.prog 21 (plainElem Tryd.prog 9) w.heap.size m D' ∧ m ≤ n + pos ∧ putR D' x.data.toList (runes (c.data.toList.drop pos)) = Dend ∧ Below w.heap.size w wi) (fun wi => c.size - wi.iterPos wo.heap.size)
      case atStart => exact ⟨0, n, D, by omega, hit0, hrgI, hownI, by omega, hin0, hbI⟩
      case round =>
        clear hit0 hrgI hownI hbI hin0
        obtain ⟨pos, m, D', hpc, hit, hrgi, howni, hm, hput, hbi⟩ := hrel
        have hsl : wo.heap.size < wr.heap.size := (Array.getElem?_eq_some_iff.1 hit).1
        by_cases hp : pos < c.size
        · have hnx : ∀ ty, (Instr.next (.pointer (some ⟨wo.heap.size, 0, none⟩)) true ty).run Tryd.prog wr = _ := fun ty => Lib.run_next_any_at wr wo.heap.size c pos ty hit hp
          have hd1 := decode_le c pos
          obtain ⟨hd2, hd3⟩ := decode_w c pos hp
          have hru := runes_at c pos hp
          have hit2 := Lib.iterAt_heap wr wo.heap.size c pos (pos + (Utf8.decode c pos).2) hit
          have hrg2 := hrgi.kept (grown_iterAt wr wo.heap.size c (pos + (Utf8.decode c pos).2)) (by simp; omega) (by simp; omega)
          have hown2 := howni.kept (grown_iterAt wr wo.heap.size c (pos + (Utf8.decode c pos).2)) (by simp; omega)
          have hb2 := Lib.below_iterAt hbi (k := wo.heap.size) (by omega) c (pos + (Utf8.decode c pos).2)
          rw [hru] at hput
          clear hru hrgi howni hbi
          have hwfr : (Lit.int .i32 ((Utf8.decode c pos).1 : Int)).wf = true := WalkArith.wf_i32 ⟨by omega, by omega⟩
          go_wp2_with (at_mapUpdate; refine wpList_mapUpdate_own _ rfl _ _ _ 104 rfl 21 9 krune Tryd.underlying104 _ _ m _ rfl hown2 (by unfold maxLen; omega) _ _ _ rfl rfl (keyOf_int_mk Tryd.underlying21 hwfr) _ [] (plainElem_string Tryd.underlying9 hwx) ?_; intro w5 hown5 hg5; go_frame)
          have hit5 : w5.heap[wo.heap.size]? = some (.stringIter c (pos + (Utf8.decode c pos).2)) := (hg5.block wo.heap.size (by rw [Lib.iterAt_size]; exact hsl) (by simp; omega)).trans hit2
          have hrg5 := hrg2.kept hg5 (by simp) (by simp; omega)
          have hb5 : Below w.heap.size w w5 := hb2.grown hg5 (by rw [Lib.iterAt_size]; omega) (fun j hj => by cases hj; exact Nat.le_refl _)
          go_roundw
          case rel => exact ⟨pos + (Utf8.decode c pos).2, m + 1, _, hd3, hit5, hrg5, hown5, by omega, hput, hb5⟩
          case measure =>
            simp only [World.iterPos, hit5, hit]
            omega
        · have hnx : ∀ ty, (Instr.next (.pointer (some ⟨wo.heap.size, 0, none⟩)) true ty).run Tryd.prog wr = _ := fun ty => Lib.run_next_end_at wr wo.heap.size c pos ty hit hp
          rw [runes_end c pos hp] at hput
          have hput' : D' = Dend := hput
          subst hput'
          have hlw := hrgi.left_eq
          go_wp2
          go_roundw
          case rel => exact ⟨left1, cnt3, m, D', hrgi, howni, hgs, by omega, hbi⟩
          case measure =>
            rw [hlw, hl0.out]
            exact hlt

theorem ret_int {k : IntKind} {a b : Int} (h : a = b) : Ending.returned (.int k a) = .returned (.int k b) := by rw [h]
theorem ret_bool {a b : Bool} (h : a = b) : Ending.returned (.bool a) = .returned (.bool b) := by rw [h]
theorem ret_str {a b : ByteArray} (h : a = b) : Ending.returned (.string a) = .returned (.string b) := by rw [h]

set_option maxHeartbeats 1000000 in
set_option maxRecDepth 100000 in
theorem small_any (r : Nat) (hr : r ≤ 2147483647) (w : World) : Calls Tryd.prog 73 #[.int .i32 r] w fun e w' => e = .returned (.int .i32 (smallR r)) ∧ w = w' := by
  unfold smallR
  split
  · go_enter Tryd.func73, Tryd.ntmps73
    go_wp2
    go_ret
    exact ⟨ret_int (by omega), rfl⟩
  · split
    · go_enter Tryd.func73, Tryd.ntmps73
      go_wp2
      go_ret
      exact ⟨ret_int (by omega), rfl⟩
    · by_cases e : r = 215
      · subst e
        go_enter Tryd.func73, Tryd.ntmps73
        go_wp2
        go_ret
        exact ⟨ret_int (by omega), rfl⟩
      · have hne : ((r : Int) != 215) = true := by simp; omega
        go_enter Tryd.func73, Tryd.ntmps73
        go_wp2
        all_goals (go_ret; exact ⟨ret_int (by omega), rfl⟩)

set_option maxHeartbeats 1000000 in
set_option maxRecDepth 100000 in
theorem letter_any (c : Nat) (hc : c ≤ 255) (w : World) : Calls Tryd.prog 19 #[.int .u8 c] w fun e w' => e = .returned (.bool (letterN c)) ∧ w = w' := by
  go_enter Tryd.func19, Tryd.ntmps19
  go_wp2
  all_goals (go_ret; exact ⟨ret_bool (by rw [Bool.eq_iff_iff]; simp [letterN]; omega), rfl⟩)

set_option maxHeartbeats 1000000 in
theorem letters_any {H : Type} (w : World) : Calls Tryd.prog 74 #[] w fun e w' => e = .returned (.map (some w.heap.size)) ∧ TabPost H w w' ∧ Below w.heap.size w w' := by
  go_enter Tryd.func74, Tryd.ntmps74
  go_wp2_with (go_at_call 87; refine (table_any (H := H) _).mono ?_; rintro e w1 ⟨rfl, hp, hb1⟩)
  go_ret
  exact ⟨rfl, hp, hb1⟩

theorem enc_low (q : Nat) (h : q < 128) : Utf8.encode (q : Int) = ⟨[UInt8.ofNat q].toArray⟩ := by
  have hv : Utf8.valid (q : Int) = true := by simp [Utf8.valid]; omega
  unfold Utf8.encode
  rw [hv]
  simp only [if_true, Int.toNat_natCast]
  rw [if_pos (by omega)]
theorem zero9 (w : World) : (zeroValue 9).run Tryd.prog w = .ok (.string ByteArray.empty) w := by kernel_rfl
set_option maxHeartbeats 1000000 in
set_option maxRecDepth 100000 in
theorem fold_any (r : Nat) (hr : r ≤ 1114111) (w : World) : Calls Tryd.prog 48 #[.int .i32 r] w fun e w' => e = .returned (.string ⟨(foldR r).toArray⟩) ∧ Below w.heap.size w w' := by
  have hsm : smallR r ≤ 1114200 := by unfold smallR; split; omega; split <;> omega
  unfold foldR
  have cs := small_any r (by omega)
  generalize smallR r = q at cs hsm
  have Hs := Lib.hid cs
  clear cs
  have hwf : (Lit.int .i32 (q : Int)).wf = true := WalkArith.wf_i32 ⟨by omega, by omega⟩
  cases hm : markedR q with
  | some t =>
    have hf : foldS q = t := by unfold foldS; rw [hm]
    rw [hf]
    have Hm := Lib.hid hm
    clear hm hf
    go_enter Tryd.func48, Tryd.ntmps48
    go_wp2_with (first | (go_at_call 73; refine (Hs.out _).mono ?_; rintro e w1 ⟨rfl, rfl⟩) | (go_at_call 74; refine (letters_any (H := Unit) _).mono ?_; rintro e w1 ⟨rfl, ⟨n, D, hown, hq⟩, hb1⟩; obtain ⟨h1, h2⟩ := hq q; rw [Hm.out] at h1 h2; replace h2 := Lib.hid h2; clear hq) | (at_lookup; refine wpList_lookup_own_ok_string _ rfl _ _ 104 rfl 21 9 krune Tryd.underlying104 Tryd.underlying9 (zero9 _) _ n D rfl hown _ _ rfl (keyOf_int_mk Tryd.underlying21 hwf) ?_; intro c hat hcs; replace hat := Lib.hid hat))
    go_ret
    have e1 := hat.out.symm.trans h2.out
    simp only [Option.getD_some, DataW.lit.injEq, Lit.string.injEq] at e1
    exact ⟨ret_str (by rw [← e1]), hb1⟩
  | none =>
    have Hm := Lib.hid hm
    by_cases hl : q < 128 ∧ letterN q = true
    · have hf : foldS q = [UInt8.ofNat q] := by unfold foldS; rw [hm]; simp only; rw [if_pos hl]
      rw [hf]
      clear hm hf
      obtain ⟨hq1, hq2⟩ := hl
      have hq3 : ((q : Int) < 128) := by omega
      have HL : ∀ w, Calls Tryd.prog 19 #[.int .u8 q] w fun e w' => e = .returned (.bool true) ∧ w = w' := fun w => by have := letter_any q (by omega) w; rw [hq2] at this; exact this
      clear hq2
      replace HL := Lib.hid HL
      go_enter Tryd.func48, Tryd.ntmps48
      go_wp2_with (first | (go_at_call 73; refine (Hs.out _).mono ?_; rintro e w1 ⟨rfl, rfl⟩) | (go_at_call 74; refine (letters_any (H := Unit) _).mono ?_; rintro e w1 ⟨rfl, ⟨n, D, hown, hq⟩, hb1⟩; obtain ⟨h1, h2⟩ := hq q; rw [Hm.out] at h1 h2; clear h2 hq) | (at_lookup; refine wpList_lookup_own_ok_string _ rfl _ _ 104 rfl 21 9 krune Tryd.underlying104 Tryd.underlying9 (zero9 _) _ n D rfl hown _ _ rfl (keyOf_int_mk Tryd.underlying21 hwf) ?_; intro c hat hcs; clear hat) | (go_at_call 19; refine (HL.out _).mono ?_; rintro e w2 ⟨rfl, rfl⟩))
      go_ret
      exact ⟨ret_str (enc_low q (by omega)), hb1⟩
    · have hf : foldS q = [32] := by unfold foldS; rw [hm]; simp only; rw [if_neg hl]
      rw [hf]
      clear hm hf
      have HL : ∀ w, q < 128 → Calls Tryd.prog 19 #[.int .u8 q] w fun e w' => e = .returned (.bool false) ∧ w = w' := fun w h => by
        have := letter_any q (by omega) w
        have e : letterN q = false := by cases h0 : letterN q; rfl; exact absurd ⟨h, h0⟩ hl
        rw [e] at this
        exact this
      clear hl
      replace HL := Lib.hid HL
      go_enter Tryd.func48, Tryd.ntmps48
      go_wp2_with (first | (go_at_call 73; refine (Hs.out _).mono ?_; rintro e w1 ⟨rfl, rfl⟩) | (go_at_call 74; refine (letters_any (H := Unit) _).mono ?_; rintro e w1 ⟨rfl, ⟨n, D, hown, hq⟩, hb1⟩; obtain ⟨h1, h2⟩ := hq q; rw [Hm.out] at h1 h2; clear h2 hq) | (at_lookup; refine wpList_lookup_own_ok_string _ rfl _ _ 104 rfl 21 9 krune Tryd.underlying104 Tryd.underlying9 (zero9 _) _ n D rfl hown _ _ rfl (keyOf_int_mk Tryd.underlying21 hwf) ?_; intro c hat hcs; clear hat) | (go_at_call 19; refine (HL.out _ (by omega)).mono ?_; rintro e w2 ⟨rfl, rfl⟩))
      all_goals (go_ret; exact ⟨rfl, hb1⟩)
#print axioms fold_any
end Go.Proofs.YtpejnnnkamodbaaDoor
