/- words.Split, Join, Fold, Plain of this program: what they compute, for every text that is not too long. -/
import Derived.Test.YtpejnnnkamodbaaDoorWBuilder
import Derived.WalkLawsBesides
namespace Go.Proofs.YtpejnnnkamodbaaDoor
open Go Go.RowKit

/-- The library's tables lie as their initialisers lay them; the package-level variables' blocks come first. -/
def Tabs (w : World) : Prop := Lib.TabIs Tryd.prog w "strings.asciiSpace" .u8 Lib.asciiSpaceTab ∧ Lib.Utf8Tabs 1 2 w ∧ 3 ≤ w.heap.size
theorem gAscii : Tryd.prog.globalNamed "strings.asciiSpace" = some 0 := by kernel_rfl
theorem Tabs.below {B : Nat} {w w' : World} (h : Tabs w) (hb : Below B w w') (hB : 3 ≤ B) : Tabs w' := by
  obtain ⟨h1, ⟨h2, h3⟩, h4⟩ := h
  refine ⟨var?_below hb gAscii (by omega) h1, ⟨fun c hc => ?_, fun i hi => ?_⟩, Nat.le_trans h4 hb.size⟩
  · rw [hb.cell (p := ⟨1, c, none⟩) (show 1 < B by omega)]
    exact h2 c hc
  · rw [hb.cell (p := ⟨2, 2 * i, none⟩) (show 2 < B by omega), hb.cell (p := ⟨2, 2 * i + 1, none⟩) (show 2 < B by omega)]
    exact h3 i hi
theorem Tabs.six {w : World} (h : Tabs w) : 3 ≤ w.heap.size := h.2.2

/-- Where the rune at a place is read again behind the place. -/
theorem decode_again (s : ByteArray) (pos : Nat) (h : pos < s.size) : Lib.decodeGo (s.extract pos s.size) = Utf8.decode s pos := by
  unfold Lib.decodeGo
  have hl : s.data.toList.length = s.size := by simp
  have e : (s.extract pos s.size).data.toList = s.data.toList.drop pos := by
    rw [Lib.extract_data]
    exact List.take_of_length_le (by rw [List.length_drop]; omega)
  rw [if_neg (by simp; omega), ← Lib.decodeL_drop, ← Lib.decodeL_drop, List.drop_zero, e]
theorem raw_at (s : ByteArray) (pos : Nat) (h : pos < s.size) : raw (s.data.toList.drop pos) = (if Utf8.decode s pos = (65533, 1) then [] else foldR (Utf8.decode s pos).1) ++ raw (s.data.toList.drop (pos + (Utf8.decode s pos).2)) := by
  have hl : s.data.toList.length = s.size := by simp
  rw [raw_cons _ (by intro h0; have := congrArg List.length h0; rw [List.length_drop, hl] at this; simp at this; omega)]
  unfold piece
  rw [Lib.decodeL_drop, List.drop_drop]
theorem raw_end (s : ByteArray) (pos : Nat) (h : ¬ pos < s.size) : raw (s.data.toList.drop pos) = [] := by
  have hl : s.data.toList.length = s.size := by simp
  rw [List.drop_of_length_le (by omega)]; rfl

theorem grown_below {w w' : World} (h : Below w.heap.size w w') : w.grownBy w' none := ⟨h.os, h.tape, h.output, h.size, fun i hi _ => h.block i hi⟩
theorem isB_below {T e : TypeId} {B b : Nat} {bs : List Value} {w w' : World} (h : Lib.IsBuilderF T e B b bs w) (hb : Below w.heap.size w w') : Lib.IsBuilderF T e B b bs w' := by
  have key : ∀ p, Lib.BuilderAtF T e B b p bs w → Lib.BuilderAtF T e B b p bs w' := fun p h => by
    have hlt := h.lt
    obtain ⟨hB, v, hbk, hown, hne⟩ := h
    exact ⟨hB, v, (hb.block b hlt).trans hbk, hown.kept (grown_below hb) (by cases hv : v.ownBlock <;> simp), hne⟩
  exact h.elim (fun h => Or.inl (key _ h)) (fun h => Or.inr (key _ h))

/-- What Split's call leaves. -/
def SplitPost (s : ByteArray) (w : World) (e : Ending) (w' : World) : Prop :=
  ∃ A, e = .returned (.slice (some ⟨A, 0, none⟩) (splitT s.data.toList).length (splitT s.data.toList).length) ∧ w.heap.size ≤ A ∧ w'.heap[A]? = some (.cells ((splitT s.data.toList).map fun l => Value.string ⟨l.toArray⟩).toArray 9 (0, 0)) ∧ Below w.heap.size w w'

set_option maxHeartbeats 4000000 in
set_option maxRecDepth 1000000 in
theorem split_any (s : ByteArray) (w : World) (hs : s.size ≤ 1000000000) (hT : Tabs w) : Calls Tryd.prog 22 #[.string s] w (SplitPost s w) := by
  have h6 := hT.six
  go_enter Tryd.func22, Tryd.ntmps22
  go_wp2
  go_loopw [] (fun wr => ∃ (pos : Nat) (acc : List UInt8), pos ≤ s.size ∧ Lib.IsBuilderF 70 5 w.heap.size w.heap.size (Lib.byteCells acc) wr ∧ wr.heap[w.heap.size + 1]? = some (.stringIter s pos) ∧ Below w.heap.size w wr ∧ acc ++ raw (s.data.toList.drop pos) = raw s.data.toList ∧ acc.length ≤ 2 * pos) (fun wr => s.size - wr.iterPos (w.heap.size + 1))
  case atStart =>
    refine ⟨0, [], by omega, (Lib.IsBuilderF.of (Lib.fresh_isBuilder 70 5 w)).alloc _, ?_, ((Below.refl _ w).alloc (Nat.le_refl _) _).alloc (by simp) _, by simp, by simp⟩
    have := World.iter_heap (w.alloc (.cells #[.pointer none, .slice none 0 0] 70)) s 0
    simpa using this
  case round =>
    obtain ⟨pos, acc, hps, hI, hit, hbw, hacc, hal⟩ := hrel
    have hsz : w.heap.size + 1 < wr.heap.size := (Array.getElem?_eq_some_iff.1 hit).1
    by_cases hp : pos < s.size
    · have hnx : ∀ ty, (Instr.next (.pointer (some ⟨w.heap.size + 1, 0, none⟩)) true ty).run Tryd.prog wr = _ := fun ty => Lib.run_next_any_at wr (w.heap.size + 1) s pos ty hit hp
      have hd1 := decode_le s pos
      obtain ⟨hd2, hd3⟩ := decode_w s pos hp
      have hI2 := hI.iterAt hit (pos + (Utf8.decode s pos).2)
      have hit2 := Lib.iterAt_heap wr (w.heap.size + 1) s pos (pos + (Utf8.decode s pos).2) hit
      have hbw2 := Lib.below_iterAt hbw (k := w.heap.size + 1) (by omega) s (pos + (Utf8.decode s pos).2)
      have hsz2 : w.heap.size ≤ (wr.iterAt (w.heap.size + 1) s (pos + (Utf8.decode s pos).2)).heap.size := by rw [Lib.iterAt_size]; omega
      have hra := raw_at s pos hp
      have hag := decode_again s pos hp
      have hrl := Lib.rune_le s pos
      rw [hra] at hacc
      clear hra hd1
      obtain ⟨d, hd⟩ : ∃ d, d = Utf8.decode s pos := ⟨_, rfl⟩
      rw [← hd] at hd2 hd3 hI2 hit2 hbw2 hsz2 hacc hag hrl hnx
      clear hd
      obtain ⟨r, wd⟩ := d
      simp only at hd2 hd3 hI2 hit2 hbw2 hsz2 hrl hnx
      have hTn := hT.below hbw2 h6
      generalize hwn : wr.iterAt (w.heap.size + 1) s (pos + wd) = wn at hnx hI2 hit2 hbw2 hsz2 hTn
      clear hwn
      have hsn : w.heap.size + 1 < wn.heap.size := (Array.getElem?_eq_some_iff.1 hit2).1
      by_cases hr : r = 65533
      · subst hr
        by_cases hw1 : wd = 1
        · subst hw1
          have hacc' : acc ++ raw (s.data.toList.drop (pos + 1)) = raw s.data.toList := by simpa using hacc
          clear hacc
          replace hacc' := Lib.hid hacc'
          replace hag := Lib.hid hag
          go_wp2_with (go_at_call 46; refine (Tryd.utf8_DecodeRuneInString _ _ hTn.2.1).mono ?_; rintro e W1 ⟨rfl, hb1⟩; rw [hag.out])
          go_roundw
          case rel => exact ⟨pos + 1, acc, hd3, isB_below hI2 hb1, (hb1.block _ hsn).trans hit2, hbw2.trans (hb1.mono hsz2), hacc'.out, by omega⟩
          case measure =>
            simp only [World.iterPos, (hb1.block _ hsn).trans hit2, hit]
            omega
        · have hacc' : acc ++ foldR 65533 ++ raw (s.data.toList.drop (pos + wd)) = raw s.data.toList := by rw [if_neg (by simpa using hw1)] at hacc; simpa using hacc
          clear hacc
          replace hacc' := Lib.hid hacc'
          replace hag := Lib.hid hag
          have hw1' : ((wd : Int) == 1) = false := by simp; omega
          have hfl := foldR_len 65533
          have hal2 : (Lib.byteCells acc).length + (⟨(foldR 65533).toArray⟩ : ByteArray).size ≤ 140737488355328 := by rw [Lib.byteCells_length]; show _ + (foldR 65533).toArray.size ≤ _; simp; omega
          have cf := fold_any 65533 (by omega)
          generalize foldR 65533 = f5 at cf hal2 hfl hacc'
          replace cf := Lib.hid cf
          go_wp2_with (first | (go_at_call 46; refine (Tryd.utf8_DecodeRuneInString _ _ hTn.2.1).mono ?_; rintro e W0 ⟨rfl, hb0⟩; rw [hag.out]) | (go_at_call 48; refine (cf.out _).mono ?_; rintro e W1 ⟨rfl, hb1⟩))
          have hI4 := isB_below (isB_below hI2 hb0) hb1
          have hit4 := (hb1.block _ (Nat.lt_of_lt_of_le hsn hb0.size)).trans ((hb0.block _ hsn).trans hit2)
          have hbw4 := (hbw2.trans (hb0.mono hsz2)).trans (hb1.mono (Nat.le_trans hsz2 hb0.size))
          have hsz4 : w.heap.size ≤ W1.heap.size := Nat.le_trans hsz2 (Nat.le_trans hb0.size hb1.size)
          go_wp2_with (go_at_call 47; refine (write_any w.heap.size w.heap.size _ _ W1 hI4 hal2 hsz4).mono ?_; rintro e W2 ⟨rfl, h2, hb2, hk2⟩)
          go_roundw
          case rel =>
            refine ⟨pos + wd, acc ++ f5, hd3, ?_, hk2.iter hit4 (by omega), hbw4.trans hb2, hacc'.out, by simp; omega⟩
            rw [Lib.byteCells_append]
            exact Or.inr h2
          case measure =>
            simp only [World.iterPos, hk2.iter hit4 (by omega), hit]
            omega
      · have hacc' : acc ++ foldR r ++ raw (s.data.toList.drop (pos + wd)) = raw s.data.toList := by rw [if_neg (by simp [hr])] at hacc; simpa using hacc
        clear hacc
        replace hacc' := Lib.hid hacc'
        have hr' : ((r : Int) == 65533) = false := by simp; omega
        have hfl := foldR_len r
        have hal2 : (Lib.byteCells acc).length + (⟨(foldR r).toArray⟩ : ByteArray).size ≤ 140737488355328 := by rw [Lib.byteCells_length]; show _ + (foldR r).toArray.size ≤ _; simp; omega
        go_wp2_with (go_at_call 48; refine (fold_any r hrl _).mono ?_; rintro e W1 ⟨rfl, hb1⟩)
        go_wp2_with (go_at_call 47; refine (write_any w.heap.size w.heap.size _ _ W1 (isB_below hI2 hb1) hal2 (Nat.le_trans hsz2 hb1.size)).mono ?_; rintro e W2 ⟨rfl, h2, hb2, hk2⟩)
        go_roundw
        case rel =>
          refine ⟨pos + wd, acc ++ foldR r, hd3, ?_, hk2.iter ((hb1.block _ hsn).trans hit2) (by omega), (hbw2.trans (hb1.mono hsz2)).trans hb2, hacc'.out, by simp; omega⟩
          rw [Lib.byteCells_append]
          exact Or.inr h2
        case measure =>
          simp only [World.iterPos, hk2.iter ((hb1.block _ hsn).trans hit2) (by omega), hit]
          omega
    · have hnx : ∀ ty, (Instr.next (.pointer (some ⟨w.heap.size + 1, 0, none⟩)) true ty).run Tryd.prog wr = _ := fun ty => Lib.run_next_end_at wr (w.heap.size + 1) s pos ty hit hp
      have hra := raw_end s pos hp
      rw [hra, List.append_nil] at hacc
      subst hacc
      have hTw := hT.below hbw h6
      have hrl := raw_len s.data.toList.length s.data.toList (Nat.le_refl _)
      have hls := raw_ls s.data.toList
      have hl : s.data.toList.length = s.size := by simp
      rw [hl] at hrl
      have hTs : Lib.TabIs Tryd.prog wr "strings.asciiSpace" .u8 Lib.asciiSpaceTab := hTw.1
      go_wp2_with (go_at_call 50; refine (Tryd.Builder_String_any_k w.heap.size w.heap.size _ _ hI (by omega)).mono ?_)
      rintro e W1 ⟨rfl, _, b1, _⟩
      have hTf := (hTw.below b1 h6).1
      have hs1 : (⟨(raw s.data.toList).toArray⟩ : ByteArray).size < 4294967281 := by show (raw s.data.toList).toArray.size < _; simp; omega
      have ha1 : ∀ (j : Nat) (b : UInt8), (⟨(raw s.data.toList).toArray⟩ : ByteArray).data.toList[j]? = some b → b.toNat < 128 := fun j b hb => LS_lt (hls b (List.mem_of_getElem? (by simpa using hb)))
      clear hTs hls hl hra hrl
      go_wp2_with (go_at_call 49; refine (Tryd.strings_Fields _ _ hs1 ha1 hTf).mono ?_; rintro e W2 ⟨rfl, rfl⟩)
      go_ret
      have hz : (W1.alloc (Obj.cells ((splitT s.data.toList).map fun l => Value.string ⟨l.toArray⟩).toArray 9)).heap[W1.heap.size]? = _ := (MapKept.heap_alloc W1 _).1
      exact ⟨W1.heap.size, rfl, Nat.le_trans hbw.size b1.size, hz, (hbw.trans b1).alloc (Nat.le_trans hbw.size b1.size) _⟩
#print axioms split_any
end Go.Proofs.YtpejnnnkamodbaaDoor
