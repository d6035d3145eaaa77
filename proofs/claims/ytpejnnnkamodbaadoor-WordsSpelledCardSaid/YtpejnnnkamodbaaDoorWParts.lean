/- The walk of reportescrowlaw11.WordsParts: for every two texts it returns true. -/
import Derived.Test.YtpejnnnkamodbaaDoorWAwake
namespace Go.Proofs.YtpejnnnkamodbaaDoor
open Go Go.RowKit

theorem info9 : (Tryd.prog.info? 9).map (fun i => (i.zero, i.size, i.bytes)) = some (some (.string ByteArray.empty), 1, 16) := by kernel_rfl
theorem mem_lens : ∀ (ws : List (List UInt8)) (W : List UInt8), W ∈ ws → W.length ≤ Lib.lens ws
  | w :: r, W, h => by
    rcases List.mem_cons.1 h with rfl | h
    · simp [Lib.lens]
    · have := mem_lens r W h
      simp [Lib.lens] at this ⊢
      omega
theorem split_word_len (l : List UInt8) : ∀ W ∈ splitT l, W.length ≤ 2 * l.length + 1 := by
  intro W hW
  have h1 := mem_lens _ W hW
  have h2 := fieldsGo_len (raw l) []
  have h3 := raw_len l.length l (Nat.le_refl _)
  unfold splitT Lib.fields at h1
  rw [List.length_nil] at h2
  omega
def strs (L : List (List UInt8)) : List Value := L.map fun l => Value.string ⟨l.toArray⟩

set_option maxHeartbeats 2000000 in
set_option maxRecDepth 100000 in
theorem wordsParts_walk (a b : ByteArray) (w : World) (hT : Tabs w) (hs : a.size ≤ 140737488351232) (hb : b.size ≤ 140737488351232) : Calls Tryd.prog 4 #[.string a, .string b] w fun e w' => e = .returned (.bool true) ∧ Below w.heap.size w w' := by
  by_cases h4 : 400 < a.size + b.size
  · have h4' : (400 : Int) < (a.size : Int) + (b.size : Int) := by omega
    have ca := Lib.hid (awake_any w hT)
    go_enter Tryd.func4, Tryd.ntmps4
    go_wp2_with (go_at_call 17; refine ca.out.mono ?_; rintro e w1 ⟨rfl, hb1⟩)
    go_ret
    exact ⟨rfl, hb1⟩
  · have h4' : ¬ (400 : Int) < (a.size : Int) + (b.size : Int) := by omega
    obtain ⟨i0, hi, hz0, hz1, hz2⟩ := info_parts info9
    have e3 : splitT (a ++ ⟨#[32]⟩ ++ b).data.toList = splitT a.data.toList ++ splitT b.data.toList := by
      rw [← split_parts]
      congr 1
      simp [ByteArray.data_append]
    have cs1 := split_any a w (by omega) hT
    have cs2 := fun w h => split_any b w (by omega) h
    have cs3 := fun w h => split_any (a ++ ⟨#[32]⟩ ++ b) w (by rw [ByteArray.size_append, ByteArray.size_append]; show a.size + 1 + b.size ≤ _; omega) h
    have hw1 := split_words a.data.toList
    have hw2 := split_words b.data.toList
    have hl1 := split_len a.data.toList
    have hl2 := split_len b.data.toList
    have hla : a.data.toList.length = a.size := by simp
    have hlb : b.data.toList.length = b.size := by simp
    have hfw : ∀ W ∈ splitT a.data.toList ++ splitT b.data.toList, W.length ≤ 1000000000 := fun W hW => by
      rcases List.mem_append.1 hW with h | h
      · have := split_word_len a.data.toList W h; omega
      · have := split_word_len b.data.toList W h; omega
    unfold SplitPost at cs1 cs2 cs3
    rw [e3] at cs3
    generalize splitT a.data.toList = la at cs1 cs2 cs3 hw1 hl1 hfw
    generalize splitT b.data.toList = lb at cs1 cs2 cs3 hw2 hl2 hfw
    clear e3
    replace cs1 := Lib.hid cs1
    replace cs2 := Lib.hid cs2
    replace cs3 := Lib.hid cs3
    go_enter Tryd.func4, Tryd.ntmps4
    go_wp2_with fail
    refine cs1.out.mono ?_
    rintro e w1 ⟨A1, rfl, hA1, hrow1, hb1⟩
    have hT1 := hT.below hb1 hT.six
    go_wp2_with fail
    refine (cs2.out w1 hT1).mono ?_
    rintro e w2 ⟨A2, rfl, hA2, hrow2, hb2⟩
    have hT2 := hT1.below hb2 hT1.six
    go_wp2_with fail
    refine (cs3.out w2 hT2).mono ?_
    rintro e w3 ⟨A3, rfl, hA3, hrow3, hb3⟩
    have hT3 := hT2.below hb3 hT2.six
    have hz1 : A1 < w1.heap.size := (Array.getElem?_eq_some_iff.1 hrow1).1
    have hz2' : A2 < w2.heap.size := (Array.getElem?_eq_some_iff.1 hrow2).1
    have hz3 : A3 < w3.heap.size := (Array.getElem?_eq_some_iff.1 hrow3).1
    have hr1 := (hb3.block A1 (Nat.lt_of_lt_of_le hz1 hb2.size)).trans ((hb2.block A1 hz1).trans hrow1)
    have hr2 := (hb3.block A2 hz2').trans hrow2
    have hs12 := hb1.size
    have hs23 := hb2.size
    have hs34 := hb3.size
    have hown0 := World.ownsRow_nil w3 w3.heap.size 9 1
    rw [List.length_append]
    have n1 : ∀ j u, (strs la)[j]? = some u → w3.cell? ((⟨A1, 0, none⟩ : Addr).add j) = some u := fun j u hj => by
      have e : (⟨A1, 0, none⟩ : Addr).add j = ⟨A1, j, none⟩ := by simp [Addr.add]; omega
      rw [e, cell_row hr1]
      simpa [strs] using hj
    have o1 : ∀ u ∈ strs la, u.oneCell' = true := fun u hu => by
      obtain ⟨l, _, rfl⟩ := List.mem_map.1 hu
      rfl
    have o2 : ∀ u ∈ strs lb, u.oneCell' = true := fun u hu => by
      obtain ⟨l, _, rfl⟩ := List.mem_map.1 hu
      rfl
    have m1 : (strs la).length = la.length * 1 := by simp [strs]
    have m2 : (strs lb).length = lb.length * 1 := by simp [strs]
    have N1 := Lib.hid n1
    clear n1
    replace m1 := Lib.hid m1
    replace m2 := Lib.hid m2
    go_wp2_with (at_builtin; refine wpList_append_own _ rfl (.const (.slice none 0 0)) (.tmp 34) 27 rfl w3.heap.size 9 i0 (.string ByteArray.empty) 1 16 Tryd.underlying27 hi hz0 (by assumption) (by assumption) rfl (by decide) _ _ _ rfl hown0 ⟨A1, 0, none⟩ la.length la.length (strs la) rfl m1.out N1.out o1 (by unfold maxLen; omega) (by omega) (Nat.le_refl _) ?_)
    intro v1 w4 hown1 hg1 _
    have hr24 : w4.heap[A2]? = some (.cells (lb.map fun l => Value.string ⟨l.toArray⟩).toArray 9 (0, 0)) := (hg1.block A2 (by omega) (by simp [Value.ownBlock])).trans hr2
    have n2 : ∀ j u, (strs lb)[j]? = some u → w4.cell? ((⟨A2, 0, none⟩ : Addr).add j) = some u := fun j u hj => by
      have e : (⟨A2, 0, none⟩ : Addr).add j = ⟨A2, j, none⟩ := by simp [Addr.add]; omega
      rw [e, cell_row hr24]
      simpa [strs] using hj
    have N2 := Lib.hid n2
    clear n2
    have hsz4 := hg1.size
    go_wp2_with (at_builtin; refine wpList_append_own _ rfl (.tmp 35) (.tmp 36) 27 rfl w3.heap.size 9 i0 (.string ByteArray.empty) 1 16 Tryd.underlying27 hi hz0 (by assumption) (by assumption) rfl (by decide) _ _ _ rfl hown1 ⟨A2, 0, none⟩ lb.length lb.length (strs lb) rfl m2.out N2.out o2 (by unfold maxLen; omega) (by omega) hsz4 ?_)
    intro v2 w5 hown2 hg2 _
    have hlt1 := hown1.lt
    have hr35 : w5.heap[A3]? = some (.cells ((la ++ lb).map fun l => Value.string ⟨l.toArray⟩).toArray 9 (0, 0)) := (hg2.block A3 (by omega) (fun e => by have := (hlt1 A3 e.symm).1; omega)).trans ((hg1.block A3 hz3 (by simp [Value.ownBlock])).trans hrow3)
    have hsz5 := hg2.size
    have hbw5 : Below w.heap.size w w5 := by
      have c2 := (hb1.trans (hb2.mono hs12)).trans (hb3.mono (Nat.le_trans hs12 hs23))
      have c3 : Below w.heap.size w w4 := c2.grown hg1 c2.size (fun j hj => by simp [Value.ownBlock] at hj)
      exact c3.grown hg2 c3.size (fun j hj => by have := (hlt1 j hj).1; have := c2.size; omega)
    have hT5 : Tabs w5 := hT.below hbw5 hT.six
    obtain ⟨ao, cap, hv2, hcell⟩ : ∃ ao cap, v2 = .slice ao (la.length + lb.length) cap ∧ ∀ k l, (la ++ lb)[k]? = some l → ∃ g, ao = some ⟨g, 0, none⟩ ∧ w5.cell? ⟨g, k, none⟩ = some (.string ⟨l.toArray⟩) ∧ g < w5.heap.size := by
      rcases hown2.2 with ⟨hv, h0⟩ | ⟨g, c, cur, hv, _, hgc, _, _, _, htk⟩
      · refine ⟨none, 0, by rw [hv, h0], fun k l hk => ?_⟩
        have := (List.getElem?_eq_some_iff.1 hk).1
        rw [List.length_append] at this
        omega
      · refine ⟨some ⟨g, 0, none⟩, c, hv, fun k l hk => ⟨g, rfl, ?_, (Array.getElem?_eq_some_iff.1 hgc).1⟩⟩
        have hkl := (List.getElem?_eq_some_iff.1 hk).1
        rw [List.length_append] at hkl
        rw [cell_row hgc, ← Array.getElem?_toList]
        have e : cur.toList[k]? = (cur.toList.take ((la.length + lb.length) * 1))[k]? := by rw [List.getElem?_take, if_pos (by omega)]
        rw [e, htk]
        simp only [strs, ← List.map_append, List.getElem?_map, hk, Option.map_some]
    subst hv2
    have hw : ∀ W ∈ la ++ lb, Word W := fun W hW => by
      rcases List.mem_append.1 hW with h | h
      · exact hw1 W h
      · exact hw2 W h
    have hNl : (la ++ lb).length = la.length + lb.length := List.length_append
    generalize la ++ lb = L at hr35 hcell hw hfw hNl
    clear hown2 hown1 hg1 hg2 hlt1 hr24 N2 N1 m1 m2 o1 o2 hrow1 hrow2 hrow3 hr1 hr2 hw1 hw2 hown0 hz1 hz2' hz3 hs12 hs23 hs34 hsz4 hsz5 hb1 hb2 hb3 hT1 hT2 hT3 cs1 cs2 cs3 hA1 hA2 hA3
    replace hNl := Lib.hid hNl
    go_wp2_with fail
    go_loopw [39] (fun v wr => ∃ k : Nat, k ≤ la.length + lb.length ∧ v = .int .i64 k ∧ Below w5.heap.size w5 wr) (fun v wr => la.length + lb.length - (intOf v).toNat)
    case atStart => exact ⟨0, Nat.zero_le _, rfl, Below.refl _ _⟩
    case round =>
      obtain ⟨k, hk, rfl, hbk⟩ := hrel
      by_cases hlt : k < la.length + lb.length
      · obtain ⟨W, hW⟩ : ∃ W, L[k]? = some W := ⟨L[k]'(by rw [hNl.out]; exact hlt), List.getElem?_eq_getElem _⟩
        obtain ⟨g, rfl, hc1, hgl⟩ := hcell k W hW
        have hc3 : w5.cell? ⟨A3, k, none⟩ = some (.string ⟨W.toArray⟩) := by rw [cell_row hr35]; simp [hW]
        have hA3l : A3 < w5.heap.size := (Array.getElem?_eq_some_iff.1 hr35).1
        have d1 : wr.cell? ⟨g, k, none⟩ = some (.string ⟨W.toArray⟩) := by rw [hbk.cell (p := ⟨g, k, none⟩) hgl]; exact hc1
        have d3 : wr.cell? ⟨A3, k, none⟩ = some (.string ⟨W.toArray⟩) := by rw [hbk.cell (p := ⟨A3, k, none⟩) hA3l]; exact hc3
        have hwW := hw W (List.mem_of_getElem? hW)
        have hlW := hfw W (List.mem_of_getElem? hW)
        have hTr := hT5.below hbk hT5.six
        have cf := foldtext_any ⟨W.toArray⟩ wr (by show W.toArray.size ≤ _; simpa using hlW) hTr
        rw [show (⟨W.toArray⟩ : ByteArray).data.toList = W from by simp, fold_word W hwW] at cf
        have hne : W.isEmpty = false := by
          cases W with
          | nil => exact absurd rfl hwW.1
          | cons _ _ => rfl
        have hne' : (⟨W.toArray⟩ : ByteArray).toList.isEmpty = false := by rw [ByteArray.toList_eq]; simpa using hne
        generalize (⟨W.toArray⟩ : ByteArray) = S at cf d1 d3 hne'
        replace cf := Lib.hid cf
        clear hcell hw hfw hc1 hc3 hwW hlW hW hne hr35
        go_wp2_with (go_at_call 18; refine cf.out.mono ?_; rintro e w6 ⟨rfl, hb6⟩)
        go_roundw
        case rel => exact ⟨k + 1, by omega, by go_num, hbk.trans (hb6.mono hbk.size)⟩
        case measure => simp [intOf]; omega
      · clear hcell hw hfw hr35
        have hTr := hT5.below hbk hT5.six
        have ca := Lib.hid (awake_any wr hTr)
        go_wp2_with (go_at_call 17; refine ca.out.mono ?_; rintro e w6 ⟨rfl, hb6⟩)
        go_ret
        have c2 := hbw5.trans (hbk.mono hbw5.size)
        exact ⟨rfl, c2.trans (hb6.mono c2.size)⟩
#print axioms wordsParts_walk
end Go.Proofs.YtpejnnnkamodbaaDoor
