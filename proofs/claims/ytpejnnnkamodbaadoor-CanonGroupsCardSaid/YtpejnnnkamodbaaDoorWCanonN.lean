/- The package canon: Name, Same. -/
import Derived.Test.YtpejnnnkamodbaaDoorWCanon
import Derived.Test.YtpejnnnkamodbaaDoorWAliasA
namespace Go.Proofs.YtpejnnnkamodbaaDoor
open Go Go.RowKit Go.Maps Go.WideMaps Go.Lib Go.Proofs.YtpejnnnkamodbaaDoorW.PrintWords Go.Proofs.YtpejnnnkamodbaaDoorW.PrintLast
open PCanonEqual (S49 k49 z49 S40 k40 z40)

theorem name_bad {rs : List S49} {l : List S40} {s : ByteArray} {t : Int} (h : (rulesT rs && validT l) = false) : nameF rs l s t = (⟨#[]⟩, 1) := by
  unfold nameF
  rw [if_neg]
  rintro ⟨h1, h2⟩
  rw [h1, h2] at h
  cases h
theorem name_good {rs : List S49} {l : List S40} {s : ByteArray} {t : Int} (h : (rulesT rs && validT l) = true) : nameF rs l s t = if (beginT rs s).2 = 0 then endF (nextF rs l t) (beginT rs s).1 else (⟨#[]⟩, (beginT rs s).2) := by
  simp only [Bool.and_eq_true] at h
  unfold nameF
  rw [if_pos h]
set_option maxHeartbeats 4000000 in
set_option maxRecDepth 100000 in
set_option linter.unusedSimpArgs false in
theorem name_fn (nv : Value) (rs : List S49) (l : List S40) (s : ByteArray) (t : Int) (w : World) (hT : Tabs w) (hn : NamesAt w nv rs l) :
    Calls Tryd.prog 40 #[nv, .string s, .int .i64 t] w fun e w' => e = .returned (.tuple #[.string (nameF rs l s t).1, .int .i64 (nameF rs l s t).2]) ∧ Below w.heap.size w w' := by
  have hmm := @run_makeMap Tryd.prog
  have hN := hn
  obtain ⟨A1, c1, A2, c2, rfl, hC1, hC2⟩ := hn.out
  have hbA : Below w.heap.size w (w.alloc (Obj.cells #[.slice A1 rs.length c1, .slice A2 l.length c2] 55)) := (Below.refl _ _).alloc (Nat.le_refl _) _
  have hkA := heap_alloc_new w (Obj.cells #[.slice A1 rs.length c1, .slice A2 l.length c2] 55)
  have cv := canon_valid _ rs l _ (hT.below hbA hT.six) (hN.below hbA)
  clear hC1 hC2 hn
  cases hv : (rulesT rs && validT l) with
  | false =>
    rw [hv] at cv
    rw [name_bad hv]
    replace cv := Lib.hid cv
    clear hkA hN
    go_enter Tryd.func40, Tryd.ntmps40
    go_wp2_with fail
    refine cv.out.mono ?_
    rintro e w1 ⟨rfl, hb1⟩
    go_wp2_with fail
    go_ret2
    exact ⟨rfl, hbA.trans (hb1.mono hbA.size)⟩
  | true =>
    rw [hv] at cv
    have hvl : validT l = true := by simp only [Bool.and_eq_true] at hv; exact hv.2
    have hl256 : l.length ≤ 256 := ((valid_iff l).1 hvl).1
    rw [name_good hv]
    have cb := fun w1 (hb : Below w.heap.size w w1) => begin_fn _ rs l s w1 (hT.below hb hT.six) (hN.below hb)
    have cn := Lib.hid (fun u w1 (hb : Below w.heap.size w w1) hu => next_fn _ rs l u t w1 (hT.below hb hT.six) (hN.below hb) hu)
    generalize hR0 : beginT rs s = R0 at cb ⊢
    obtain ⟨n0, e0⟩ := R0
    simp only at cb ⊢
    replace cb := Lib.hid cb
    replace cv := Lib.hid cv
    replace hkA := Lib.hid hkA
    replace hN := Lib.hid hN
    replace hR0 := Lib.hid hR0
    clear hvl hv
    have hTb := fun w1 (hb : Below w.heap.size w w1) => hT.below hb hT.six
    replace hTb := Lib.hid hTb
    by_cases he : e0 = 0
    · subst he
      rw [if_pos rfl]
      go_enter Tryd.func40, Tryd.ntmps40
      go_wp2_with fail
      refine cv.out.mono ?_
      rintro e w1 ⟨rfl, hb1⟩
      have hb1' := hbA.trans (hb1.mono hbA.size)
      have hk1 := (hb1.block _ (Array.getElem?_eq_some_iff.1 hkA.out).1).trans hkA.out
      have q0 : w1.cell? ⟨w.heap.size, 0, none⟩ = some (.slice A1 rs.length c1) := (cell_row hk1 0).trans rfl
      have q1 : w1.cell? ⟨w.heap.size, 1, none⟩ = some (.slice A2 l.length c2) := (cell_row hk1 1).trans rfl
      clear cv
      go_wp2_with fail
      refine (cb.out w1 hb1').mono ?_
      rintro e w2 ⟨rfl, hb2⟩
      have hb2' := hb1'.trans (hb2.mono hb1'.size)
      have hk2 := Lib.hid ((hb2.block _ (Array.getElem?_eq_some_iff.1 hk1).1).trans hk1)
      have hlt2 : w.heap.size < w2.heap.size := (Array.getElem?_eq_some_iff.1 hk2.out).1
      clear cb hk1 q0 q1 hb1 hb2 hbA
      go_wp2_with fail
      clear hmm
      generalize hf : nextF rs l t = f
      have hmem := fun (s0 s u : ByteArray) => @next_mem rs l t s0 s u
      have hbeg := fun (s u : ByteArray) => @next_begun rs l t s u
      rw [hf] at cn hmem hbeg
      replace hmem := Lib.hid hmem
      replace hbeg := Lib.hid hbeg
      replace hf := Lib.hid hf
      go_loopg [8] (n0 :: l.map (fun a => (beginT rs a.f1).1)).length (fun gk v wr => ∃ (cur : ByteArray) (vs : List ByteArray), v = .string cur ∧ cur.size ≤ 512 ∧ Dict encB Tryd.prog 9 wr w2.heap.size vs.length (seenF vs) ∧ vs.Nodup ∧ Aside (cur ∉ vs) ∧ Aside (∀ v ∈ vs, v ∈ n0 :: l.map (fun a => (beginT rs a.f1).1)) ∧ Aside (cur ∈ n0 :: l.map (fun a => (beginT rs a.f1).1)) ∧ Aside (∃ s0, beginT rs s0 = (cur, 0)) ∧ Aside (∀ v ∈ vs, StepsQ f v cur) ∧ Aside (endF f n0 = endF f cur) ∧ Below w2.heap.size w2 wr ∧ Aside (vs.length + gk = (n0 :: l.map (fun a => (beginT rs a.f1).1)).length))
      case atStart => exact ⟨n0, [], rfl, by have := @begin_size rs s; rw [hR0.out] at this; exact this, (Dict.made w2).congr (fun _ => by simp [seenF]), List.nodup_nil, by simp [Aside], by simp [Aside], by simp [Aside], ⟨s, hR0.out⟩, by simp [Aside], rfl, (Below.refl _ _).alloc (Nat.le_refl _) _, by simp [Aside]⟩
      case round =>
        obtain ⟨cur, vs, rfl, hcs, hS, hnd, hcv, hvL, hcL, hs0, hvr, hend, hbr, hgk⟩ := hrel
        have hkr := (hbr.block _ (Array.getElem?_eq_some_iff.1 hk2.out).1).trans hk2.out
        have q0 : wr.cell? ⟨w.heap.size, 0, none⟩ = some (.slice A1 rs.length c1) := (cell_row hkr 0).trans rfl
        have q1 : wr.cell? ⟨w.heap.size, 1, none⟩ = some (.slice A2 l.length c2) := (cell_row hkr 1).trans rfl
        have hne : (some w.heap.size : Option Nat) ≠ some w2.heap.size := by simp; omega
        have hle : vs.length + 1 ≤ (n0 :: l.map (fun a => (beginT rs a.f1).1)).length := by
          have := nodup_sub (cur :: vs) _ (List.nodup_cons.2 ⟨hcv.out, hnd⟩) (fun v hv' => by
            rcases List.mem_cons.1 hv' with rfl | hv'
            · exact hcL.out
            · exact hvL.out v hv')
          simpa using this
        have hvn : vs.length < maxLen := by
          rw [List.length_cons, List.length_map] at hle
          unfold maxLen
          omega
        clear hkr
        go_wp2_with (at_mapUpdate; refine wpList_dict_put (enc := encB) _ rfl _ _ _ 97 rfl 9 4 Tryd.underlying9 Tryd.underlying97 encB_inj _ vs.length (seenF vs) rfl hS hvn cur true rfl rfl (by unfold maxLen; exact Nat.le_trans hcs (by decide)) ?_; intro w5 hD5 hg5; have r0 := hg5.cell q0 hne; have r1 := hg5.cell q1 hne)
        have hD5' := hD5.congr (fun s => seenF_cons vs cur s)
        have hbw2 : Below w2.heap.size w2 w5 := hbr.grown hg5 hbr.size (fun k hk => by cases hk; exact Nat.le_refl _)
        have hbw := hb2'.trans (hbw2.mono hb2'.size)
        have cc := Lib.hid (cn.out cur w5 hbw (by omega))
        generalize hR : f cur = R at cc
        obtain ⟨tq, why⟩ := R
        replace hR := Lib.hid hR
        simp only at cc
        refine cc.out.mono ?_
        rintro e w6 ⟨rfl, hb6⟩
        have hD6 := hD5'.below hb6
        have hbw6 := hbw2.trans (hb6.mono hbw2.size)
        have hbT := hb2'.trans (hbw6.mono hb2'.size)
        clear cc hD5 hg5 hS r0 r1 q0 q1 hD5'
        by_cases hw : why = 0
        · subst hw
          by_cases heq : tq = cur
          · subst heq
            go_wp2_with fail
            go_ret2
            exact ⟨by rw [hf.out, hend.out, end_of (.fix hR.out)]; rfl, hbT⟩
          · have heq1 : ¬ tq.toList = cur.toList := fun h => heq (by rw [ByteArray.toList_eq, ByteArray.toList_eq] at h; exact ByteArray.ext (Array.toList_inj.1 h))
            have heq' : (tq.toList = cur.toList) = False := eq_false heq1
            have heq2 : (tq.toList == cur.toList) = false := by simpa using heq1
            have hto : tq.size ≤ 512 := by
              obtain ⟨s1, hs1⟩ := hbeg.out _ _ hR.out
              have := @begin_size rs s1
              rw [hs1] at this
              exact this
            clear heq1
            replace heq := Lib.hid heq
            by_cases hin : tq ∈ cur :: vs
            · have hg := seenF_in hin
              go_wp2_with (at_lookup; refine wpList_dict_get (enc := encB) _ rfl _ _ 97 rfl 9 4 Tryd.underlying9 Tryd.underlying97 encB_inj false rfl _ _ _ rfl hD6 tq rfl (by unfold maxLen; exact Nat.le_trans hto (by decide)) ?_; rw [hg, encB])
              go_ret2
              refine ⟨?_, hbT⟩
              have hin' : tq ∈ vs := by
                rcases List.mem_cons.1 hin with h | h
                · exact absurd h heq.out
                · exact h
              rw [hf.out, hend.out, end_none fun r e hr => ends_no_cycle hr _ (.more hR.out heq.out (hvr.out tq hin')) rfl]
              rfl
            · have hg := seenF_out hin
              go_wp2_with (at_lookup; refine wpList_dict_get (enc := encB) _ rfl _ _ 97 rfl 9 4 Tryd.underlying9 Tryd.underlying97 encB_inj false rfl _ _ _ rfl hD6 tq rfl (by unfold maxLen; exact Nat.le_trans hto (by decide)) ?_; rw [hg, encB])
              go_roundg (gk - 1)
              case measure => have := hgk.out; omega
              case rel =>
                obtain ⟨s0, hs0'⟩ := hs0.out
                refine ⟨tq, cur :: vs, rfl, hto, hD6, List.nodup_cons.2 ⟨hcv.out, hnd⟩, hin, ?_, ?_, hbeg.out _ _ hR.out, ?_, ?_, hbw6, ?_⟩
                · intro v hv'
                  rcases List.mem_cons.1 hv' with rfl | hv'
                  · exact hcL.out
                  · exact hvL.out v hv'
                · rcases hmem.out s0 cur tq hs0' hR.out with h | ⟨a, ha, hab⟩
                  · exact absurd h heq.out
                  · exact List.mem_cons_of_mem _ (List.mem_map.2 ⟨a, ha, by rw [hab]⟩)
                · intro v hv'
                  rcases List.mem_cons.1 hv' with rfl | hv'
                  · exact .one hR.out heq.out
                  · exact (hvr.out v hv').snoc hR.out heq.out
                · exact hend.out.trans (end_step hR.out heq.out)
                · show (cur :: vs).length + (gk - 1) = _
                  have := hgk.out
                  rw [List.length_cons]
                  omega
        · have e0 : (why == 0) = false := beq_eq_false_iff_ne.mpr hw
          replace hw := Lib.hid hw
          go_wp2_with fail
          go_ret2
          exact ⟨by rw [hf.out, hend.out, end_of (.err (by rw [hR.out]) hw.out)]; rfl, hbT⟩
    · rw [if_neg he]
      have e0' : (e0 == 0) = false := beq_eq_false_iff_ne.mpr he
      clear he cn
      go_enter Tryd.func40, Tryd.ntmps40
      go_wp2_with fail
      refine cv.out.mono ?_
      rintro e w1 ⟨rfl, hb1⟩
      have hb1' := hbA.trans (hb1.mono hbA.size)
      have hk1 := (hb1.block _ (Array.getElem?_eq_some_iff.1 hkA.out).1).trans hkA.out
      have q0 : w1.cell? ⟨w.heap.size, 0, none⟩ = some (.slice A1 rs.length c1) := (cell_row hk1 0).trans rfl
      have q1 : w1.cell? ⟨w.heap.size, 1, none⟩ = some (.slice A2 l.length c2) := (cell_row hk1 1).trans rfl
      clear cv hk1
      go_wp2_with fail
      refine (cb.out w1 hb1').mono ?_
      rintro e w2 ⟨rfl, hb2⟩
      have hb2' := hb1'.trans (hb2.mono hb1'.size)
      clear cb q0 q1 hb1 hb2
      go_wp2_with fail
      go_loopg [8] 1 (fun gk v wr => v = .string n0 ∧ gk = 1 ∧ Below w2.heap.size w2 wr)
      case atStart => exact ⟨rfl, rfl, (Below.refl _ _).alloc (Nat.le_refl _) _⟩
      case round =>
        obtain ⟨rfl, rfl, hbr⟩ := hrel
        go_wp2_with fail
        go_ret2
        exact ⟨rfl, hb2'.trans (hbr.mono hb2'.size)⟩
set_option maxHeartbeats 4000000 in
set_option maxRecDepth 100000 in
theorem same_fn (nv : Value) (rs : List S49) (l : List S40) (a b : ByteArray) (t : Int) (w : World) (hT : Tabs w) (hn : NamesAt w nv rs l) :
    Calls Tryd.prog 38 #[nv, .string a, .string b, .int .i64 t] w fun e w' => e = .returned (.bool (sameF rs l a b t)) ∧ Below w.heap.size w w' := by
  have hN := hn
  obtain ⟨A1, c1, A2, c2, rfl, hC1, hC2⟩ := hn.out
  have hbA : Below w.heap.size w (w.alloc (Obj.cells #[.slice A1 rs.length c1, .slice A2 l.length c2] 55)) := (Below.refl _ _).alloc (Nat.le_refl _) _
  have hkA := heap_alloc_new w (Obj.cells #[.slice A1 rs.length c1, .slice A2 l.length c2] 55)
  have cn := fun u w1 (hb : Below w.heap.size w w1) => name_fn _ rs l u t w1 (hT.below hb hT.six) (hN.below hb)
  have ca := cn a
  have cb := cn b
  clear cn hC1 hC2 hn hN
  unfold sameF
  generalize nameF rs l a t = Ra at ca ⊢
  generalize nameF rs l b t = Rb at cb ⊢
  obtain ⟨x, e⟩ := Ra
  obtain ⟨y, f⟩ := Rb
  simp only at ca cb ⊢
  replace ca := Lib.hid ca
  replace cb := Lib.hid cb
  replace hkA := Lib.hid hkA
  go_enter Tryd.func38, Tryd.ntmps38
  go_wp2_with fail
  refine (ca.out _ hbA).mono ?_
  rintro e1 w1 ⟨rfl, hb1⟩
  have hb1' := hbA.trans (hb1.mono hbA.size)
  have hk1 := (hb1.block _ (Array.getElem?_eq_some_iff.1 hkA.out).1).trans hkA.out
  have q0 : w1.cell? ⟨w.heap.size, 0, none⟩ = some (.slice A1 rs.length c1) := (cell_row hk1 0).trans rfl
  have q1 : w1.cell? ⟨w.heap.size, 1, none⟩ = some (.slice A2 l.length c2) := (cell_row hk1 1).trans rfl
  clear hk1 ca
  go_wp2_with fail
  refine (cb.out w1 hb1').mono ?_
  rintro e2 w2 ⟨rfl, hb2⟩
  have hb2' := hb1'.trans (hb2.mono hb1'.size)
  clear cb q0 q1
  by_cases he : e = 0
  · subst he
    by_cases hf : f = 0
    · subst hf
      go_wp2_with fail
      go_ret
      exact ⟨ret_bool (by simp), hb2'⟩
    · have e0 : (f == 0) = false := beq_eq_false_iff_ne.mpr hf
      have e1 : decide (f = 0) = false := decide_eq_false hf
      go_wp2_with fail
      go_ret
      exact ⟨ret_bool (by simp), hb2'⟩
  · have e0 : (e == 0) = false := beq_eq_false_iff_ne.mpr he
    have e1 : decide (e = 0) = false := decide_eq_false he
    go_wp2_with fail
    go_ret
    exact ⟨ret_bool (by simp [he]), hb2'⟩
#print axioms same_fn
end Go.Proofs.YtpejnnnkamodbaaDoor
