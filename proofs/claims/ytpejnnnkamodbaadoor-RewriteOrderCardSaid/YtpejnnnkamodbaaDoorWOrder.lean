/- The walk of reportescrowlaw12.RewriteOrder: whatever the dice, it returns true. -/
import Derived.Test.YtpejnnnkamodbaaDoorWOrderP
import Derived.Test.YtpejnnnkamodbaaDoorWRwB
import Derived.Test.YtpejnnnkamodbaaDoorWAliasB
namespace Go.Proofs.YtpejnnnkamodbaaDoor
open Go Go.RowKit Go.Lib Go.Proofs.YtpejnnnkamodbaaDoorW.PrintWords Go.Proofs.YtpejnnnkamodbaaDoorW.PrintLast
open PCanonEqual (S49 k49 z49 k49_mk k49_mkM k49_open k49_openM at_T49 rd_T49)

theorem get_A (ia : Nat) (h : ia ≤ 2) : ([Value.string ⟨#[112, 104]⟩, Value.string ⟨#[104]⟩, Value.int IntKind.i64 0, Value.string ⟨#[112, 112]⟩, Value.string ⟨#[112]⟩, Value.int IntKind.i64 0, Value.string ⟨#[104, 112]⟩, Value.string ⟨#[112]⟩, Value.int IntKind.i64 2] : List Value)[ia * 3]? = some (.string (ruleA ia).f0) ∧
    ([Value.string ⟨#[112, 104]⟩, Value.string ⟨#[104]⟩, Value.int IntKind.i64 0, Value.string ⟨#[112, 112]⟩, Value.string ⟨#[112]⟩, Value.int IntKind.i64 0, Value.string ⟨#[104, 112]⟩, Value.string ⟨#[112]⟩, Value.int IntKind.i64 2] : List Value)[ia * 3 + 1]? = some (.string (ruleA ia).f1) ∧
    ([Value.string ⟨#[112, 104]⟩, Value.string ⟨#[104]⟩, Value.int IntKind.i64 0, Value.string ⟨#[112, 112]⟩, Value.string ⟨#[112]⟩, Value.int IntKind.i64 0, Value.string ⟨#[104, 112]⟩, Value.string ⟨#[112]⟩, Value.int IntKind.i64 2] : List Value)[ia * 3 + 2]? = some (.int .i64 (ruleA ia).f2) := by
  rcases ia with _ | _ | _ | ia
  · exact ⟨rfl, rfl, rfl⟩
  · exact ⟨rfl, rfl, rfl⟩
  · exact ⟨rfl, rfl, rfl⟩
  · omega
theorem get_B (ib : Nat) (h : ib ≤ 2) : ([Value.string ⟨#[122, 122]⟩, Value.string ⟨#[122]⟩, Value.int IntKind.i64 0, Value.string ⟨#[115, 122]⟩, Value.string ⟨#[115]⟩, Value.int IntKind.i64 3, Value.string ⟨#[122]⟩, Value.string ⟨#[115]⟩, Value.int IntKind.i64 0] : List Value)[ib * 3]? = some (.string (ruleB ib).f0) ∧
    ([Value.string ⟨#[122, 122]⟩, Value.string ⟨#[122]⟩, Value.int IntKind.i64 0, Value.string ⟨#[115, 122]⟩, Value.string ⟨#[115]⟩, Value.int IntKind.i64 3, Value.string ⟨#[122]⟩, Value.string ⟨#[115]⟩, Value.int IntKind.i64 0] : List Value)[ib * 3 + 1]? = some (.string (ruleB ib).f1) ∧
    ([Value.string ⟨#[122, 122]⟩, Value.string ⟨#[122]⟩, Value.int IntKind.i64 0, Value.string ⟨#[115, 122]⟩, Value.string ⟨#[115]⟩, Value.int IntKind.i64 3, Value.string ⟨#[122]⟩, Value.string ⟨#[115]⟩, Value.int IntKind.i64 0] : List Value)[ib * 3 + 2]? = some (.int .i64 (ruleB ib).f2) := by
  rcases ib with _ | _ | _ | ib
  · exact ⟨rfl, rfl, rfl⟩
  · exact ⟨rfl, rfl, rfl⟩
  · exact ⟨rfl, rfl, rfl⟩
  · omega
theorem keep_row {w w' : World} {g b : Nat} {o : Obj} (h : KeepBut w w' g none) (hb : w.heap[b]? = some o) (hg : b ≠ g) : w'.heap[b]? = some o :=
  (h.2 b (Array.getElem?_eq_some_iff.1 hb).1 hg (by simp)).trans hb
set_option maxHeartbeats 4000000 in
set_option maxRecDepth 100000 in
theorem rewriteOrder_walk (A : Option Addr) (c : Nat) (l : List Int) (n : Int) (w : World) (hT : Tabs w) (hr : Kd.C (Kd.int .i64) w A l.length l) (hc : l.length ≤ c) (hn0 : 0 ≤ n) (_hn1 : n ≤ 255) :
    Calls Tryd.prog 11 #[.slice A l.length c, .int .u8 n] w fun e w' => e = .returned (.bool true) ∧ Below w.heap.size w w' := by
  have cl := Lib.hid (light_any A c l w hr hc)
  obtain ⟨ia, hia⟩ : ∃ m : Nat, Int.tmod n 3 = m := ⟨(Int.tmod n 3).toNat, by have := Int.tmod_nonneg 3 hn0; omega⟩
  have hia2 : ia ≤ 2 := by have := Int.tmod_lt_of_pos n (b := 3) (by decide); omega
  obtain ⟨ib, hib⟩ : ∃ m : Nat, Int.tdiv n 3 % 256 % 3 = (m : Int) := ⟨(Int.tdiv n 3 % 256 % 3).toNat, by omega⟩
  have hib2 : ib ≤ 2 := by omega
  clear hn0 _hn1
  by_cases hl : l.length ≤ 500
  · have e0 : decide ((l.length : Int) ≤ 500) = true := decide_eq_true (by omega)
    rw [e0] at cl
    have cr := Lib.hid (fun w1 hB => roll_any A c l w w1 hB hr hc hl)
    replace hr := Lib.hid hr
    clear hl e0
    replace hc := Lib.hid hc
    go_enter Tryd.func11, Tryd.ntmps11
    go_wp2_with fail
    refine cl.out.mono ?_
    rintro e w1 ⟨rfl, ⟨n1, rfl⟩⟩
    go_wp2_with fail
    refine (cr.out _ (pw_below_drewN (Below.refl _ _) _)).mono ?_
    rintro e w2 ⟨g, rfl, hd2, hb2⟩
    clear cl cr
    obtain ⟨a0, a1, a2⟩ := get_A ia hia2
    obtain ⟨b0, b1, b2⟩ := get_B ib hib2
    have hsame := order_same ia ib hia2 hib2
    generalize ruleA ia = ra at a0 a1 a2 hsame
    generalize ruleB ib = rb at b0 b1 b2 hsame
    obtain ⟨fa, ta, ka⟩ := ra
    obtain ⟨fb, tb, kb⟩ := rb
    simp only at a0 a1 a2 b0 b1 b2
    have hia3 : (ia : Int) < 3 := by omega
    have hib3 : (ib : Int) < 3 := by omega
    replace hsame := Lib.hid hsame
    go_wp2_with fail
    have hkA := heap_alloc_new (w2.alloc (Obj.cells #[Value.string ⟨#[112, 104]⟩, Value.string ⟨#[104]⟩, Value.int IntKind.i64 0, Value.string ⟨#[112, 112]⟩, Value.string ⟨#[112]⟩, Value.int IntKind.i64 0, Value.string ⟨#[104, 112]⟩, Value.string ⟨#[112]⟩, Value.int IntKind.i64 2] 49)) (Obj.cells #[Value.string fa, Value.string ta, Value.int IntKind.i64 ka] 49)
    have hkB := heap_alloc_new (((w2.alloc (Obj.cells #[Value.string ⟨#[112, 104]⟩, Value.string ⟨#[104]⟩, Value.int IntKind.i64 0, Value.string ⟨#[112, 112]⟩, Value.string ⟨#[112]⟩, Value.int IntKind.i64 0, Value.string ⟨#[104, 112]⟩, Value.string ⟨#[112]⟩, Value.int IntKind.i64 2] 49)).alloc (Obj.cells #[Value.string fa, Value.string ta, Value.int IntKind.i64 ka] 49)).alloc (Obj.cells #[Value.string ⟨#[122, 122]⟩, Value.string ⟨#[122]⟩, Value.int IntKind.i64 0, Value.string ⟨#[115, 122]⟩, Value.string ⟨#[115]⟩, Value.int IntKind.i64 3, Value.string ⟨#[122]⟩, Value.string ⟨#[115]⟩, Value.int IntKind.i64 0] 49)) (Obj.cells #[Value.string fb, Value.string tb, Value.int IntKind.i64 kb] 49)
    have hb4 : Below ((w2.alloc (Obj.cells #[Value.string ⟨#[112, 104]⟩, Value.string ⟨#[104]⟩, Value.int IntKind.i64 0, Value.string ⟨#[112, 112]⟩, Value.string ⟨#[112]⟩, Value.int IntKind.i64 0, Value.string ⟨#[104, 112]⟩, Value.string ⟨#[112]⟩, Value.int IntKind.i64 2] 49)).alloc (Obj.cells #[Value.string fa, Value.string ta, Value.int IntKind.i64 ka] 49)).heap.size ((w2.alloc (Obj.cells #[Value.string ⟨#[112, 104]⟩, Value.string ⟨#[104]⟩, Value.int IntKind.i64 0, Value.string ⟨#[112, 112]⟩, Value.string ⟨#[112]⟩, Value.int IntKind.i64 0, Value.string ⟨#[104, 112]⟩, Value.string ⟨#[112]⟩, Value.int IntKind.i64 2] 49)).alloc (Obj.cells #[Value.string fa, Value.string ta, Value.int IntKind.i64 ka] 49)) ((((w2.alloc (Obj.cells #[Value.string ⟨#[112, 104]⟩, Value.string ⟨#[104]⟩, Value.int IntKind.i64 0, Value.string ⟨#[112, 112]⟩, Value.string ⟨#[112]⟩, Value.int IntKind.i64 0, Value.string ⟨#[104, 112]⟩, Value.string ⟨#[112]⟩, Value.int IntKind.i64 2] 49)).alloc (Obj.cells #[Value.string fa, Value.string ta, Value.int IntKind.i64 ka] 49)).alloc (Obj.cells #[Value.string ⟨#[122, 122]⟩, Value.string ⟨#[122]⟩, Value.int IntKind.i64 0, Value.string ⟨#[115, 122]⟩, Value.string ⟨#[115]⟩, Value.int IntKind.i64 3, Value.string ⟨#[122]⟩, Value.string ⟨#[115]⟩, Value.int IntKind.i64 0] 49)).alloc (Obj.cells #[Value.string fb, Value.string tb, Value.int IntKind.i64 kb] 49)) := ((Below.refl _ _).alloc (Nat.le_refl _) _).alloc (by simp only [World.size_alloc]; omega) _
    have hkA5 := (hb4.block _ (Array.getElem?_eq_some_iff.1 hkA).1).trans hkA
    have hd5 := (((hd2.alloc (Obj.cells #[Value.string ⟨#[112, 104]⟩, Value.string ⟨#[104]⟩, Value.int IntKind.i64 0, Value.string ⟨#[112, 112]⟩, Value.string ⟨#[112]⟩, Value.int IntKind.i64 0, Value.string ⟨#[104, 112]⟩, Value.string ⟨#[112]⟩, Value.int IntKind.i64 2] 49)).alloc (Obj.cells #[Value.string fa, Value.string ta, Value.int IntKind.i64 ka] 49)).alloc (Obj.cells #[Value.string ⟨#[122, 122]⟩, Value.string ⟨#[122]⟩, Value.int IntKind.i64 0, Value.string ⟨#[115, 122]⟩, Value.string ⟨#[115]⟩, Value.int IntKind.i64 3, Value.string ⟨#[122]⟩, Value.string ⟨#[115]⟩, Value.int IntKind.i64 0] 49)).alloc (Obj.cells #[Value.string fb, Value.string tb, Value.int IntKind.i64 kb] 49)
    simp only [World.size_alloc] at hkA5 hkB
    have hglt := hd2.lt
    clear hkA hb4 a0 a1 a2 b0 b1 b2 hia hib hia2 hib2 hia3 hib3 hd2
    generalize (((w2.alloc (Obj.cells #[Value.string ⟨#[112, 104]⟩, Value.string ⟨#[104]⟩, Value.int IntKind.i64 0, Value.string ⟨#[112, 112]⟩, Value.string ⟨#[112]⟩, Value.int IntKind.i64 0, Value.string ⟨#[104, 112]⟩, Value.string ⟨#[112]⟩, Value.int IntKind.i64 2] 49)).alloc (Obj.cells #[Value.string fa, Value.string ta, Value.int IntKind.i64 ka] 49)).alloc (Obj.cells #[Value.string ⟨#[122, 122]⟩, Value.string ⟨#[122]⟩, Value.int IntKind.i64 0, Value.string ⟨#[115, 122]⟩, Value.string ⟨#[115]⟩, Value.int IntKind.i64 3, Value.string ⟨#[122]⟩, Value.string ⟨#[115]⟩, Value.int IntKind.i64 0] 49)).alloc (Obj.cells #[Value.string fb, Value.string tb, Value.int IntKind.i64 kb] 49) = w5 at hkA5 hkB hd5 ⊢
    generalize hB1 : w2.heap.size + 1 = B1 at hkA5 hkB ⊢
    generalize hB2 : B1 + 1 + 1 = B2 at hkB ⊢
    have hgB1 : B1 ≠ g := by omega
    have hgB2 : B2 ≠ g := by omega
    clear hB1 hB2 hglt hb2
    have hkA6 := Lib.hid hkA5
    have hkB6 := Lib.hid hkB
    clear hkA5 hkB
    replace hgB1 := Lib.hid hgB1
    replace hgB2 := Lib.hid hgB2
    refine (next_any w g 20 w5 hd5 (by decide) (by decide)).mono ?_
    rintro e w6 ⟨K, hK, rfl, hd6, hk6⟩
    go_wp2_with fail
    go_loopw [8, 38] (fun v8 v38 wr => ∃ (i : Nat) (S : ByteArray), (i : Int) ≤ K ∧ v38 = .int .i64 i ∧ v8 = .string S ∧ S.size ≤ i ∧ DiceOk w wr g ∧ KeepBut w5 wr g none) (fun _ v38 _ => K - (intOf v38).toNat)
    case atStart => exact ⟨0, ⟨#[]⟩, by omega, rfl, rfl, Nat.le_refl _, hd6, hk6⟩
    case round =>
      obtain ⟨i, S, hi, rfl, rfl, hS, hdr, hkr⟩ := hrel
      by_cases hlt : (i : Int) < K
      · have e0 : decide (i < K) = true := decide_eq_true (by omega)
        have hS20 : S.size ≤ 20 := by omega
        replace hlt := Lib.hid hlt
        go_wp2_with fail
        refine (word_new w g wr [⟨#[112]⟩, ⟨#[104]⟩, ⟨#[122]⟩, ⟨#[115]⟩, ⟨#[32]⟩, ⟨#[120]⟩] hdr (by decide) (by decide)).mono ?_
        rintro e w7 ⟨s1, hs1, rfl, hd7, hk7⟩
        have hs1' : s1.size ≤ 1 := by
          simp only [List.mem_cons, List.not_mem_nil, or_false] at hs1
          rcases hs1 with rfl | rfl | rfl | rfl | rfl | rfl <;> decide
        have hkk7 := keep_then hkr hk7
        clear hdr hkr hk7 hs1
        go_wp2_with fail
        go_roundw
        case rel => exact ⟨i + 1, S ++ s1, by have := hlt.out; omega, by go_num, rfl, by rw [ByteArray.size_append]; omega, hd7, hkk7⟩
        case measure => have := hlt.out; simp [intOf]; omega
      · have e0 : decide (i < K) = false := decide_eq_false (by omega)
        have hS20 : S.size ≤ 256 := by omega
        clear hlt hi hK
        obtain ⟨hs1, hs2⟩ := hsame.out S hS20
        have p1 := keep_row hkr hkA6.out hgB1.out
        have p2 := keep_row hkr hkB6.out hgB2.out
        have q0 : wr.cell? ⟨B1, 0, none⟩ = some (.string fa) := (cell_row p1 0).trans rfl
        have q1 : wr.cell? ⟨B1, 1, none⟩ = some (.string ta) := (cell_row p1 1).trans rfl
        have q2 : wr.cell? ⟨B1, 2, none⟩ = some (.int .i64 ka) := (cell_row p1 2).trans rfl
        have q3 : wr.cell? ⟨B2, 0, none⟩ = some (.string fb) := (cell_row p2 0).trans rfl
        have q4 : wr.cell? ⟨B2, 1, none⟩ = some (.string tb) := (cell_row p2 1).trans rfl
        have q5 : wr.cell? ⟨B2, 2, none⟩ = some (.int .i64 kb) := (cell_row p2 2).trans rfl
        have hbr := hdr.low
        have hba : Below wr.heap.size wr (wr.alloc (Obj.cells #[Value.string fa, Value.string ta, Value.int IntKind.i64 ka, Value.string fb, Value.string tb, Value.int IntKind.i64 kb] 49)) := (Below.refl _ _).alloc (Nat.le_refl _) _
        have hbw := hbr.trans (hba.mono hbr.size)
        have c1 := apply_ok (some ⟨wr.heap.size, 0, none⟩) 2 [⟨fa, ta, ka⟩, ⟨fb, tb, kb⟩] S _ (hT.below hbw hT.six) (C49_block (heap_alloc_new wr _) rfl (by simp))
        have c2 := fun w7 (hb : Below w.heap.size w w7) => apply_ok (some ⟨w7.heap.size, 0, none⟩) 2 [⟨fb, tb, kb⟩, ⟨fa, ta, ka⟩] S (w7.alloc (Obj.cells #[Value.string fb, Value.string tb, Value.int IntKind.i64 kb, Value.string fa, Value.string ta, Value.int IntKind.i64 ka] 49)) (hT.below (hb.alloc hb.size _) hT.six) (C49_block (heap_alloc_new w7 _) rfl (by simp))
        rw [hs1] at c2
        generalize applyT [⟨fa, ta, ka⟩, ⟨fb, tb, kb⟩] S = R at c1 c2 hs2
        obtain ⟨x, e1⟩ := R
        simp only at c1 c2 hs2
        subst hs2
        replace c1 := Lib.hid c1
        replace c2 := Lib.hid c2
        replace hkr := Lib.hid hkr
        clear hs1 p1 p2
        go_wp2_with fail
        refine c1.out.mono ?_
        rintro e w8 ⟨rfl, hb8⟩
        have hb8' := hba.trans (hb8.mono hba.size)
        have hbw8 := hbr.trans (hb8'.mono hbr.size)
        have r0 := pw_cell_below hb8' q0
        have r1 := pw_cell_below hb8' q1
        have r2 := pw_cell_below hb8' q2
        have r3 := pw_cell_below hb8' q3
        have r4 := pw_cell_below hb8' q4
        have r5 := pw_cell_below hb8' q5
        have c3 := Lib.hid (c2.out w8 hbw8)
        clear q0 q1 q2 q3 q4 q5 c1 c2
        go_wp2_with fail
        refine c3.out.mono ?_
        rintro e w9 ⟨rfl, hb9⟩
        have hba8 : Below w8.heap.size w8 (w8.alloc (Obj.cells #[Value.string fb, Value.string tb, Value.int IntKind.i64 kb, Value.string fa, Value.string ta, Value.int IntKind.i64 ka] 49)) := (Below.refl _ _).alloc (Nat.le_refl _) _
        have hb9' := hba8.trans (hb9.mono hba8.size)
        have hbw9 := hbw8.trans (hb9'.mono hbw8.size)
        have cw := Lib.hid (awake12_ok w9 (hT.below hbw9 hT.six))
        clear r0 r1 r2 r3 r4 r5 c3
        go_wp2_with fail
        refine cw.out.mono ?_
        rintro e w10 ⟨rfl, hb10⟩
        go_wp2_with fail
        go_ret
        exact ⟨rfl, hbw9.trans (hb10.mono hbw9.size)⟩
  · have e0 : decide ((l.length : Int) ≤ 500) = false := decide_eq_false (by omega)
    rw [e0] at cl
    have ca := Lib.hid (fun w1 hB => awake12_ok w1 hB)
    replace hr := Lib.hid hr
    clear hl e0
    replace hc := Lib.hid hc
    go_enter Tryd.func11, Tryd.ntmps11
    go_wp2_with fail
    refine cl.out.mono ?_
    rintro e w1 ⟨rfl, ⟨n1, rfl⟩⟩
    go_wp2_with fail
    have hb := pw_below_drewN (Below.refl w.heap.size w) n1
    refine (ca.out _ (hT.below hb hT.six)).mono ?_
    rintro e w2 ⟨rfl, hb1⟩
    go_wp2_with fail
    go_ret
    exact ⟨rfl, hb.trans (hb1.mono (Nat.le_refl _))⟩
#print axioms rewriteOrder_walk
end Go.Proofs.YtpejnnnkamodbaaDoor
