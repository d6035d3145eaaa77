/- The walk of reportescrowlaw13.AliasTimes: whatever the dice, it returns true. -/
import Derived.Test.YtpejnnnkamodbaaDoorWGrown
import Derived.Test.YtpejnnnkamodbaaDoorWTimesP
import Derived.Test.YtpejnnnkamodbaaDoorWKeepC
namespace Go.Proofs.YtpejnnnkamodbaaDoor
open Go Go.RowKit Go.Maps Go.WideMaps Go.Proofs.YtpejnnnkamodbaaDoorW.PrintWords Go.Proofs.YtpejnnnkamodbaaDoorW.PrintLast
open PCanonEqual (S40 k40 z40 rd_T40 at_T40 k40_open k40_mk k40_openM k40_mkM)

theorem leads_size' {l : List S40} (h : Sound40 l) {t : Int} {s r : ByteArray} (hl : Leads (presT l t) s r) : r.size ≤ max s.size 256 := by
  rcases leads_from hl with rfl | ⟨k, a, hk, rfl⟩
  · omega
  · have := (right_sizes (valid_mem h.1 a (presT_mem l t k a hk).1)).2
    omega
set_option maxHeartbeats 4000000 in
set_option maxRecDepth 100000 in
theorem aliasTimes_walk (A : Option Addr) (c : Nat) (l : List Int) (w : World) (hT : Tabs w) (hr : Kd.C (Kd.int .i64) w A l.length l) (hc : l.length ≤ c) :
    Calls Tryd.prog 8 #[.slice A l.length c] w fun e w' => e = .returned (.bool true) ∧ Below w.heap.size w w' := by
  have cl := Lib.hid (light_any A c l w hr hc)
  by_cases hl : l.length ≤ 500
  · have e0 : decide ((l.length : Int) ≤ 500) = true := decide_eq_true (by omega)
    rw [e0] at cl
    have cr := Lib.hid (fun w1 hB => roll_any A c l w w1 hB hr hc hl)
    replace hr := Lib.hid hr
    clear hl e0
    replace hc := Lib.hid hc
    go_enter Tryd.func8, Tryd.ntmps8
    go_wp2_with fail
    refine cl.out.mono ?_
    rintro e w1 ⟨rfl, ⟨n1, rfl⟩⟩
    go_wp2_with fail
    refine (cr.out _ (pw_below_drewN (Below.refl _ _) _)).mono ?_
    rintro e w2 ⟨g, rfl, hd2, hb2⟩
    go_wp2_with fail
    refine (grown_ok w g w2 hT hd2).mono ?_
    rintro e w3 ⟨A3, c3, L, rfl, hG, hC3, hd3, hk3, hL⟩
    replace hG := Lib.hid hG
    clear hd2 hb2 hk3 cl cr
    go_wp2_with fail
    refine (word_new w g w3 nameList hd3 (by decide) (by decide)).mono ?_
    rintro e w4 ⟨n, hn, rfl, hd4, hk4⟩
    replace hn := Lib.hid hn
    go_wp2_with fail
    refine (word_new w g w4 goalList hd4 (by decide) (by decide)).mono ?_
    rintro e w5 ⟨o, ho, rfl, hd5, hk5⟩
    replace ho := Lib.hid ho
    go_wp2_with fail
    refine (next_any w g 3 w5 hd5 (by decide) (by decide)).mono ?_
    rintro e w6 ⟨k6, hk6', rfl, hd6, hk6⟩
    go_wp2_with fail
    refine (next_any w g 3 w6 hd6 (by decide) (by decide)).mono ?_
    rintro e w7 ⟨k7, hk7', rfl, hd7, hk7⟩
    go_wp2_with fail
    have hC4 := C_keep hd3 hC3 hk4
    have hC5 := C_keep hd4 hC4 hk5
    have hC6 := C_keep hd5 hC5 hk6
    have hC7 := C_keep hd6 hC6 hk7
    have hlow := hd7.low
    have hr0 : rightT ⟨n, o, 20 + k6, (k7 : Int) == 1⟩ = true := times_right n o hn.out ho.out _ _ (by omega) (by omega)
    have ht19 : (19 : Int) < 20 + (k6 : Int) := by omega
    generalize ((k7 : Int) == 1) = gone at hr0 ⊢
    generalize (20 + (k6 : Int)) = ti at hr0 ht19 ⊢
    have hbq : Below w7.heap.size w7 (w7.alloc (Obj.cells #[Value.string n, Value.string o, Value.int IntKind.i64 ti, Value.bool gone] 40)) := (Below.refl _ _).alloc (Nat.le_refl _) _
    have hblk := heap_alloc_new w7 (Obj.cells #[Value.string n, Value.string o, Value.int IntKind.i64 ti, Value.bool gone] 40)
    have hC8 := Kd.C_below hC7 hbq
    have hb8 := hlow.trans (hbq.mono hlow.size)
    clear hd3 hd4 hd5 hd6 hd7 hk4 hk5 hk6 hk7 hC3 hC4 hC5 hC6 hC7 hk6' hk7' hbq hlow
    generalize w7.alloc (Obj.cells #[Value.string n, Value.string o, Value.int IntKind.i64 ti, Value.bool gone] 40) = w8 at hblk hC8 hb8 ⊢
    generalize w7.heap.size = G at hblk ⊢
    have hT8 := hT.below hb8 hT.six
    refine (add_ok A3 c3 L ⟨n, o, ti, gone⟩ w8 hT8 hC8).mono ?_
    rintro e w9 ⟨⟨v, r, hadd, rfl, hv⟩, hb9⟩
    have hb9' := hb8.trans (hb9.mono hb8.size)
    have hT9 := hT.below hb9' hT.six
    have hends := add_ends hG.out hr0 (by omega) hadd
    have hblk9 := (hb9.block _ (Array.getElem?_eq_some_iff.1 hblk).1).trans hblk
    have hC9 := Kd.C_below hC8 hb9
    clear hblk hC8
    by_cases hr1 : r = 0
    · subst hr1
      have hR9 : Kd.R k40 40 w9 w8.heap.size (fun _ => True) v (L ++ [⟨n, o, ti, gone⟩]) := by
        rcases hv with ⟨h, _⟩ | ⟨_, h⟩
        · exact absurd rfl h
        · exact h
      obtain ⟨A5, c5, rfl, hc5, hCM⟩ := Kd.R_reads hR9
      have hGM := Lib.hid (add_good hG.out hadd)
      clear hv hadd hR9 hends
      have he19 : presT (L ++ [(⟨n, o, ti, gone⟩ : S40)]) 19 = presT L 19 := pres_early L ⟨n, o, ti, gone⟩ 19 ht19
      have hend := Lib.hid (fun x y hx hy => times_end (l := L) (a := ⟨n, o, ti, gone⟩) (x := x) (y := y) hx hy)
      simp only at hend
      generalize L ++ [(⟨n, o, ti, gone⟩ : S40)] = M at hc5 hCM hGM he19 hend ⊢
      replace he19 := Lib.hid he19
      replace hblk9 := Lib.hid hblk9
      replace hC9 := Lib.hid hC9
      replace hCM := Lib.hid hCM
      have hr0' := Lib.hid (right_sizes hr0)
      clear hr0
      replace ht19 := Lib.hid ht19
      have hbB : Below w9.heap.size w9 (w9.alloc (Obj.cells #[Value.string ⟨#[98, 111, 98]⟩, Value.string ⟨#[114, 111, 98]⟩, Value.string ⟨#[114, 111, 98, 101, 114, 116]⟩, Value.string ⟨#[97, 110, 110]⟩, Value.string ⟨#[110, 101, 119]⟩] 9)) := (Below.refl _ _).alloc (Nat.le_refl _) _
      have hbx := heap_alloc_new w9 (Obj.cells #[Value.string ⟨#[98, 111, 98]⟩, Value.string ⟨#[114, 111, 98]⟩, Value.string ⟨#[114, 111, 98, 101, 114, 116]⟩, Value.string ⟨#[97, 110, 110]⟩, Value.string ⟨#[110, 101, 119]⟩] 9)
      have hgetS : ∀ i : Nat, i < 5 → ∃ s : ByteArray, (w9.alloc (Obj.cells #[Value.string ⟨#[98, 111, 98]⟩, Value.string ⟨#[114, 111, 98]⟩, Value.string ⟨#[114, 111, 98, 101, 114, 116]⟩, Value.string ⟨#[97, 110, 110]⟩, Value.string ⟨#[110, 101, 119]⟩] 9)).cell? ⟨w9.heap.size, i, none⟩ = some (.string s) ∧ s.size ≤ 100 := fun i hi => by
        rw [cell_row hbx]
        rcases i with _ | _ | _ | _ | _ | i
        · exact ⟨_, rfl, by decide⟩
        · exact ⟨_, rfl, by decide⟩
        · exact ⟨_, rfl, by decide⟩
        · exact ⟨_, rfl, by decide⟩
        · exact ⟨_, rfl, by decide⟩
        · omega
      replace hgetS := Lib.hid hgetS
      clear hbx
      go_wp2_with fail
      generalize w9.alloc (Obj.cells #[Value.string ⟨#[98, 111, 98]⟩, Value.string ⟨#[114, 111, 98]⟩, Value.string ⟨#[114, 111, 98, 101, 114, 116]⟩, Value.string ⟨#[97, 110, 110]⟩, Value.string ⟨#[110, 101, 119]⟩] 9) = wB at hbB hgetS ⊢
      have hCL := Lib.hid (Kd.C_below hC9.out hbB)
      have hCM' := Lib.hid (Kd.C_below hCM.out hbB)
      have hblB := Lib.hid ((hbB.block _ (Array.getElem?_eq_some_iff.1 hblk9.out).1).trans hblk9.out)
      have hbB' := hb9'.trans (hbB.mono hb9'.size)
      have hTB := hT.below hbB' hT.six
      generalize w9.heap.size = B5 at hgetS ⊢
      clear hC9 hCM hblk9 hbB hT9
      go_loopw [63] (fun v63 wr => ∃ i : Nat, i ≤ 5 ∧ v63 = .int .i64 i ∧ Below wB.heap.size wB wr) (fun v63 _ => 5 - (intOf v63).toNat)
      case atStart => exact ⟨0, by omega, rfl, Below.refl _ _⟩
      case round =>
        obtain ⟨i, hi, rfl, hbr⟩ := hrel
        by_cases hlt : i < 5
        · have e0 : decide ((i : Int) < 5) = true := decide_eq_true (by omega)
          have e1 : (i : Int) < 5 := by omega
          obtain ⟨s, hs, hss⟩ := hgetS.out i hlt
          have hs' := pw_cell_below hbr hs
          have c1 := Lib.hid (followAll_ok A3 c3 L s 19 _ (hTB.below hbr hTB.six) (Kd.C_below hCL.out hbr) (by omega))
          clear hs
          go_wp2_with fail
          refine c1.out.mono ?_
          rintro e wa ⟨⟨r1, er1, hf1, rfl⟩, hba⟩
          obtain ⟨rfl, hl1⟩ := follow_good hG.out hf1
          have hba' := hbr.trans (hba.mono hbr.size)
          have c2 := Lib.hid (followAll_ok A5 c5 M s 19 wa (hTB.below hba' hTB.six) (Kd.C_below hCM'.out hba') (by omega))
          replace hl1 := Lib.hid hl1
          clear hf1 c1
          go_wp2_with fail
          refine c2.out.mono ?_
          rintro e wb ⟨⟨r2, er2, hf2, rfl⟩, hbb⟩
          obtain ⟨rfl, hl2⟩ := follow_good hGM.out hf2
          rw [he19.out] at hl2
          obtain rfl := leads_det hl2 hl1.out
          have hbb' := hba'.trans (hbb.mono hba'.size)
          clear hf2 c2 hl2
          go_wp2_with fail
          go_roundw
          case rel => exact ⟨i + 1, by omega, by go_num, hbb'⟩
          case measure => simp [intOf]; omega
        · have e0 : decide ((i : Int) < 5) = false := decide_eq_false (by omega)
          have hblr := (hbr.block _ (Array.getElem?_eq_some_iff.1 hblB.out).1).trans hblB.out
          have q0 : wr.cell? ⟨G, 0, none⟩ = some (.string n) := (cell_row hblr 0).trans rfl
          have q2 : wr.cell? ⟨G, 2, none⟩ = some (.int .i64 ti) := (cell_row hblr 2).trans rfl
          have c1 := Lib.hid (followAll_ok A5 c5 M n ti _ (hTB.below hbr hTB.six) (Kd.C_below hCM'.out hbr) (by have := hr0'.out.1; omega))
          go_wp2_with fail
          refine c1.out.mono ?_
          rintro e wa ⟨⟨x1, ex1, hf1, rfl⟩, hba⟩
          obtain ⟨rfl, hlx⟩ := follow_good hGM.out hf1
          have hba' := hbr.trans (hba.mono hbr.size)
          have hbla := (hba.block _ (Array.getElem?_eq_some_iff.1 hblr).1).trans hblr
          have p1 : wa.cell? ⟨G, 1, none⟩ = some (.string o) := (cell_row hbla 1).trans rfl
          have p2 : wa.cell? ⟨G, 2, none⟩ = some (.int .i64 ti) := (cell_row hbla 2).trans rfl
          have c2 := Lib.hid (followAll_ok A5 c5 M o ti wa (hTB.below hba' hTB.six) (Kd.C_below hCM'.out hba') (by have := hr0'.out.2; omega))
          replace hlx := Lib.hid hlx
          clear hf1 c1 hblr q0 q2
          go_wp2_with fail
          refine c2.out.mono ?_
          rintro e wb ⟨⟨y1, ey1, hf2, rfl⟩, hbb⟩
          obtain ⟨rfl, hly⟩ := follow_good hGM.out hf2
          have hbb' := hba'.trans (hbb.mono hba'.size)
          have hblb := (hbb.block _ (Array.getElem?_eq_some_iff.1 hbla).1).trans hbla
          have r0 : wb.cell? ⟨G, 0, none⟩ = some (.string n) := (cell_row hblb 0).trans rfl
          have r3 : wb.cell? ⟨G, 3, none⟩ = some (.bool gone) := (cell_row hblb 3).trans rfl
          have hfin := hend.out x1 y1 hlx.out hly
          have hbw := hbB'.trans (hbb'.mono hbB'.size)
          have ca := Lib.hid (awake13_ok wb (hT.below hbw hT.six))
          clear hf2 c2 hly hlx hblb hbla p1 p2 hend hlt
          rcases hfin with ⟨rfl, rfl⟩ | ⟨rfl, rfl⟩
          · go_wp2_with fail
            refine ca.out.mono ?_
            rintro e wc ⟨rfl, hbc⟩
            go_wp2_with fail
            go_ret
            exact ⟨rfl, hbw.trans (hbc.mono hbw.size)⟩
          · go_wp2_with fail
            refine ca.out.mono ?_
            rintro e wc ⟨rfl, hbc⟩
            go_wp2_with fail
            go_ret
            exact ⟨rfl, hbw.trans (hbc.mono hbw.size)⟩
    · have e5 : (r == 0) = false := beq_eq_false_iff_ne.mpr hr1
      have hv' : v = .slice none 0 0 := by
        rcases hv with ⟨_, h⟩ | ⟨h, _⟩
        · exact h
        · exact absurd h hr1
      subst hv'
      have ca := Lib.hid (awake13_ok w9 hT9)
      clear hv hadd hC9 hblk9
      rcases hends with h | rfl | rfl
      · exact absurd h hr1
      all_goals
        clear hr1 e5
        go_wp2_with fail
        refine ca.out.mono ?_
        rintro e w10 ⟨rfl, hb10⟩
        go_wp2_with fail
        go_ret
        exact ⟨rfl, hb9'.trans (hb10.mono hb9'.size)⟩
  · have e0 : decide ((l.length : Int) ≤ 500) = false := decide_eq_false (by omega)
    rw [e0] at cl
    have ca := Lib.hid (fun w1 hB => awake13_ok w1 hB)
    replace hr := Lib.hid hr
    clear hl e0
    replace hc := Lib.hid hc
    go_enter Tryd.func8, Tryd.ntmps8
    go_wp2_with fail
    refine cl.out.mono ?_
    rintro e w1 ⟨rfl, ⟨n1, rfl⟩⟩
    go_wp2_with fail
    have hb := pw_below_drewN (Below.refl w.heap.size w) n1
    refine (ca.out _ (hT.below hb hT.six)).mono ?_
    rintro e w2 ⟨rfl, hb1⟩
    go_wp2_with fail
    go_ret
    exact ⟨rfl, hb.trans (hb1.mono (Nat.le_refl _))⟩
#print axioms aliasTimes_walk
end Go.Proofs.YtpejnnnkamodbaaDoor
