/- The walk of reportescrowlaw14.CanonCorrects: whatever the dice, it returns true. -/
import Derived.Test.YtpejnnnkamodbaaDoorWCorrect
namespace Go.Proofs.YtpejnnnkamodbaaDoor
open Go Go.RowKit Go.Lib Go.Proofs.YtpejnnnkamodbaaDoorW.PrintWords Go.Proofs.YtpejnnnkamodbaaDoorW.PrintLast
open PCanonEqual (S49 k49 z49 S40 k40 z40)

theorem corr_valid {l : List S40} {a : S40} (h : AddT l a 0) : validT l = true ∧ validT (l ++ [a]) = true := by
  rcases h with ⟨_, h⟩ | ⟨hv, hr, ⟨_, h⟩ | ⟨he, ⟨_, h⟩ | ⟨hl, ⟨_, _, h⟩ | ⟨hc, _⟩⟩⟩⟩
  · cases h
  · cases h
  · cases h
  · cases h
  · exact ⟨hv, valid_add hv hr he hl⟩
theorem corr_early (rs : List S49) {l : List S40} {a : S40} (h : AddT l a 0) (s : ByteArray) (t : Int) (ht : t < a.f2) : nameF rs (l ++ [a]) s t = nameF rs l s t := by
  obtain ⟨v1, v2⟩ := corr_valid h
  have hf : nextF rs (l ++ [a]) t = nextF rs l t := by
    have hp : presT (l ++ [a]) t = presT l t := by
      rw [presT_add]
      unfold layA
      rw [if_pos (by omega)]
    have he : followF (l ++ [a]) t = followF l t := by
      funext s
      unfold followF
      rw [v1, v2, hp]
    funext s
    unfold nextF
    rw [he]
  unfold nameF
  rw [v1, v2, hf]
theorem ends_other {f : ByteArray → ByteArray × Int} {x y p : ByteArray} (hf : f x = f y) (h : Ends f x p 0) : Ends f y p 0 := by
  cases h with
  | fix h =>
    by_cases hxy : x = y
    · subst hxy; exact .fix h
    · exact .step (hf.symm.trans h) hxy (.fix h)
  | err h he => exact absurd rfl he
  | step h hne k =>
    rename_i t
    by_cases hty : t = y
    · subst hty; exact k
    · exact .step (hf.symm.trans h) hty k
theorem corr_late {rs : List S49} {l : List S40} {x y a b : ByteArray} {t : Int} (hr : rulesT rs = true) (h : AddT l ⟨x, y, t, false⟩ 0) (ha : beginT rs a = (x, 0)) (hb : beginT rs b = (y, 0)) (h0 : (nameF rs (l ++ [⟨x, y, t, false⟩]) a t).2 = 0) : sameF rs (l ++ [⟨x, y, t, false⟩]) a b t = true := by
  obtain ⟨_, v2⟩ := corr_valid h
  generalize hm : l ++ [(⟨x, y, t, false⟩ : S40)] = m at *
  have hp : presT m t x = some ⟨x, y, t, false⟩ := by
    rw [← hm, presT_add]
    unfold layA
    simp only [show ¬ t > t from by omega, if_false, if_true]
    rfl
  have hfol : followF m t x = followF m t y := by
    by_cases hx : ∃ r, Leads (presT m t) y r
    · obtain ⟨r, hr⟩ := hx
      rw [follow_of v2 hr, follow_of v2 ((leads_iff hp).2 hr)]
    · have hx2 : ¬ ∃ r, Leads (presT m t) x r := fun ⟨r, hr⟩ => hx ⟨r, (leads_iff hp).1 hr⟩
      unfold followF
      rw [if_pos v2, dif_neg hx, dif_neg hx2, if_pos v2]
  have hf : nextF rs m t x = nextF rs m t y := by
    unfold nextF
    rw [hfol]
  have na : nameF rs m a t = endF (nextF rs m t) x := by
    unfold nameF
    rw [if_pos ⟨hr, v2⟩, ha, if_pos rfl]
  have nb : nameF rs m b t = endF (nextF rs m t) y := by
    unfold nameF
    rw [if_pos ⟨hr, v2⟩, hb, if_pos rfl]
  rw [na] at h0
  have hE : Ends (nextF rs m t) x (endF (nextF rs m t) x).1 0 := by
    rcases end_cases (nextF rs m t) x with h1 | ⟨_, h2⟩
    · rw [h0] at h1; exact h1
    · rw [h2] at h0; exact absurd h0 (by decide)
  have hE2 := end_of (ends_other hf hE)
  unfold sameF
  rw [na, nb, hE2]
  simp [h0]
theorem four_cells (a b : ByteArray) (i : Nat) (h : i < 4) : ∃ s : ByteArray, (#[Value.string a, Value.string b, Value.string ⟨#[98, 111, 98]⟩, Value.string ⟨#[97, 110, 110]⟩] : Array Value)[i]? = some (.string s) := by
  rcases i with _ | _ | _ | _ | i
  · exact ⟨_, rfl⟩
  · exact ⟨_, rfl⟩
  · exact ⟨_, rfl⟩
  · exact ⟨_, rfl⟩
  · omega
set_option maxHeartbeats 4000000 in
set_option maxRecDepth 100000 in
set_option linter.unusedSimpArgs false in
theorem canonCorrects_walk (A : Option Addr) (c : Nat) (l : List Int) (w : World) (hT : Tabs w) (hr : Kd.C (Kd.int .i64) w A l.length l) (hc : l.length ≤ c) :
    Calls Tryd.prog 14 #[.slice A l.length c] w fun e w' => e = .returned (.bool true) ∧ Below w.heap.size w w' := by
  have cl := Lib.hid (light_any A c l w hr hc)
  by_cases hl : l.length ≤ 500
  · have e0 : decide ((l.length : Int) ≤ 500) = true := decide_eq_true (by omega)
    rw [e0] at cl
    have cr := Lib.hid (fun w1 hB => roll_any A c l w w1 hB hr hc hl)
    replace hr := Lib.hid hr
    clear hl e0
    replace hc := Lib.hid hc
    go_enter Tryd.func14, Tryd.ntmps14
    go_wp2_with fail
    refine cl.out.mono ?_
    rintro e w1 ⟨rfl, ⟨n1, rfl⟩⟩
    go_wp2_with fail
    refine (cr.out _ (pw_below_drewN (Below.refl _ _) _)).mono ?_
    rintro e w2 ⟨g, rfl, hd2, hb2⟩
    go_wp2_with fail
    refine (some_ok w g w2 hd2).mono ?_
    rintro e w3 ⟨nv, rs, l2, rfl, hN3, hl2, hd3, hk3⟩
    have hN3' := hN3
    obtain ⟨A1, c1, A2, c2, rfl, -, -⟩ := hN3'.out
    clear cl cr hd2 hb2 hk3 hN3'
    have hx4 := heap_alloc_new w3 (Obj.cells #[.slice A1 rs.length c1, .slice A2 l2.length c2] 55)
    have hd4 := hd3.alloc (Obj.cells #[.slice A1 rs.length c1, .slice A2 l2.length c2] 55)
    have hN4 := hN3.below ((Below.refl w3.heap.size w3).alloc (Nat.le_refl _) (Obj.cells #[.slice A1 rs.length c1, .slice A2 l2.length c2] 55))
    have hne : w3.heap.size ≠ g := by have := hd3.lt; omega
    replace hx4 := Lib.hid hx4
    replace hN4 := Lib.hid hN4
    replace hne := Lib.hid hne
    clear hN3 hd3
    go_wp2_with fail
    refine (name_any w g _ hd4).mono ?_
    rintro e w5 ⟨a, ha, rfl, hd5, hk5⟩
    have hx5 := keep_row hk5 hx4.out hne.out
    have hN5 := hN4.out.keep hd4 hk5
    generalize hB1 : w3.heap.size = B1 at hx5 hne ⊢
    clear hx4 hN4 hd4 hk5 hB1
    replace hx5 := Lib.hid hx5
    replace ha := Lib.hid ha
    go_wp2_with fail
    refine (name_any w g w5 hd5).mono ?_
    rintro e w6 ⟨b, hb, rfl, hd6, hk6⟩
    have hx6 := keep_row hk6 hx5.out hne.out
    have hN6 := hN5.keep hd5 hk6
    have hlow := hd6.low
    have hT6 := hT.below hlow hT.six
    have cc := Lib.hid (correct_ok _ rs l2 a b 30 w6 hT6 hN6 (by have := ha.out; omega) (by omega))
    clear hx5 hN5 hd5 hk6 hd6 hne ha hb
    have q0 : w6.cell? ⟨B1, 0, none⟩ = some (.slice A1 rs.length c1) := (cell_row hx6 0).trans rfl
    have q1 : w6.cell? ⟨B1, 1, none⟩ = some (.slice A2 l2.length c2) := (cell_row hx6 1).trans rfl
    replace hx6 := Lib.hid hx6
    replace hN6 := Lib.hid hN6
    go_wp2_with fail
    refine cc.out.mono ?_
    rintro e w7 ⟨⟨mv, k, rfl, hP⟩, hb7⟩
    have hb7' := hlow.trans (hb7.mono hlow.size)
    clear cc q0 q1
    rcases hP with ⟨hk, rfl⟩ | ⟨rfl, x, y, hrT, hxa, hyb, hadd, hNm⟩
    · have e5 : (k == 0) = false := beq_eq_false_iff_ne.mpr hk
      clear hk
      have hb8 : Below w.heap.size w (w7.alloc (Obj.cells #[.slice none 0 0, .slice none 0 0] 55)) := hb7'.alloc hb7'.size _
      have cw := Lib.hid (awake14_ok _ (hT.below hb8 hT.six))
      go_wp2_with fail
      refine cw.out.mono ?_
      rintro e w9 ⟨rfl, hb9⟩
      go_wp2_with fail
      go_ret
      exact ⟨rfl, hb8.trans (hb9.mono hb8.size)⟩
    · have hNm' := hNm
      obtain ⟨A3, c3, A4, c4, hmv, -, -⟩ := hNm'.out
      rw [List.length_append, List.length_singleton] at hmv
      subst hmv
      have early := fun s => corr_early rs hadd s 29 (show (29 : Int) < 30 by decide)
      have late := @corr_late rs l2 x y a b 30 hrT hadd hxa hyb
      generalize l2 ++ [(⟨x, y, 30, false⟩ : S40)] = m at hNm early late
      replace early := Lib.hid early
      replace late := Lib.hid late
      have hx7 := blk_below hx6.out hb7
      have hN7 := hN6.out.below hb7
      have hba : Below w7.heap.size w7 (w7.alloc (Obj.cells #[.slice A3 rs.length c3, .slice A4 (l2.length + 1) c4] 55)) := (Below.refl _ _).alloc (Nat.le_refl _) _
      have hka := heap_alloc_new w7 (Obj.cells #[.slice A3 rs.length c3, .slice A4 (l2.length + 1) c4] 55)
      have hba2 : Below w7.heap.size w7 ((w7.alloc (Obj.cells #[.slice A3 rs.length c3, .slice A4 (l2.length + 1) c4] 55)).alloc (Obj.cells #[Value.string a, Value.string b, Value.string ⟨#[98, 111, 98]⟩, Value.string ⟨#[97, 110, 110]⟩] 9)) := hba.alloc hba.size _
      have hka2 := blk_alloc hka (Obj.cells #[Value.string a, Value.string b, Value.string ⟨#[98, 111, 98]⟩, Value.string ⟨#[97, 110, 110]⟩] 9)
      have hks := heap_alloc_new (w7.alloc (Obj.cells #[.slice A3 rs.length c3, .slice A4 (l2.length + 1) c4] 55)) (Obj.cells #[Value.string a, Value.string b, Value.string ⟨#[98, 111, 98]⟩, Value.string ⟨#[97, 110, 110]⟩] 9)
      rw [World.size_alloc] at hks
      have hx8 := blk_below hx7 hba2
      have hN8 := hN7.below hba2
      have hM8 := hNm.below hba2
      have hb8 := hb7'.trans (hba2.mono hb7'.size)
      clear hx6 hN6 hb7 hx7 hN7 hNm hba hka hba2 hNm' hadd hxa hyb hrT
      replace hx8 := Lib.hid hx8
      replace hka2 := Lib.hid hka2
      replace hks := Lib.hid hks
      go_wp2_with fail
      generalize hB2 : w7.heap.size = B2 at hka2 hks ⊢
      generalize (w7.alloc (Obj.cells #[.slice A3 rs.length c3, .slice A4 (l2.length + 1) c4] 55)).alloc (Obj.cells #[Value.string a, Value.string b, Value.string ⟨#[98, 111, 98]⟩, Value.string ⟨#[97, 110, 110]⟩] 9) = w8 at hx8 hka2 hks hN8 hM8 hb8 ⊢
      clear hB2
      have hT8 := hT.below hb8 hT.six
      have cn := Lib.hid (fun s t w' (h : Below w8.heap.size w8 w') => name_fn _ rs l2 s t w' (hT8.below h hT8.six) (hN8.below h))
      have cm := Lib.hid (fun s t w' (h : Below w8.heap.size w8 w') => name_fn _ rs m s t w' (hT8.below h hT8.six) (hM8.below h))
      have cs := Lib.hid (fun w' (h : Below w8.heap.size w8 w') => same_fn _ rs m a b 30 w' (hT8.below h hT8.six) (hM8.below h))
      clear hN8 hM8
      go_loopw [53] (fun v53 wr => ∃ i : Nat, i ≤ 4 ∧ v53 = .int .i64 i ∧ Below w8.heap.size w8 wr) (fun v53 _ => 4 - (intOf v53).toNat)
      case atStart => exact ⟨0, by omega, rfl, Below.refl _ _⟩
      case round =>
        obtain ⟨i, hi, rfl, hbr⟩ := hrel
        have p1 := blk_below hx8.out hbr
        have p2 := blk_below hka2.out hbr
        have p3 := blk_below hks.out hbr
        by_cases hlt : i < 4
        · have e0 : decide ((i : Int) < 4) = true := decide_eq_true (by omega)
          have q0 : wr.cell? ⟨B1, 0, none⟩ = some (.slice A1 rs.length c1) := (cell_row p1 0).trans rfl
          have q1 : wr.cell? ⟨B1, 1, none⟩ = some (.slice A2 l2.length c2) := (cell_row p1 1).trans rfl
          obtain ⟨s, hs⟩ := four_cells a b i hlt
          have q2 : wr.cell? ⟨B2 + 1, i, none⟩ = some (.string s) := (cell_row p3 i).trans hs
          have c1' := cn.out s 29 wr hbr
          have c2' := cm.out s 29
          rw [early.out s] at c2'
          generalize nameF rs l2 s 29 = R at c1' c2'
          obtain ⟨p, e1⟩ := R
          simp only at c1' c2'
          replace c1' := Lib.hid c1'
          replace c2' := Lib.hid c2'
          have hlt4 : (i : Int) < 4 := by omega
          clear hs p1 p3
          go_wp2_with fail
          refine c1'.out.mono ?_
          rintro e w9 ⟨rfl, hb9⟩
          have hb9' := hbr.trans (hb9.mono hbr.size)
          have p4 := blk_below p2 hb9
          have r0 : w9.cell? ⟨B2, 0, none⟩ = some (.slice A3 rs.length c3) := (cell_row p4 0).trans rfl
          have r1 : w9.cell? ⟨B2, 1, none⟩ = some (.slice A4 (l2.length + 1) c4) := (cell_row p4 1).trans rfl
          have c3' := Lib.hid (c2'.out w9 hb9')
          clear p2 p4 q0 q1 q2 c1' c2'
          go_wp2_with fail
          refine c3'.out.mono ?_
          rintro e w10 ⟨rfl, hb10⟩
          go_wp2_with fail
          go_roundw
          case rel => exact ⟨i + 1, by omega, by go_num, hb9'.trans (hb10.mono hb9'.size)⟩
          case measure => simp [intOf]; omega
        · have e0 : decide ((i : Int) < 4) = false := decide_eq_false (by omega)
          have q0 : wr.cell? ⟨B2, 0, none⟩ = some (.slice A3 rs.length c3) := (cell_row p2 0).trans rfl
          have q1 : wr.cell? ⟨B2, 1, none⟩ = some (.slice A4 (l2.length + 1) c4) := (cell_row p2 1).trans rfl
          have c1' := cm.out a 30 wr hbr
          have lt := late.out
          generalize nameF rs m a 30 = R at c1' lt
          obtain ⟨p, k⟩ := R
          simp only at c1' lt
          replace c1' := Lib.hid c1'
          replace lt := Lib.hid lt
          clear hi hlt p3 cn
          go_wp2_with fail
          refine c1'.out.mono ?_
          rintro e w9 ⟨rfl, hb9⟩
          have hb9' := hbr.trans (hb9.mono hbr.size)
          have p5 := blk_below p1 hb9
          have p4 := blk_below p2 hb9
          have r0 : w9.cell? ⟨B2, 0, none⟩ = some (.slice A3 rs.length c3) := (cell_row p4 0).trans rfl
          have r1 : w9.cell? ⟨B2, 1, none⟩ = some (.slice A4 (l2.length + 1) c4) := (cell_row p4 1).trans rfl
          have r2 : w9.cell? ⟨B1, 1, none⟩ = some (.slice A2 l2.length c2) := (cell_row p5 1).trans rfl
          have hbw9 := hb8.trans (hb9'.mono hb8.size)
          by_cases hk : k = 0
          · subst hk
            have cz := cs.out w9 hb9'
            rw [lt.out rfl] at cz
            replace cz := Lib.hid cz
            clear c1' q0 q1 cm cs p1 p2
            go_wp2_with fail
            refine cz.out.mono ?_
            rintro e w10 ⟨rfl, hb10⟩
            have p6 := blk_below p5 hb10
            have p7 := blk_below p4 hb10
            have t1 : w10.cell? ⟨B2, 1, none⟩ = some (.slice A4 (l2.length + 1) c4) := (cell_row p7 1).trans rfl
            have t2 : w10.cell? ⟨B1, 1, none⟩ = some (.slice A2 l2.length c2) := (cell_row p6 1).trans rfl
            have hbw10 := hbw9.trans (hb10.mono hbw9.size)
            have cw := Lib.hid (awake14_ok w10 (hT.below hbw10 hT.six))
            clear cz r0 r1 r2 p4 p5 p6 p7
            go_wp2_with fail
            refine cw.out.mono ?_
            rintro e w11 ⟨rfl, hb11⟩
            go_wp2_with fail
            go_ret
            exact ⟨rfl, hbw10.trans (hb11.mono hbw10.size)⟩
          · have e5 : (k == 0) = false := beq_eq_false_iff_ne.mpr hk
            have cw := Lib.hid (awake14_ok w9 (hT.below hbw9 hT.six))
            have e6 : (k = 0) = False := eq_false hk
            clear c1' q0 q1 cm cs p1 p2 p4 p5
            go_wp2_with fail
            refine cw.out.mono ?_
            rintro e w11 ⟨rfl, hb11⟩
            go_wp2_with fail
            go_ret
            exact ⟨rfl, hbw9.trans (hb11.mono hbw9.size)⟩
  · have e0 : decide ((l.length : Int) ≤ 500) = false := decide_eq_false (by omega)
    rw [e0] at cl
    have ca := Lib.hid (fun w1 hB => awake14_ok w1 hB)
    replace hr := Lib.hid hr
    clear hl e0
    replace hc := Lib.hid hc
    go_enter Tryd.func14, Tryd.ntmps14
    go_wp2_with fail
    refine cl.out.mono ?_
    rintro e w1 ⟨rfl, ⟨n1, rfl⟩⟩
    go_wp2_with fail
    have hb := pw_below_drewN (Below.refl w.heap.size w) n1
    refine (ca.out _ (hT.below hb hT.six)).mono ?_
    rintro e w2 ⟨rfl, hb1⟩
    go_wp2_with fail
    go_ret
    exact ⟨rfl, hb.trans (hb1.mono (Nat.le_refl _))⟩
#print axioms canonCorrects_walk
end Go.Proofs.YtpejnnnkamodbaaDoor
