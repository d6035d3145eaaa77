/- The walk of reportescrowlaw14.CanonGroups: whatever the dice, it returns true. -/
import Derived.Test.YtpejnnnkamodbaaDoorWGroupsL
namespace Go.Proofs.YtpejnnnkamodbaaDoor
open Go Go.RowKit Go.Maps Go.WideMaps Go.Lib Go.Proofs.YtpejnnnkamodbaaDoorW.PrintWords Go.Proofs.YtpejnnnkamodbaaDoorW.PrintLast
open PCanonEqual (S49 k49 z49 S40 k40 z40)

theorem info9' : (Tryd.prog.info? 9).map (fun i => (i.zero, i.size, i.bytes)) = some (some (.string ByteArray.empty), 1, 16) := by kernel_rfl
theorem keep_own {w w1 w2 : World} {g : Nat} {row : Option Nat} (h : KeepBut w w1 g none) (hg : w1.grownBy w2 row) (hr : ∀ k, row = some k → w.heap.size ≤ k) : KeepBut w w2 g none :=
  ⟨Nat.le_trans h.1 hg.size, fun k hk hkg hn => (hg.block k (Nat.lt_of_lt_of_le hk h.1) (fun e => by have := hr k e.symm; omega)).trans (h.2 k hk hkg hn)⟩
theorem int_form {w : World} {B : Nat} {ok : Nat → Prop} {v : Value} {xs : List Int} (h : Kd.R (Kd.int .i64) 3 w B ok v xs) (ha : ∃ b, v.ownBlock = some b ∧ B ≤ b) : ∃ g cap, v = .slice (some ⟨g, 0, none⟩) xs.length cap ∧ B ≤ g ∧ g < w.heap.size := by
  obtain ⟨b, hb, _⟩ := ha
  obtain ⟨inner, ho⟩ := Kd.R_own h
  rcases ho.2 with ⟨hv, h0⟩ | ⟨g, cap', cur, hv, hg, hbk, hc, hm, hz, ht⟩
  · first
      | (rw [hv] at hb; cases hb)
      | (rw [h0] at hb; cases hb)
  · exact ⟨g, cap', hv, hg, blk_lt hbk⟩
theorem val_pos {ai : Int} (h : 0 < ai) (y : Int) : (decide (ai > 0) && (ai == y)) = (ai == y) := by rw [decide_eq_true (show ai > 0 from h), Bool.true_and]
theorem val_zero {ai : Int} (h : ai = 0) (y : Int) : (decide (ai > 0) && (ai == y)) = false := by rw [decide_eq_false (show ¬ ai > 0 by omega), Bool.false_and]
set_option maxHeartbeats 16000000 in
set_option maxRecDepth 100000 in
set_option linter.unusedSimpArgs false in
theorem canonGroups_walk (A : Option Addr) (c : Nat) (l : List Int) (x : Int) (w : World) (hT : Tabs w) (hr : Kd.C (Kd.int .i64) w A l.length l) (hc : l.length ≤ c) (hx0 : 0 ≤ x) (_hx1 : x ≤ 255) :
    Calls Tryd.prog 13 #[.slice A l.length c, .int .u8 x] w fun e w' => e = .returned (.bool true) ∧ Below w.heap.size w w' := by
  have cl := Lib.hid (light_any A c l w hr hc)
  obtain ⟨m, hm⟩ : ∃ m : Nat, Int.tmod x 10 = m := ⟨(Int.tmod x 10).toNat, by have := Int.tmod_nonneg 10 hx0; omega⟩
  have hm9 : m < 10 := by have := Int.tmod_lt_of_pos x (b := 10) (by decide); omega
  clear hx0 _hx1
  by_cases hl : l.length ≤ 500
  · have e0 : decide ((l.length : Int) ≤ 500) = true := decide_eq_true (by omega)
    rw [e0] at cl
    have cr := Lib.hid (fun w1 hB => roll_any A c l w w1 hB hr hc hl)
    replace hr := Lib.hid hr
    clear hl e0
    replace hc := Lib.hid hc
    go_enter Tryd.func13, Tryd.ntmps13
    go_wp2_with fail
    refine cl.out.mono ?_
    rintro e w1 ⟨rfl, ⟨n1, rfl⟩⟩
    go_wp2_with fail
    refine (cr.out _ (pw_below_drewN (Below.refl _ _) _)).mono ?_
    rintro e w2 ⟨g, rfl, hd2, hb2⟩
    go_wp2_with fail
    refine (some_ok w g w2 hd2).mono ?_
    rintro e w3 ⟨nv, rs, l2, rfl, hN3, hl2, hd3, hk3⟩
    have hN3' := hN3
    obtain ⟨A1, c1, A2, c2, rfl, -, -⟩ := hN3'.out
    clear cl cr hd2 hb2 hk3 hN3'
    have hx4 := heap_alloc_new w3 (Obj.cells #[.slice A1 rs.length c1, .slice A2 l2.length c2] 55)
    have hd4 := hd3.alloc (Obj.cells #[.slice A1 rs.length c1, .slice A2 l2.length c2] 55)
    have hN4 := hN3.below ((Below.refl w3.heap.size w3).alloc (Nat.le_refl _) (Obj.cells #[.slice A1 rs.length c1, .slice A2 l2.length c2] 55))
    have hne : w3.heap.size ≠ g := by have := hd3.lt; omega
    clear hN3 hd3 hl2
    replace hx4 := Lib.hid hx4
    replace hN4 := Lib.hid hN4
    replace hne := Lib.hid hne
    go_wp2_with fail
    generalize w3.alloc (Obj.cells #[.slice A1 rs.length c1, .slice A2 l2.length c2] 55) = w4 at hx4 hd4 hN4 ⊢
    generalize w3.heap.size = B1 at hx4 hne ⊢
    have hgw := hd4.lt
    refine (next_any w g 7 w4 hd4 (by decide) (by decide)).mono ?_
    rintro e w5 ⟨K, hK, rfl, hd5, hk5⟩
    go_wp2_with fail
    go_loopw [8, 34] (fun v8 v34 wr => ∃ (i : Nat) (L : List ByteArray), (i : Int) ≤ K ∧ v34 = .int .i64 i ∧ L.length ≤ i ∧ Kd.R Kd.string 9 wr w4.heap.size (fun k => k ≠ g) v8 L ∧ DiceOk w wr g ∧ KeepBut w4 wr g none) (fun _ v34 _ => K - (intOf v34).toNat)
    case atStart => exact ⟨0, [], by omega, rfl, Nat.le_refl _, Kd.R_nil _ _ _ _ _, hd5, hk5⟩
    case round =>
      obtain ⟨i, L, hi, rfl, hLi, hR, hdr, hkr⟩ := hrel
      by_cases hlt : (i : Int) < K
      · have e0 : decide (i < K) = true := decide_eq_true (by omega)
        have hi7 : i < 7 := by omega
        replace hlt := Lib.hid hlt
        go_wp2_with fail
        refine (name_any w g wr hdr).mono ?_
        rintro e w6 ⟨s, hs, rfl, hd6, hk6⟩
        have hR6 := Kd.R_keep hR hk6 (fun k hk => hk)
        have hkk6 := keep_then hkr hk6
        have hfresh : ∀ k, w6.heap.size ≤ k → k ≠ g := fun k hk => by have := hkk6.1; omega
        clear hR hdr hkr hk6 hs
        go_wp2_with (at_builtin; refine Kd.R_append Kd.string w4.heap.size rfl _ _ 27 9 _ 16 rfl Tryd.underlying27 info9' rfl (by decide) (by decide) u8 L s _ (fun k => k ≠ g) (fun _ => False) (by rfl) (by rfl) rfl (fun k h => h.elim) hfresh hR6 (Below.refl _ _) hkk6.1 (by omega) ?_; intro v7 w7 hR7 hb7 hg7 hat7)
        have hown : ∀ k, u8.ownBlock = some k → w4.heap.size ≤ k := fun k hk => Kd.R_base hR6 k hk
        have hkk7 := keep_own hkk6 hg7 hown
        have hd7 : DiceOk w w7 g := hd6.grown hg7 (fun e => hR6.1 g e.symm rfl) (fun k hk => by
          have h1 := hown k hk
          have h2 := hd4.low.size
          omega)
        go_roundw
        case rel => exact ⟨i + 1, L ++ [s], by have := hlt.out; omega, by go_num, by simp; omega, hR7, hd7, hkk7⟩
        case measure => have := hlt.out; simp [intOf]; omega
      · have e0 : decide (i < K) = false := decide_eq_false (by omega)
        have hL7 : L.length ≤ 7 := by omega
        obtain ⟨A8, c8, rfl, hc8, hC8⟩ := Kd.R_reads hR
        have hx5 := keep_row hkr hx4.out hne.out
        have hN5 := hN4.out.keep hd4 hkr
        have hlow := hdr.low
        have hT5 := hT.below hlow hT.six
        clear hlt hi hLi hx4 hN4 hne hd4 hd5 hk5 hgw hR hdr hkr hK
        replace hx5 := Lib.hid hx5
        replace hN5 := Lib.hid hN5
        replace hC8 := Lib.hid hC8
        have q0 : wr.cell? ⟨B1, 0, none⟩ = some (.slice A1 rs.length c1) := (cell_row hx5.out 0).trans rfl
        have q1 : wr.cell? ⟨B1, 1, none⟩ = some (.slice A2 l2.length c2) := (cell_row hx5.out 1).trans rfl
        obtain ⟨wB, rfl⟩ : ∃ wB : World, wB = wr := ⟨_, rfl⟩
        have hBl := (Array.getElem?_eq_some_iff.1 hx5.out).1
        go_wp2_with (at_make; refine Kd.R_make (Kd.int .i64) wB.heap.size 3 rfl rfl 30 _ _ rfl (L.length : Int) (by rfl) (by rfl) Tryd.underlying30 (.int .i64 0) 8 info3 rfl (by decide) (by decide) 0 (okp := fun _ => False) (ok := fun _ => True) rfl (fun k h => h.elim) trivial (by omega) (by rw [Int.toNat_natCast]; omega) (Below.refl _ _) (Nat.le_refl _) ?_; intro v9 w9 hR9 hb9 hg9 hat9; obtain ⟨gb, capb, rfl, hgb, hgb2⟩ := int_form hR9 hat9; rw [Int.toNat_natCast] at hR9; rw [Int.toNat_natCast, List.length_replicate]; have r0 := pw_cell_below hb9 q0; have r1 := pw_cell_below hb9 q1)
        have cg := Lib.hid (groups_ok _ rs l2 A8 c8 L m w9 (hT5.below hb9 hT5.six) (hN5.out.below hb9) (Kd.C_below hC8.out hb9) (by omega))
        clear q0 q1
        replace hat9 := Lib.hid hat9
        go_wp2_with fail
        refine cg.out.mono ?_
        rintro e w10 ⟨⟨vg, vs, gs, rfl, hNe, hGP⟩, hb10⟩
        obtain ⟨AG, cG, rfl⟩ := hNe.form
        have hR10 := Kd.R_below hR9 hb10
        have hb10' := hb9.trans (hb10.mono hb9.size)
        have hvl := Lib.hid hNe.len
        have hgl := gs_le hGP
        have hvs : vs.length ≤ 7 := by have := hvl.out; omega
        have hgbB : gb < w9.heap.size + 2 := by omega
        have hlp := Lib.hid hlow
        replace hGP := Lib.hid hGP
        clear hR9 cg hat9 hb9 hg9 r0 r1 hb10
        generalize w9.heap.size + 2 = B7 at hNe hgbB
        go_wp2_with fail
        go_loopw [10, 50] (fun v10 v50 wr => ∃ (k : Nat) (a : List Int), k ≤ vs.length ∧ v50 = .int .i64 k ∧ v10 = .int .i64 (firstG gs k) ∧ Kd.R (Kd.int .i64) 3 wr wB.heap.size (fun _ => True) (.slice (some ⟨gb, 0, none⟩) a.length capb) a ∧ Aside (GA L.length gs k 0 a) ∧ Nest wr B7 (.slice AG vs.length cG) vs gs ∧ Below wB.heap.size wB wr) (fun _ v50 _ => vs.length - (intOf v50).toNat)
        case atStart => exact ⟨0, List.replicate L.length 0, Nat.zero_le _, rfl, rfl, hR10, ga_start _ _, hNe, hb10'⟩
        case round =>
          obtain ⟨k, a, hk, rfl, rfl, hRa, hGA, hNk, hbk⟩ := hrel
          clear hR10 hNe hb10'
          by_cases hkl : k < vs.length
          · have e3 : decide (k < vs.length) = true := decide_eq_true hkl
            have hkg : k < gs.length := by have := hvl.out; omega
            obtain ⟨G, capG, hv, -, -⟩ := own_some hNk.out (by omega)
            cases hv
            have hne0 := hGP.out.ne k hkg
            have hgl0 : 0 < (grp gs k).length := List.length_pos_iff.2 hne0
            have hvj : vs[k]? = some (vs.getD k nilV) := by rw [List.getD_eq_getElem?_getD, List.getElem?_eq_getElem hkl]; rfl
            obtain ⟨Gk, capk, hvk, -, -⟩ := own_some (hNk.inn k hkg) hgl0
            rw [hvk] at hvj
            have hinn : ∀ wx : World, Nest wx B7 (.slice (some ⟨G, 0, none⟩) vs.length cG) vs gs → ∀ j (hj : j < (grp gs k).length), wx.cell? ⟨Gk, j, none⟩ = some (.int .i64 (((grp gs k)[j] : Nat) : Int)) := by
              intro wx hx j hj
              have h1 := hx.inn k hkg
              rw [hvk] at h1
              refine own_cell h1 ?_
              rw [List.getElem?_map, List.getElem?_eq_getElem hj]
              rfl
            have qv := own_cell hNk.out hvj
            have g0 := hinn wr hNk 0 hgl0
            have hfirst := first_lt hGP.out hkg
            rw [head_get hgl0] at hfirst
            have hnext : firstG gs (k + 1) = (((grp gs k)[0] : Nat) : Int) := by
              unfold firstG
              rw [if_neg (by omega), Nat.add_sub_cancel, head_get hgl0]
            generalize ((grp gs k)[0] : Nat) = h0 at g0 hfirst hnext
            generalize firstG gs k = fk at hfirst ⊢
            have ef : decide ((h0 : Int) ≤ fk) = false := decide_eq_false (by omega)
            have el : (((grp gs k).length : Int) == 0) = false := beq_eq_false_iff_ne.mpr (by omega)
            have el2 : ((grp gs k).length = 0) = False := eq_false (by omega)
            have hglL := grp_le hGP.out k hkg
            have hinn' := Lib.hid hinn
            replace hnext := Lib.hid hnext
            replace hvk := Lib.hid hvk
            clear hvj hne0 hinn
            go_wp2_with fail
            go_loopw [70] (fun v70 wr => ∃ (j : Nat) (a : List Int), j ≤ (grp gs k).length ∧ v70 = .int .i64 j ∧ Kd.R (Kd.int .i64) 3 wr wB.heap.size (fun _ => True) (.slice (some ⟨gb, 0, none⟩) a.length capb) a ∧ Aside (GA L.length gs k j a) ∧ Nest wr B7 (.slice (some ⟨G, 0, none⟩) vs.length cG) vs gs ∧ Below wB.heap.size wB wr) (fun v70 _ => (grp gs k).length - (intOf v70).toNat)
            case atStart => exact ⟨0, a, Nat.zero_le _, rfl, hRa, hGA, hNk, hbk⟩
            case round =>
              clear g0 qv ef el el2 hRa hGA hNk hbk
              obtain ⟨j, a, hj, rfl, hRa, hGA, hNk, hbk⟩ := hrel
              by_cases hjl : j < (grp gs k).length
              · have e4 : decide (j < (grp gs k).length) = true := decide_eq_true hjl
                have gj := hinn'.out wr hNk j hjl
                have hmem : (grp gs k)[j] ∈ grp gs k := List.getElem_mem hjl
                have hmL := (hGP.out.lt k hkg _ hmem).1
                have hz := ga_zero hGP.out hGA.out hkg hjl
                have hset := ga_set hGP.out hGA.out hkg hjl
                have haL := hGA.out.len
                have hprev : ∀ (h0 : 0 < j), ∃ p : Nat, wr.cell? ⟨Gk, j - 1, none⟩ = some (.int .i64 (p : Int)) ∧ p < (grp gs k)[j] := fun h0 =>
                  ⟨_, hinn'.out wr hNk (j - 1) (by omega), List.pairwise_iff_getElem.1 (hGP.out.asc k hkg) (j - 1) j (by omega) hjl (by omega)⟩
                generalize (grp gs k)[j] = mj at gj hmL hz hset hprev
                have hcell := Kd.R_cell 0 hRa (mj : Int) (by omega) (by omega)
                rw [Int.toNat_natCast] at hcell
                have hrd : rdOf 0 a (mj : Int) = a.getD mj 0 := by simp [rdOf]
                rw [hrd, hz] at hcell
                have hput := Kd.R_put hRa (mj : Int) ((k : Int) + 1)
                rw [Int.toNat_natCast] at hput
                have hNk2 := hNk.kept hput.2 (fun r e => by cases e; exact hgbB)
                have hbk2 := hbk.setCell (p := ⟨gb, mj, none⟩) hgb (.int .i64 ((k : Int) + 1))
                have hlen2 : (a.set mj ((k : Int) + 1)).length = a.length := List.length_set
                rw [← hlen2] at hput
                obtain ⟨z0, zf⟩ := hcell
                have em1 : decide ((mj : Int) < 0) = false := decide_eq_false (by omega)
                have em2 : decide ((L.length : Int) ≤ (mj : Int)) = false := decide_eq_false (by omega)
                have em3 : decide ((mj : Int) < (L.length : Int)) = true := decide_eq_true (by omega)
                have em4 : decide (L.length ≤ mj) = false := decide_eq_false (by omega)
                have em5 : decide (mj < L.length) = true := decide_eq_true (by omega)
                replace hset := Lib.hid hset
                replace hput := Lib.hid hput
                replace hNk2 := Lib.hid hNk2
                replace hbk2 := Lib.hid hbk2
                replace haL := Lib.hid haL
                replace hlen2 := Lib.hid hlen2
                replace hz := Lib.hid hz
                clear hmem hrd hGA
                have hpos : 0 < j ∨ j = 0 := by omega
                rcases hpos with hpos | hz0
                · have e5 : decide (0 < j) = true := decide_eq_true hpos
                  obtain ⟨p, hp, hpl⟩ := hprev hpos
                  have e6 : decide ((mj : Int) ≤ (p : Int)) = false := decide_eq_false (by omega)
                  have e7 : decide (mj ≤ p) = false := decide_eq_false (by omega)
                  obtain ⟨q, k1⟩ : ∃ q : Int, (j : Int) - 1 = q := ⟨_, rfl⟩
                  have k2 : (0 : Int) ≤ q := by omega
                  have k3 : q < ((grp gs k).length : Int) := by omega
                  have k4 : wrap64 q = q := by unfold wrap64; omega
                  rw [show j - 1 = q.toNat from by omega] at hp
                  clear hprev
                  go_wp2_with fail
                  go_roundw
                  case rel => exact ⟨j + 1, a.set mj ((k : Int) + 1), by omega, by go_num, hput.out.1, hset.out, hNk2.out, hbk2.out⟩
                  case measure => simp [intOf]; omega
                · have e5 : decide (0 < j) = false := decide_eq_false (by omega)
                  replace hz0 := Lib.hid hz0
                  clear hprev
                  go_wp2_with fail
                  go_roundw
                  case rel => exact ⟨j + 1, a.set mj ((k : Int) + 1), by omega, by go_num, hput.out.1, hset.out, hNk2.out, hbk2.out⟩
                  case measure => simp [intOf]; omega
              · have e4 : decide (j < (grp gs k).length) = false := decide_eq_false hjl
                obtain rfl : j = (grp gs k).length := by omega
                go_wp2_with fail
                go_roundw
                case rel => exact ⟨k + 1, a, by omega, by go_num, by rw [hnext.out], hRa, ga_next hGA.out, hNk, hbk⟩
                case measure => simp [intOf]; omega
          · have e3 : decide (k < vs.length) = false := decide_eq_false hkl
            obtain rfl : k = gs.length := by have := hvl.out; omega
            have haL := hGA.out.len
            have hend := Lib.hid (fun i hi => ga_end hGP.out hGA.out i hi)
            have hsame := Lib.hid (fun i j hi hj => ga_same hGP.out hGA.out i j hi hj)
            obtain ⟨wC, rfl⟩ : ∃ wC : World, wC = wr := ⟨_, rfl⟩
            have hgC : gb < wC.heap.size := by have := hbk.size; have := Kd.R_lt hRa gb rfl; omega
            have cn := Lib.hid (fun i w' (h : Below wC.heap.size wC w') => name_fn _ rs l2 (L.getD i ByteArray.empty) m w' (hT5.below (hbk.trans (h.mono hbk.size)) hT5.six) (hN5.out.below (hbk.trans (h.mono hbk.size))))
            have csm := Lib.hid (fun i j w' (h : Below wC.heap.size wC w') => same_fn _ rs l2 (L.getD i ByteArray.empty) (L.getD j ByteArray.empty) m w' (hT5.below (hbk.trans (h.mono hbk.size)) hT5.six) (hN5.out.below (hbk.trans (h.mono hbk.size))))
            replace hRa := Lib.hid hRa
            replace haL := Lib.hid haL
            clear hNk hGA hk hkl
            go_wp2_with fail
            go_loopw [112] (fun v112 wr => ∃ i : Nat, i ≤ L.length ∧ v112 = .int .i64 i ∧ Below wC.heap.size wC wr) (fun v112 _ => L.length - (intOf v112).toNat)
            case atStart => exact ⟨0, Nat.zero_le _, rfl, Below.refl _ _⟩
            case round =>
              obtain ⟨i, hi, rfl, hbr⟩ := hrel
              have hbB := hbk.trans (hbr.mono hbk.size)
              by_cases hil : i < L.length
              · have e3' : decide (i < L.length) = true := decide_eq_true hil
                obtain ⟨adL, rfl, d0⟩ := Kd.at_string (Kd.C_below hC8.out hbB) i (by omega) (by omega)
                rw [Int.toNat_natCast, show rdOf ByteArray.empty L (i : Int) = L.getD i ByteArray.empty from by simp [rdOf]] at d0
                have hx6 := blk_below hx5.out hbB
                have q0 : wr.cell? ⟨B1, 0, none⟩ = some (.slice A1 rs.length c1) := (cell_row hx6 0).trans rfl
                have q1 : wr.cell? ⟨B1, 1, none⟩ = some (.slice A2 l2.length c2) := (cell_row hx6 1).trans rfl
                have hzc : ∀ j, j < L.length → wC.cell? ⟨gb, j, none⟩ = some (.int .i64 (a.getD j 0)) := fun j hj => by
                  have h1 := (Kd.R_cell 0 hRa.out (j : Int) (by omega) (by have := haL.out; omega)).1
                  rw [Int.toNat_natCast, show rdOf 0 a (j : Int) = a.getD j 0 from by simp [rdOf]] at h1
                  exact h1
                have zi := hzc i hil
                have hzj := Lib.hid hzc
                have z0 := pw_cell_below hbr zi
                have hei := hend.out i hil
                have hsm : ∀ j, j < L.length → sameF rs l2 (L.getD i ByteArray.empty) (L.getD j ByteArray.empty) m = (decide (a.getD i 0 > 0) && (a.getD i 0 == a.getD j 0)) := fun j hj => hsame.out i j hil hj
                have csi := fun j w' h => csm.out i j w' h
                have c1' := cn.out i wr hbr
                rw [show nameF rs l2 (L.getD i ByteArray.empty) m = nmF rs l2 m L i from rfl] at c1'
                generalize nmF rs l2 m L i = R at c1' hei
                generalize L.getD i ByteArray.empty = si at d0 hsm csi c1'
                generalize a.getD i 0 = ai at zi z0 hei hsm
                obtain ⟨p, e1⟩ := R
                simp only at c1' hei
                replace hsm := Lib.hid hsm
                replace csi := Lib.hid csi
                replace c1' := Lib.hid c1'
                replace zi := Lib.hid zi
                clear hx6 hzc
                have hcase : (e1 = 0 ∧ 0 < ai) ∨ (e1 ≠ 0 ∧ ai = 0) := by
                  rcases hei with ⟨h1, k, _, _, h2⟩ | h1
                  · exact Or.inl ⟨h1, by omega⟩
                  · exact Or.inr h1
                clear hei
                rcases hcase with ⟨rfl, hpos⟩ | ⟨he1, hai⟩
                · have ep : decide (0 < ai) = true := decide_eq_true hpos
                  have ep2 : decide (ai > 0) = true := decide_eq_true hpos
                  have hval := Lib.hid (val_pos hpos)
                  go_wp2_with fail
                  refine c1'.out.mono ?_
                  rintro e1 wD ⟨rfl, hbD0⟩
                  have hbD := hbr.trans (hbD0.mono hbr.size)
                  have u0 := pw_cell_below hbD0 z0
                  clear c1' q0 q1 d0
                  go_wp2_with fail
                  clear u0
                  go_loopw [134] (fun v134 wr => ∃ j : Nat, j ≤ L.length ∧ v134 = .int .i64 j ∧ Below wD.heap.size wD wr) (fun v134 _ => L.length - (intOf v134).toNat)
                  case atStart => exact ⟨0, Nat.zero_le _, rfl, Below.refl _ _⟩
                  case round =>
                    obtain ⟨j, hj, rfl, hbj⟩ := hrel
                    have hbCj := hbD.trans (hbj.mono hbD.size)
                    have hbBj := hbk.trans (hbCj.mono hbk.size)
                    by_cases hjl : j < L.length
                    · have e4 : decide (j < L.length) = true := decide_eq_true hjl
                      obtain ⟨adL', hadL, d1⟩ := Kd.at_string (Kd.C_below hC8.out hbBj) j (by omega) (by omega)
                      obtain rfl := Option.some.inj hadL
                      rw [Int.toNat_natCast, show rdOf ByteArray.empty L (j : Int) = L.getD j ByteArray.empty from by simp [rdOf]] at d1
                      have hx6 := blk_below hx5.out hbBj
                      have t0 : wr.cell? ⟨B1, 0, none⟩ = some (.slice A1 rs.length c1) := (cell_row hx6 0).trans rfl
                      have t1 : wr.cell? ⟨B1, 1, none⟩ = some (.slice A2 l2.length c2) := (cell_row hx6 1).trans rfl
                      have ti := pw_cell_below hbCj zi.out
                      have tj := pw_cell_below hbCj (hzj.out j hjl)
                      have cs := fun w' (h : Below wr.heap.size wr w') => csi.out j w' (hbCj.trans (h.mono hbCj.size))
                      rw [hsm.out j hjl, hval.out] at cs
                      generalize a.getD j 0 = aj at tj cs
                      generalize L.getD j ByteArray.empty = sj at d1 cs
                      generalize hY : (ai == aj) = Y at cs
                      replace cs := Lib.hid cs
                      clear hx6
                      cases Y
                      all_goals
                        go_wp2_with fail
                        refine start_ (n := 22) (S := fun w' => w'.cell? ⟨B1, 0, none⟩ = some (.slice A1 rs.length c1) ∧ w'.cell? ⟨B1, 1, none⟩ = some (.slice A2 l2.length c2) ∧ w'.cell? ⟨gb, i, none⟩ = some (.int .i64 ai) ∧ w'.cell? ⟨gb, j, none⟩ = some (.int .i64 aj) ∧ Below wr.heap.size wr w') (ds := []) #[false, false, false, false, false, false, false, false, false, false, false, false, false, false, false, false, false, false, false, false, false, false] (by kernel_rfl) rfl rfl ⟨t0, t1, ti, tj, (Below.refl _ _).drew⟩ (fun hHeld => ?_)
                        refine pure_ (i := 1) (N := some 140) (v := ?_) (a' := ?_) #[false, true, false, false, false, false, false, false, false, false, false, false, false, false, false, false, false, false, false, false, false, false] rfl rfl (by kernel_rfl) (fun _ _ _ h => h) (Or.inl ⟨by rfl, ?_⟩) ?_ ?_
                        rotate_left
                        · intro w'
                          go_simp
                          with_reducible rfl
                        rotate_left
                        · simp only [Act.put, List.setIfInBounds_toArray, List.set_cons_zero, List.set_cons_succ, i64_w, i32_w]
                          rfl
                        refine pure_ (i := 2) (N := some 141) (v := ?_) (a' := ?_) #[false, true, true, false, false, false, false, false, false, false, false, false, false, false, false, false, false, false, false, false, false, false] rfl rfl (by kernel_rfl) (fun _ _ _ h => h) (Or.inl ⟨by rfl, ?_⟩) ?_ ?_
                        rotate_left
                        · intro w'
                          go_simp
                          with_reducible rfl
                        rotate_left
                        · simp only [Act.put, List.setIfInBounds_toArray, List.set_cons_zero, List.set_cons_succ, i64_w, i32_w]
                          rfl
                        refine pure_ (i := 3) (N := some 142) (v := ?_) (a' := ?_) #[false, true, true, true, false, false, false, false, false, false, false, false, false, false, false, false, false, false, false, false, false, false] rfl rfl (by kernel_rfl) (fun _ _ _ h => h) (Or.inl ⟨by rfl, ?_⟩) ?_ ?_
                        rotate_left
                        · intro w'
                          go_simp
                          with_reducible rfl
                        rotate_left
                        · simp only [Act.put, List.setIfInBounds_toArray, List.set_cons_zero, List.set_cons_succ, i64_w, i32_w]
                          rfl
                        refine pure_ (i := 5) (N := some 144) (v := ?_) (a' := ?_) #[false, true, true, true, false, true, false, false, false, false, false, false, false, false, false, false, false, false, false, false, false, false] rfl rfl (by kernel_rfl) (fun _ _ _ h => h) (Or.inl ⟨by rfl, ?_⟩) ?_ ?_
                        rotate_left
                        · intro w'
                          go_simp
                          with_reducible rfl
                        rotate_left
                        · simp only [Act.put, List.setIfInBounds_toArray, List.set_cons_zero, List.set_cons_succ, i64_w, i32_w]
                          rfl
                        refine pure_ (i := 6) (N := some 145) (v := ?_) (a' := ?_) #[false, true, true, true, false, true, true, false, false, false, false, false, false, false, false, false, false, false, false, false, false, false] rfl rfl (by kernel_rfl) (fun _ _ _ h => h) (Or.inl ⟨by rfl, ?_⟩) ?_ ?_
                        rotate_left
                        · intro w'
                          go_simp
                          with_reducible rfl
                        rotate_left
                        · simp only [Act.put, List.setIfInBounds_toArray, List.set_cons_zero, List.set_cons_succ, i64_w, i32_w]
                          rfl
                        refine pure_ (i := 7) (N := some 146) (v := ?_) (a' := ?_) #[false, true, true, true, false, true, true, true, false, false, false, false, false, false, false, false, false, false, false, false, false, false] rfl rfl (by kernel_rfl) (fun _ _ _ h => h) (Or.inl ⟨by rfl, ?_⟩) ?_ ?_
                        rotate_left
                        · intro w'
                          go_simp
                          with_reducible rfl
                        rotate_left
                        · simp only [Act.put, List.setIfInBounds_toArray, List.set_cons_zero, List.set_cons_succ, i64_w, i32_w]
                          rfl
                        refine take_ (i := 0) (N := some 139) (v := ?_) (a' := ?_) #[true, true, true, true, false, true, true, true, false, false, false, false, false, false, false, false, false, false, false, false, false, false] rfl rfl (by kernel_rfl) (fun _ _ _ h => h) (Or.inl ⟨by rfl, ?_⟩) hHeld ?_ ?_
                        rotate_left
                        · rintro w' ⟨s0, s1, s2, s3, s4⟩
                          go_simp
                          with_reducible rfl
                        rotate_left
                        · simp only [Act.put, List.setIfInBounds_toArray, List.set_cons_zero, List.set_cons_succ, i64_w, i32_w]
                          rfl
                        refine take_ (i := 8) (N := some 147) (v := ?_) (a' := ?_) #[true, true, true, true, false, true, true, true, true, false, false, false, false, false, false, false, false, false, false, false, false, false] rfl rfl (by kernel_rfl) (fun _ _ _ h => h) (Or.inl ⟨by rfl, ?_⟩) hHeld ?_ ?_
                        rotate_left
                        · rintro w' ⟨s0, s1, s2, s3, s4⟩
                          go_simp
                          with_reducible rfl
                        rotate_left
                        · simp only [Act.put, List.setIfInBounds_toArray, List.set_cons_zero, List.set_cons_succ, i64_w, i32_w]
                          rfl
                        refine pure_ (i := 9) (N := some 148) (v := ?_) (a' := ?_) #[true, true, true, true, false, true, true, true, true, true, false, false, false, false, false, false, false, false, false, false, false, false] rfl rfl (by kernel_rfl) (fun _ _ _ h => h) (Or.inl ⟨by rfl, ?_⟩) ?_ ?_
                        rotate_left
                        · intro w'
                          go_simp
                          with_reducible rfl
                        rotate_left
                        · simp only [Act.put, List.setIfInBounds_toArray, List.set_cons_zero, List.set_cons_succ, i64_w, i32_w]
                          rfl
                        refine one_ (i := 4) (N := some 143) #[true, true, true, true, true, true, true, true, true, true, false, false, false, false, false, false, false, false, false, false, false, false] rfl rfl (by kernel_rfl) (by decide) (fun K hK => ?_)
                        refine goes_ Tryd.func38 (by kernel_rfl) rfl #[.agg #[.slice A1 rs.length c1, .slice A2 l2.length c2], .string si, .string sj, .int .i64 m] (by rfl) rfl rfl (by simp only [List.map_toArray, List.map_cons, List.map_nil]; rfl) ?_
                        with_reducible refine (cs.out _ hHeld.2.2.2.2).mono ?_
                        rintro e w16 ⟨rfl, hb16⟩
                        refine ⟨_, rfl, ?_⟩
                        refine hK.out _ _ ⟨pw_cell_below hb16 hHeld.1, pw_cell_below hb16 hHeld.2.1, pw_cell_below hb16 hHeld.2.2.1, pw_cell_below hb16 hHeld.2.2.2.1, hHeld.2.2.2.2.trans (hb16.mono hHeld.2.2.2.2.size)⟩ (fun hHeld => ?_)
                        clear hK K
                        refine norm_ (a' := ?_) ?_ ?_
                        rotate_left
                        · show Act.put _ (some 143) _ = _
                          simp only [Act.put, List.setIfInBounds_toArray, List.set_cons_zero, List.set_cons_succ, i64_w, i32_w]
                          rfl
                        refine pure_ (i := 10) (N := some 149) (v := ?_) (a' := ?_) #[true, true, true, true, true, true, true, true, true, true, true, false, false, false, false, false, false, false, false, false, false, false] rfl rfl (by kernel_rfl) (fun _ _ _ h => h) (Or.inl ⟨by rfl, ?_⟩) ?_ ?_
                        rotate_left
                        · intro w'
                          go_simp
                          with_reducible rfl
                        rotate_left
                        · simp only [Act.put, List.setIfInBounds_toArray, List.set_cons_zero, List.set_cons_succ, i64_w, i32_w]
                          rfl
                        refine pure_ (i := 11) (N := some 150) (v := ?_) (a' := ?_) #[true, true, true, true, true, true, true, true, true, true, true, true, false, false, false, false, false, false, false, false, false, false] rfl rfl (by kernel_rfl) (fun _ _ _ h => h) (Or.inl ⟨by rfl, ?_⟩) ?_ ?_
                        rotate_left
                        · intro w'
                          go_simp
                          with_reducible rfl
                        rotate_left
                        · simp only [Act.put, List.setIfInBounds_toArray, List.set_cons_zero, List.set_cons_succ, i64_w, i32_w]
                          rfl
                        refine pure_ (i := 12) (N := some 151) (v := ?_) (a' := ?_) #[true, true, true, true, true, true, true, true, true, true, true, true, true, false, false, false, false, false, false, false, false, false] rfl rfl (by kernel_rfl) (fun _ _ _ h => h) (Or.inl ⟨by rfl, ?_⟩) ?_ ?_
                        rotate_left
                        · intro w'
                          go_simp
                          with_reducible rfl
                        rotate_left
                        · simp only [Act.put, List.setIfInBounds_toArray, List.set_cons_zero, List.set_cons_succ, i64_w, i32_w]
                          rfl
                        refine pure_ (i := 13) (N := some 152) (v := ?_) (a' := ?_) #[true, true, true, true, true, true, true, true, true, true, true, true, true, true, false, false, false, false, false, false, false, false] rfl rfl (by kernel_rfl) (fun _ _ _ h => h) (Or.inl ⟨by rfl, ?_⟩) ?_ ?_
                        rotate_left
                        · intro w'
                          go_simp
                          with_reducible rfl
                        rotate_left
                        · simp only [Act.put, List.setIfInBounds_toArray, List.set_cons_zero, List.set_cons_succ, i64_w, i32_w]
                          rfl
                        refine pure_ (i := 15) (N := some 154) (v := ?_) (a' := ?_) #[true, true, true, true, true, true, true, true, true, true, true, true, true, true, false, true, false, false, false, false, false, false] rfl rfl (by kernel_rfl) (fun _ _ _ h => h) (Or.inl ⟨by rfl, ?_⟩) ?_ ?_
                        rotate_left
                        · intro w'
                          go_simp
                          with_reducible rfl
                        rotate_left
                        · simp only [Act.put, List.setIfInBounds_toArray, List.set_cons_zero, List.set_cons_succ, i64_w, i32_w]
                          rfl
                        refine pure_ (i := 16) (N := some 155) (v := ?_) (a' := ?_) #[true, true, true, true, true, true, true, true, true, true, true, true, true, true, false, true, true, false, false, false, false, false] rfl rfl (by kernel_rfl) (fun _ _ _ h => h) (Or.inl ⟨by rfl, ?_⟩) ?_ ?_
                        rotate_left
                        · intro w'
                          go_simp
                          with_reducible rfl
                        rotate_left
                        · simp only [Act.put, List.setIfInBounds_toArray, List.set_cons_zero, List.set_cons_succ, i64_w, i32_w]
                          rfl
                        refine pure_ (i := 17) (N := some 156) (v := ?_) (a' := ?_) #[true, true, true, true, true, true, true, true, true, true, true, true, true, true, false, true, true, true, false, false, false, false] rfl rfl (by kernel_rfl) (fun _ _ _ h => h) (Or.inl ⟨by rfl, ?_⟩) ?_ ?_
                        rotate_left
                        · intro w'
                          go_simp
                          with_reducible rfl
                        rotate_left
                        · simp only [Act.put, List.setIfInBounds_toArray, List.set_cons_zero, List.set_cons_succ, i64_w, i32_w]
                          rfl
                        refine take_ (i := 14) (N := some 153) (v := ?_) (a' := ?_) #[true, true, true, true, true, true, true, true, true, true, true, true, true, true, true, true, true, true, false, false, false, false] rfl rfl (by kernel_rfl) (fun _ _ _ h => h) (Or.inl ⟨by rfl, ?_⟩) hHeld ?_ ?_
                        rotate_left
                        · rintro w' ⟨s0, s1, s2, s3, s4⟩
                          go_simp
                          with_reducible rfl
                        rotate_left
                        · simp only [Act.put, List.setIfInBounds_toArray, List.set_cons_zero, List.set_cons_succ, i64_w, i32_w]
                          rfl
                        refine take_ (i := 18) (N := some 157) (v := ?_) (a' := ?_) #[true, true, true, true, true, true, true, true, true, true, true, true, true, true, true, true, true, true, true, false, false, false] rfl rfl (by kernel_rfl) (fun _ _ _ h => h) (Or.inl ⟨by rfl, ?_⟩) hHeld ?_ ?_
                        rotate_left
                        · rintro w' ⟨s0, s1, s2, s3, s4⟩
                          go_simp
                          with_reducible rfl
                        rotate_left
                        · simp only [Act.put, List.setIfInBounds_toArray, List.set_cons_zero, List.set_cons_succ, i64_w, i32_w]
                          rfl
                        refine pure_ (i := 19) (N := some 158) (v := ?_) (a' := ?_) #[true, true, true, true, true, true, true, true, true, true, true, true, true, true, true, true, true, true, true, true, false, false] rfl rfl (by kernel_rfl) (fun _ _ _ h => h) (Or.inl ⟨by rfl, ?_⟩) ?_ ?_
                        rotate_left
                        · intro w'
                          go_simp
                          with_reducible rfl
                        rotate_left
                        · simp only [Act.put, List.setIfInBounds_toArray, List.set_cons_zero, List.set_cons_succ, i64_w, i32_w]
                          rfl
                        refine pure_ (i := 20) (N := some 159) (v := ?_) (a' := ?_) #[true, true, true, true, true, true, true, true, true, true, true, true, true, true, true, true, true, true, true, true, true, false] rfl rfl (by kernel_rfl) (fun _ _ _ h => h) (Or.inl ⟨by rfl, ?_⟩) ?_ ?_
                        rotate_left
                        · intro w'
                          go_simp
                          with_reducible rfl
                        rotate_left
                        · simp only [Act.put, List.setIfInBounds_toArray, List.set_cons_zero, List.set_cons_succ, i64_w, i32_w]
                          rfl
                        refine pure_ (i := 21) (N := some 160) (v := ?_) (a' := ?_) #[true, true, true, true, true, true, true, true, true, true, true, true, true, true, true, true, true, true, true, true, true, true] rfl rfl (by kernel_rfl) (fun _ _ _ h => h) (Or.inl ⟨by rfl, ?_⟩) ?_ ?_
                        rotate_left
                        · intro w'
                          go_simp
                          with_reducible rfl
                        rotate_left
                        · simp only [Act.put, List.setIfInBounds_toArray, List.set_cons_zero, List.set_cons_succ, i64_w, i32_w]
                          rfl
                        refine done_ (by kernel_rfl) ?_
                        go_wp2
                        go_roundw
                        case rel => exact ⟨j + 1, by omega, by go_num, hbj.trans (hHeld.2.2.2.2.mono hbj.size)⟩
                        case measure => simp [intOf]; omega
                    · have e4 : decide (j < L.length) = false := decide_eq_false hjl
                      go_wp2_with fail
                      go_roundw
                      case rel => exact ⟨i + 1, by omega, by go_num, hbCj⟩
                      case measure => simp [intOf]; omega
                · have ep : (e1 == 0) = false := beq_eq_false_iff_ne.mpr he1
                  have ep3 : (e1 = 0) = False := eq_false he1
                  have ep4 : decide (0 < ai) = false := decide_eq_false (by omega)
                  have hval := Lib.hid (val_zero hai)
                  go_wp2_with fail
                  refine c1'.out.mono ?_
                  rintro e1 wD ⟨rfl, hbD0⟩
                  have hbD := hbr.trans (hbD0.mono hbr.size)
                  have u0 := pw_cell_below hbD0 z0
                  clear c1' q0 q1 d0
                  go_wp2_with fail
                  clear u0
                  go_loopw [134] (fun v134 wr => ∃ j : Nat, j ≤ L.length ∧ v134 = .int .i64 j ∧ Below wD.heap.size wD wr) (fun v134 _ => L.length - (intOf v134).toNat)
                  case atStart => exact ⟨0, Nat.zero_le _, rfl, Below.refl _ _⟩
                  case round =>
                    obtain ⟨j, hj, rfl, hbj⟩ := hrel
                    have hbCj := hbD.trans (hbj.mono hbD.size)
                    have hbBj := hbk.trans (hbCj.mono hbk.size)
                    by_cases hjl : j < L.length
                    · have e4 : decide (j < L.length) = true := decide_eq_true hjl
                      obtain ⟨adL', hadL, d1⟩ := Kd.at_string (Kd.C_below hC8.out hbBj) j (by omega) (by omega)
                      obtain rfl := Option.some.inj hadL
                      rw [Int.toNat_natCast, show rdOf ByteArray.empty L (j : Int) = L.getD j ByteArray.empty from by simp [rdOf]] at d1
                      have hx6 := blk_below hx5.out hbBj
                      have t0 : wr.cell? ⟨B1, 0, none⟩ = some (.slice A1 rs.length c1) := (cell_row hx6 0).trans rfl
                      have t1 : wr.cell? ⟨B1, 1, none⟩ = some (.slice A2 l2.length c2) := (cell_row hx6 1).trans rfl
                      have ti := pw_cell_below hbCj zi.out
                      have tj := pw_cell_below hbCj (hzj.out j hjl)
                      have cs := fun w' (h : Below wr.heap.size wr w') => csi.out j w' (hbCj.trans (h.mono hbCj.size))
                      rw [hsm.out j hjl, hval.out] at cs
                      generalize a.getD j 0 = aj at tj cs
                      generalize L.getD j ByteArray.empty = sj at d1 cs
                      replace cs := Lib.hid cs
                      clear hx6
                      go_wp2_with fail
                      refine start_ (n := 22) (S := fun w' => w'.cell? ⟨B1, 0, none⟩ = some (.slice A1 rs.length c1) ∧ w'.cell? ⟨B1, 1, none⟩ = some (.slice A2 l2.length c2) ∧ w'.cell? ⟨gb, i, none⟩ = some (.int .i64 ai) ∧ w'.cell? ⟨gb, j, none⟩ = some (.int .i64 aj) ∧ Below wr.heap.size wr w') (ds := []) #[false, false, false, false, false, false, false, false, false, false, false, false, false, false, false, false, false, false, false, false, false, false] (by kernel_rfl) rfl rfl ⟨t0, t1, ti, tj, (Below.refl _ _).drew⟩ (fun hHeld => ?_)
                      refine pure_ (i := 1) (N := some 140) (v := ?_) (a' := ?_) #[false, true, false, false, false, false, false, false, false, false, false, false, false, false, false, false, false, false, false, false, false, false] rfl rfl (by kernel_rfl) (fun _ _ _ h => h) (Or.inl ⟨by rfl, ?_⟩) ?_ ?_
                      rotate_left
                      · intro w'
                        go_simp
                        with_reducible rfl
                      rotate_left
                      · simp only [Act.put, List.setIfInBounds_toArray, List.set_cons_zero, List.set_cons_succ, i64_w, i32_w]
                        rfl
                      refine pure_ (i := 2) (N := some 141) (v := ?_) (a' := ?_) #[false, true, true, false, false, false, false, false, false, false, false, false, false, false, false, false, false, false, false, false, false, false] rfl rfl (by kernel_rfl) (fun _ _ _ h => h) (Or.inl ⟨by rfl, ?_⟩) ?_ ?_
                      rotate_left
                      · intro w'
                        go_simp
                        with_reducible rfl
                      rotate_left
                      · simp only [Act.put, List.setIfInBounds_toArray, List.set_cons_zero, List.set_cons_succ, i64_w, i32_w]
                        rfl
                      refine pure_ (i := 3) (N := some 142) (v := ?_) (a' := ?_) #[false, true, true, true, false, false, false, false, false, false, false, false, false, false, false, false, false, false, false, false, false, false] rfl rfl (by kernel_rfl) (fun _ _ _ h => h) (Or.inl ⟨by rfl, ?_⟩) ?_ ?_
                      rotate_left
                      · intro w'
                        go_simp
                        with_reducible rfl
                      rotate_left
                      · simp only [Act.put, List.setIfInBounds_toArray, List.set_cons_zero, List.set_cons_succ, i64_w, i32_w]
                        rfl
                      refine pure_ (i := 5) (N := some 144) (v := ?_) (a' := ?_) #[false, true, true, true, false, true, false, false, false, false, false, false, false, false, false, false, false, false, false, false, false, false] rfl rfl (by kernel_rfl) (fun _ _ _ h => h) (Or.inl ⟨by rfl, ?_⟩) ?_ ?_
                      rotate_left
                      · intro w'
                        go_simp
                        with_reducible rfl
                      rotate_left
                      · simp only [Act.put, List.setIfInBounds_toArray, List.set_cons_zero, List.set_cons_succ, i64_w, i32_w]
                        rfl
                      refine pure_ (i := 6) (N := some 145) (v := ?_) (a' := ?_) #[false, true, true, true, false, true, true, false, false, false, false, false, false, false, false, false, false, false, false, false, false, false] rfl rfl (by kernel_rfl) (fun _ _ _ h => h) (Or.inl ⟨by rfl, ?_⟩) ?_ ?_
                      rotate_left
                      · intro w'
                        go_simp
                        with_reducible rfl
                      rotate_left
                      · simp only [Act.put, List.setIfInBounds_toArray, List.set_cons_zero, List.set_cons_succ, i64_w, i32_w]
                        rfl
                      refine pure_ (i := 7) (N := some 146) (v := ?_) (a' := ?_) #[false, true, true, true, false, true, true, true, false, false, false, false, false, false, false, false, false, false, false, false, false, false] rfl rfl (by kernel_rfl) (fun _ _ _ h => h) (Or.inl ⟨by rfl, ?_⟩) ?_ ?_
                      rotate_left
                      · intro w'
                        go_simp
                        with_reducible rfl
                      rotate_left
                      · simp only [Act.put, List.setIfInBounds_toArray, List.set_cons_zero, List.set_cons_succ, i64_w, i32_w]
                        rfl
                      refine take_ (i := 0) (N := some 139) (v := ?_) (a' := ?_) #[true, true, true, true, false, true, true, true, false, false, false, false, false, false, false, false, false, false, false, false, false, false] rfl rfl (by kernel_rfl) (fun _ _ _ h => h) (Or.inl ⟨by rfl, ?_⟩) hHeld ?_ ?_
                      rotate_left
                      · rintro w' ⟨s0, s1, s2, s3, s4⟩
                        go_simp
                        with_reducible rfl
                      rotate_left
                      · simp only [Act.put, List.setIfInBounds_toArray, List.set_cons_zero, List.set_cons_succ, i64_w, i32_w]
                        rfl
                      refine take_ (i := 8) (N := some 147) (v := ?_) (a' := ?_) #[true, true, true, true, false, true, true, true, true, false, false, false, false, false, false, false, false, false, false, false, false, false] rfl rfl (by kernel_rfl) (fun _ _ _ h => h) (Or.inl ⟨by rfl, ?_⟩) hHeld ?_ ?_
                      rotate_left
                      · rintro w' ⟨s0, s1, s2, s3, s4⟩
                        go_simp
                        with_reducible rfl
                      rotate_left
                      · simp only [Act.put, List.setIfInBounds_toArray, List.set_cons_zero, List.set_cons_succ, i64_w, i32_w]
                        rfl
                      refine pure_ (i := 9) (N := some 148) (v := ?_) (a' := ?_) #[true, true, true, true, false, true, true, true, true, true, false, false, false, false, false, false, false, false, false, false, false, false] rfl rfl (by kernel_rfl) (fun _ _ _ h => h) (Or.inl ⟨by rfl, ?_⟩) ?_ ?_
                      rotate_left
                      · intro w'
                        go_simp
                        with_reducible rfl
                      rotate_left
                      · simp only [Act.put, List.setIfInBounds_toArray, List.set_cons_zero, List.set_cons_succ, i64_w, i32_w]
                        rfl
                      refine one_ (i := 4) (N := some 143) #[true, true, true, true, true, true, true, true, true, true, false, false, false, false, false, false, false, false, false, false, false, false] rfl rfl (by kernel_rfl) (by decide) (fun K hK => ?_)
                      refine goes_ Tryd.func38 (by kernel_rfl) rfl #[.agg #[.slice A1 rs.length c1, .slice A2 l2.length c2], .string si, .string sj, .int .i64 m] (by rfl) rfl rfl (by simp only [List.map_toArray, List.map_cons, List.map_nil]; rfl) ?_
                      with_reducible refine (cs.out _ hHeld.2.2.2.2).mono ?_
                      rintro e w16 ⟨rfl, hb16⟩
                      refine ⟨_, rfl, ?_⟩
                      refine hK.out _ _ ⟨pw_cell_below hb16 hHeld.1, pw_cell_below hb16 hHeld.2.1, pw_cell_below hb16 hHeld.2.2.1, pw_cell_below hb16 hHeld.2.2.2.1, hHeld.2.2.2.2.trans (hb16.mono hHeld.2.2.2.2.size)⟩ (fun hHeld => ?_)
                      clear hK K
                      refine norm_ (a' := ?_) ?_ ?_
                      rotate_left
                      · show Act.put _ (some 143) _ = _
                        simp only [Act.put, List.setIfInBounds_toArray, List.set_cons_zero, List.set_cons_succ, i64_w, i32_w]
                        rfl
                      refine pure_ (i := 10) (N := some 149) (v := ?_) (a' := ?_) #[true, true, true, true, true, true, true, true, true, true, true, false, false, false, false, false, false, false, false, false, false, false] rfl rfl (by kernel_rfl) (fun _ _ _ h => h) (Or.inl ⟨by rfl, ?_⟩) ?_ ?_
                      rotate_left
                      · intro w'
                        go_simp
                        with_reducible rfl
                      rotate_left
                      · simp only [Act.put, List.setIfInBounds_toArray, List.set_cons_zero, List.set_cons_succ, i64_w, i32_w]
                        rfl
                      refine pure_ (i := 11) (N := some 150) (v := undef) (a' := ?_) #[true, true, true, true, true, true, true, true, true, true, true, true, false, false, false, false, false, false, false, false, false, false] rfl rfl (by kernel_rfl) (fun _ _ _ h => h) (Or.inr ⟨by rfl, rfl⟩) ?_ ?_
                      rotate_left
                      · simp only [Act.put, List.setIfInBounds_toArray, List.set_cons_zero, List.set_cons_succ, i64_w, i32_w]
                        rfl
                      refine pure_ (i := 12) (N := some 151) (v := undef) (a' := ?_) #[true, true, true, true, true, true, true, true, true, true, true, true, true, false, false, false, false, false, false, false, false, false] rfl rfl (by kernel_rfl) (fun _ _ _ h => h) (Or.inr ⟨by rfl, rfl⟩) ?_ ?_
                      rotate_left
                      · simp only [Act.put, List.setIfInBounds_toArray, List.set_cons_zero, List.set_cons_succ, i64_w, i32_w]
                        rfl
                      refine pure_ (i := 13) (N := some 152) (v := undef) (a' := ?_) #[true, true, true, true, true, true, true, true, true, true, true, true, true, true, false, false, false, false, false, false, false, false] rfl rfl (by kernel_rfl) (fun _ _ _ h => h) (Or.inr ⟨by rfl, rfl⟩) ?_ ?_
                      rotate_left
                      · simp only [Act.put, List.setIfInBounds_toArray, List.set_cons_zero, List.set_cons_succ, i64_w, i32_w]
                        rfl
                      refine pure_ (i := 14) (N := some 153) (v := undef) (a' := ?_) #[true, true, true, true, true, true, true, true, true, true, true, true, true, true, true, false, false, false, false, false, false, false] rfl rfl (by kernel_rfl) (fun _ _ _ h => h) (Or.inr ⟨by rfl, rfl⟩) ?_ ?_
                      rotate_left
                      · simp only [Act.put, List.setIfInBounds_toArray, List.set_cons_zero, List.set_cons_succ, i64_w, i32_w]
                        rfl
                      refine pure_ (i := 15) (N := some 154) (v := undef) (a' := ?_) #[true, true, true, true, true, true, true, true, true, true, true, true, true, true, true, true, false, false, false, false, false, false] rfl rfl (by kernel_rfl) (fun _ _ _ h => h) (Or.inr ⟨by rfl, rfl⟩) ?_ ?_
                      rotate_left
                      · simp only [Act.put, List.setIfInBounds_toArray, List.set_cons_zero, List.set_cons_succ, i64_w, i32_w]
                        rfl
                      refine pure_ (i := 16) (N := some 155) (v := undef) (a' := ?_) #[true, true, true, true, true, true, true, true, true, true, true, true, true, true, true, true, true, false, false, false, false, false] rfl rfl (by kernel_rfl) (fun _ _ _ h => h) (Or.inr ⟨by rfl, rfl⟩) ?_ ?_
                      rotate_left
                      · simp only [Act.put, List.setIfInBounds_toArray, List.set_cons_zero, List.set_cons_succ, i64_w, i32_w]
                        rfl
                      refine pure_ (i := 17) (N := some 156) (v := undef) (a' := ?_) #[true, true, true, true, true, true, true, true, true, true, true, true, true, true, true, true, true, true, false, false, false, false] rfl rfl (by kernel_rfl) (fun _ _ _ h => h) (Or.inr ⟨by rfl, rfl⟩) ?_ ?_
                      rotate_left
                      · simp only [Act.put, List.setIfInBounds_toArray, List.set_cons_zero, List.set_cons_succ, i64_w, i32_w]
                        rfl
                      refine pure_ (i := 18) (N := some 157) (v := undef) (a' := ?_) #[true, true, true, true, true, true, true, true, true, true, true, true, true, true, true, true, true, true, true, false, false, false] rfl rfl (by kernel_rfl) (fun _ _ _ h => h) (Or.inr ⟨by rfl, rfl⟩) ?_ ?_
                      rotate_left
                      · simp only [Act.put, List.setIfInBounds_toArray, List.set_cons_zero, List.set_cons_succ, i64_w, i32_w]
                        rfl
                      refine pure_ (i := 19) (N := some 158) (v := undef) (a' := ?_) #[true, true, true, true, true, true, true, true, true, true, true, true, true, true, true, true, true, true, true, true, false, false] rfl rfl (by kernel_rfl) (fun _ _ _ h => h) (Or.inr ⟨by rfl, rfl⟩) ?_ ?_
                      rotate_left
                      · simp only [Act.put, List.setIfInBounds_toArray, List.set_cons_zero, List.set_cons_succ, i64_w, i32_w]
                        rfl
                      refine pure_ (i := 20) (N := some 159) (v := ?_) (a' := ?_) #[true, true, true, true, true, true, true, true, true, true, true, true, true, true, true, true, true, true, true, true, true, false] rfl rfl (by kernel_rfl) (fun _ _ _ h => h) (Or.inl ⟨by rfl, ?_⟩) ?_ ?_
                      rotate_left
                      · intro w'
                        go_simp
                        with_reducible rfl
                      rotate_left
                      · simp only [Act.put, List.setIfInBounds_toArray, List.set_cons_zero, List.set_cons_succ, i64_w, i32_w]
                        rfl
                      refine pure_ (i := 21) (N := some 160) (v := ?_) (a' := ?_) #[true, true, true, true, true, true, true, true, true, true, true, true, true, true, true, true, true, true, true, true, true, true] rfl rfl (by kernel_rfl) (fun _ _ _ h => h) (Or.inl ⟨by rfl, ?_⟩) ?_ ?_
                      rotate_left
                      · intro w'
                        go_simp
                        with_reducible rfl
                      rotate_left
                      · simp only [Act.put, List.setIfInBounds_toArray, List.set_cons_zero, List.set_cons_succ, i64_w, i32_w]
                        rfl
                      refine done_ (by kernel_rfl) ?_
                      go_wp2
                      go_roundw
                      case rel => exact ⟨j + 1, by omega, by go_num, hbj.trans (hHeld.2.2.2.2.mono hbj.size)⟩
                      case measure => simp [intOf]; omega
                    · have e4 : decide (j < L.length) = false := decide_eq_false hjl
                      go_wp2_with fail
                      go_roundw
                      case rel => exact ⟨i + 1, by omega, by go_num, hbCj⟩
                      case measure => simp [intOf]; omega
              · have e3' : decide (i < L.length) = false := decide_eq_false hil
                have hbw := hlp.out.trans (hbB.mono hlp.out.size)
                have cw := Lib.hid (awake14_ok wr (hT.below hbw hT.six))
                go_wp2_with fail
                refine cw.out.mono ?_
                rintro e w15 ⟨rfl, hb15⟩
                go_wp2_with fail
                go_ret
                exact ⟨rfl, hbw.trans (hb15.mono hbw.size)⟩
  · have e0 : decide ((l.length : Int) ≤ 500) = false := decide_eq_false (by omega)
    rw [e0] at cl
    have ca := Lib.hid (fun w1 hB => awake14_ok w1 hB)
    replace hr := Lib.hid hr
    clear hl e0
    replace hc := Lib.hid hc
    go_enter Tryd.func13, Tryd.ntmps13
    go_wp2_with fail
    refine cl.out.mono ?_
    rintro e w1 ⟨rfl, ⟨n1, rfl⟩⟩
    go_wp2_with fail
    have hb := pw_below_drewN (Below.refl w.heap.size w) n1
    refine (ca.out _ (hT.below hb hT.six)).mono ?_
    rintro e w2 ⟨rfl, hb1⟩
    go_wp2_with fail
    go_ret
    exact ⟨rfl, hb.trans (hb1.mono (Nat.le_refl _))⟩
#print axioms canonGroups_walk
end Go.Proofs.YtpejnnnkamodbaaDoor
