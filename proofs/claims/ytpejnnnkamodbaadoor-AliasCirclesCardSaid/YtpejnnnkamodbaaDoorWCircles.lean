/- The walk of reportescrowlaw13.AliasCircles: whatever the dice, it returns true. -/
import Derived.Test.YtpejnnnkamodbaaDoorWGrown
import Derived.Test.YtpejnnnkamodbaaDoorWAwake13
namespace Go.Proofs.YtpejnnnkamodbaaDoor
open Go Go.RowKit Go.Maps Go.WideMaps Go.Proofs.YtpejnnnkamodbaaDoorW.PrintWords Go.Proofs.YtpejnnnkamodbaaDoorW.PrintLast
open PCanonEqual (S40 k40 z40 rd_T40 at_T40 k40_open k40_mk k40_openM k40_mkM)

theorem sound_sizes {l : List S40} (h : Sound40 l) : ∀ a ∈ l, a.f0.size ≤ 256 ∧ a.f1.size ≤ 256 := fun a ha => right_sizes (valid_mem h.1 a ha)
theorem leads_size {l : List S40} (h : Sound40 l) {t : Int} {s r : ByteArray} (hl : Leads (presT l t) s r) : r.size ≤ max s.size 256 := by
  rcases leads_from hl with rfl | ⟨k, a, hk, rfl⟩
  · omega
  · have := (sound_sizes h a (presT_mem l t k a hk).1).2
    omega
set_option maxHeartbeats 4000000 in
set_option maxRecDepth 100000 in
theorem aliasCircles_walk (A : Option Addr) (c : Nat) (l : List Int) (w : World) (hT : Tabs w) (hr : Kd.C (Kd.int .i64) w A l.length l) (hc : l.length ≤ c) :
    Calls Tryd.prog 7 #[.slice A l.length c] w fun e w' => e = .returned (.bool true) ∧ Below w.heap.size w w' := by
  have cl := Lib.hid (light_any A c l w hr hc)
  by_cases hl : l.length ≤ 500
  · have e0 : decide ((l.length : Int) ≤ 500) = true := decide_eq_true (by omega)
    rw [e0] at cl
    have cr := Lib.hid (fun w1 hB => roll_any A c l w w1 hB hr hc hl)
    replace hr := Lib.hid hr
    clear hl e0
    replace hc := Lib.hid hc
    go_enter Tryd.func7, Tryd.ntmps7
    go_wp2_with fail
    refine cl.out.mono ?_
    rintro e w1 ⟨rfl, ⟨n1, rfl⟩⟩
    go_wp2_with fail
    refine (cr.out _ (pw_below_drewN (Below.refl _ _) _)).mono ?_
    rintro e w2 ⟨g, rfl, hd2, hb2⟩
    go_wp2_with fail
    refine (grown_ok w g w2 hT hd2).mono ?_
    rintro e w3 ⟨A3, c3, L, rfl, hG, hC3, hd3, hk3⟩
    have hlow := hd3.low
    have hT3 := hT.below hlow hT.six
    have cv := valid_ok A3 c3 L w3 hT3 hC3
    rw [hG.1] at cv
    replace cv := Lib.hid cv
    have hsz := Lib.hid (sound_sizes hG)
    have hLs := Lib.hid (fun t s r (h : Leads (presT L t) s r) => leads_size hG h)
    have hL256 := ((valid_iff L).1 hG.1).1
    replace hG := Lib.hid hG
    replace hC3 := Lib.hid hC3
    clear hd2 hb2 hd3 hk3 cl cr
    go_wp2_with fail
    refine cv.out.mono ?_
    rintro e w4 ⟨rfl, hb4⟩
    clear cv
    go_wp2_with fail
    go_loopw [21] (fun v21 wr => ∃ t : Nat, t ≤ 16 ∧ v21 = .int .i64 t ∧ Below w3.heap.size w3 wr) (fun v21 _ => 16 - (intOf v21).toNat)
    case atStart => exact ⟨0, by omega, rfl, hb4⟩
    case round =>
      obtain ⟨t, ht, rfl, hbr⟩ := hrel
      by_cases hlt : t < 16
      · have e0 : decide ((t : Int) < 16) = true := decide_eq_true (by omega)
        go_wp2_with fail
        go_loopw [26] (fun v26 ws => ∃ i : Nat, i ≤ L.length ∧ v26 = .int .i64 i ∧ Below w3.heap.size w3 ws) (fun v26 _ => L.length - (intOf v26).toNat)
        case atStart => exact ⟨0, Nat.zero_le _, rfl, hbr⟩
        case round =>
          obtain ⟨i, hi, rfl, hbs⟩ := hrel
          by_cases hli : i < L.length
          · have e3 : decide (i < L.length) = true := decide_eq_true hli
            have hrr : Kd.C k40 _ A3 L.length L := Kd.C_below hC3.out hbs
            obtain ⟨ad, rfl, d0, d1, d2, d3⟩ := at_T40 hrr i (by omega) (by omega)
            rw [Int.toNat_natCast] at d0 d1 d2 d3
            have hra : rd_T40 L i = L.getD i z40 := by simp [rd_T40]
            have hmem : L.getD i z40 ∈ L := by
              rw [List.getD_eq_getElem?_getD, List.getElem?_eq_getElem hli]
              exact List.getElem_mem hli
            rw [hra] at d0 d1 d2 d3
            generalize L.getD i z40 = a at d0 d1 d2 d3 hmem
            have hs0 := (hsz.out a hmem).1
            obtain ⟨n, o, ti, g1⟩ := a
            simp only at hs0
            have hbq : Below wr.heap.size wr (wr.alloc (Obj.cells #[Value.string n, Value.string o, Value.int IntKind.i64 ti, Value.bool g1] 40)) := (Below.refl _ _).alloc (Nat.le_refl _) _
            have hbq' := hbs.trans (hbq.mono hbs.size)
            have c1 := Lib.hid (followAll_ok (some ad) c3 L n t _ (hT3.below hbq' hT3.six) (Kd.C_below hrr hbq) (by omega))
            clear hrr hra hmem hbq
            go_wp2_with fail
            refine c1.out.mono ?_
            rintro e w5 ⟨⟨r, er, hf, rfl⟩, hb5⟩
            obtain ⟨rfl, hlead⟩ := follow_good hG.out hf
            have hb5' := hbq'.trans (hb5.mono hbq'.size)
            have hrs : r.size ≤ 1000000 := by have := hLs.out t n r hlead; omega
            have c2 := Lib.hid (followAll_ok (some ad) c3 L r t w5 (hT3.below hb5' hT3.six) (Kd.C_below hC3.out hb5') hrs)
            replace hlead := Lib.hid hlead
            clear hf c1 hrs
            go_wp2_with fail
            refine c2.out.mono ?_
            rintro e w6 ⟨⟨r2, er2, hf2, rfl⟩, hb6⟩
            obtain ⟨rfl, hlead2⟩ := follow_good hG.out hf2
            obtain rfl := leads_det hlead2 (leads_again hlead.out)
            have hb6' := hb5'.trans (hb6.mono hb5'.size)
            clear hf2 c2 hlead2
            go_wp2_with fail
            go_roundw
            case rel => exact ⟨i + 1, by omega, by go_num, hb6'⟩
            case measure => simp [intOf]; omega
          · have e3 : decide (i < L.length) = false := decide_eq_false hli
            go_wp2_with fail
            go_roundw
            case rel => exact ⟨t + 1, by omega, by go_num, hbs⟩
            case measure => simp [intOf]; omega
      · have e0 : decide ((t : Int) < 16) = false := decide_eq_false (by omega)
        have ca := Lib.hid (awake13_ok _ (hT3.below hbr hT3.six))
        go_wp2_with fail
        refine ca.out.mono ?_
        rintro e w6 ⟨rfl, hb6⟩
        go_wp2_with fail
        go_ret
        exact ⟨rfl, (hlow.trans (hbr.mono hlow.size)).trans (hb6.mono (Nat.le_trans hlow.size hbr.size))⟩
  · have e0 : decide ((l.length : Int) ≤ 500) = false := decide_eq_false (by omega)
    rw [e0] at cl
    have ca := Lib.hid (fun w1 hB => awake13_ok w1 hB)
    replace hr := Lib.hid hr
    clear hl e0
    replace hc := Lib.hid hc
    go_enter Tryd.func7, Tryd.ntmps7
    go_wp2_with fail
    refine cl.out.mono ?_
    rintro e w1 ⟨rfl, ⟨n1, rfl⟩⟩
    go_wp2_with fail
    have hb := pw_below_drewN (Below.refl w.heap.size w) n1
    refine (ca.out _ (hT.below hb hT.six)).mono ?_
    rintro e w2 ⟨rfl, hb1⟩
    go_wp2_with fail
    go_ret
    exact ⟨rfl, hb.trans (hb1.mono (Nat.le_refl _))⟩
#print axioms aliasCircles_walk
end Go.Proofs.YtpejnnnkamodbaaDoor
