/- The walk of reportescrowlaw13.AliasNow: whatever the dice, it returns true. -/
import Derived.Test.YtpejnnnkamodbaaDoorWNow
namespace Go.Proofs.YtpejnnnkamodbaaDoor
open Go Go.RowKit Go.Maps Go.WideMaps Go.Proofs.YtpejnnnkamodbaaDoorW.PrintWords Go.Proofs.YtpejnnnkamodbaaDoorW.PrintLast
open PCanonEqual (S40 k40 z40 at_T40 rd_T40)

def anyT (N : List S40) (s : ByteArray) (i : Nat) : Bool := (N.take i).any fun a => a.f0.toList == s.toList
theorem anyT_step {N : List S40} {s : ByteArray} {i : Nat} (h : i < N.length) : anyT N s (i + 1) = (anyT N s i || ((N.getD i z40).f0.toList == s.toList)) := by
  unfold anyT
  rw [List.take_add_one, List.any_append, getD_eq h, List.getElem?_eq_getElem h]
  simp
theorem list_eq {a b : ByteArray} (h : a.toList = b.toList) : a = b := by
  rw [ByteArray.toList_eq, ByteArray.toList_eq] at h
  exact ByteArray.ext (Array.toList_inj.1 h)
/-- What is said of the list at a time. -/
structure NowL (l : List S40) (t : Int) (N : List S40) : Prop where
  asc : ∀ i, 0 < i → i < N.length → Op.bytesLess (N.getD (i - 1) z40).f0.toList (N.getD i z40).f0.toList = true
  each : ∀ i, i < N.length → (N.getD i z40).f3 = false ∧ (N.getD i z40).f2 ≤ t ∧ presT l t (N.getD i z40).f0 = some (N.getD i z40) ∧ (N.getD i z40).f0.size ≤ 1000 ∧ (N.getD i z40).f1.size ≤ 1000
  all : ∀ s, anyT N s N.length = true ↔ presT l t s ≠ none
theorem now_list {l : List S40} {t : Int} {L : List ByteArray} (hv : validT l = true) (h : NowP (presT l t) L) : NowL l t (L.map (valF (presT l t))) := by
  have hget : ∀ i (hi : i < L.length), ∃ a, presT l t L[i] = some a ∧ (L.map (valF (presT l t))).getD i z40 = a ∧ a.f0 = L[i] := by
    intro i hi
    have h1 := (h.2 L[i]).1 (List.getElem_mem hi)
    cases hp : presT l t L[i] with
    | none => exact absurd hp h1
    | some a =>
      refine ⟨a, rfl, ?_, (presT_mem l t _ a hp).2.1⟩
      rw [getD_eq (by rw [List.length_map]; exact hi), List.getElem_map]
      unfold valF
      rw [hp]
      rfl
  refine ⟨fun i h0 hi => ?_, fun i hi => ?_, fun s => ?_⟩
  · rw [List.length_map] at hi
    obtain ⟨a, _, e1, e2⟩ := hget (i - 1) (by omega)
    obtain ⟨b, _, e3, e4⟩ := hget i hi
    rw [e1, e3, e2, e4]
    exact List.pairwise_iff_getElem.1 h.1 (i - 1) i (by omega) hi (by omega)
  · rw [List.length_map] at hi
    obtain ⟨a, e0, e1, e2⟩ := hget i hi
    rw [e1]
    have hm := presT_mem l t _ a e0
    have hsz := right_sizes (valid_mem hv a hm.1)
    exact ⟨hm.2.2.2, hm.2.2.1, by rw [e2]; exact e0, by omega, by omega⟩
  · unfold anyT
    rw [List.take_length, List.any_map, List.any_eq_true, ← h.2 s]
    constructor
    · rintro ⟨x, hx, he⟩
      have h1 := (h.2 x).1 hx
      cases hp : presT l t x with
      | none => exact absurd hp h1
      | some a =>
        have he' : (valF (presT l t) x).f0.toList = s.toList := by simpa using he
        unfold valF at he'
        rw [hp] at he'
        have h2 := (presT_mem l t x a hp).2.1
        have h3 : a.f0 = s := list_eq he'
        rw [← h3, h2]
        exact hx
    · intro hs
      refine ⟨s, hs, ?_⟩
      have h1 := (h.2 s).1 hs
      cases hp : presT l t s with
      | none => exact absurd hp h1
      | some a =>
        have h2 := (presT_mem l t s a hp).2.1
        show ((valF (presT l t) s).f0.toList == s.toList) = true
        unfold valF
        rw [hp]
        simp [h2]
theorem five_cells (i : Nat) (h : i < 5) : ∃ s : ByteArray, s.size ≤ 1000 ∧ (#[Value.string ⟨#[98, 111, 98]⟩, Value.string ⟨#[114, 111, 98]⟩, Value.string ⟨#[114, 111, 98, 101, 114, 116]⟩, Value.string ⟨#[97, 110, 110]⟩, Value.string ⟨#[106, 111, 115, 101, 102]⟩] : Array Value)[i]? = some (.string s) := by
  rcases i with _ | _ | _ | _ | _ | i
  · exact ⟨_, by decide, rfl⟩
  · exact ⟨_, by decide, rfl⟩
  · exact ⟨_, by decide, rfl⟩
  · exact ⟨_, by decide, rfl⟩
  · exact ⟨_, by decide, rfl⟩
  · omega
set_option maxHeartbeats 4000000 in
set_option maxRecDepth 100000 in
set_option linter.unusedSimpArgs false in
theorem aliasNow_walk (A : Option Addr) (c : Nat) (l : List Int) (x : Int) (w : World) (hT : Tabs w) (hr : Kd.C (Kd.int .i64) w A l.length l) (hc : l.length ≤ c) (hx0 : 0 ≤ x) (_hx1 : x ≤ 255) :
    Calls Tryd.prog 15 #[.slice A l.length c, .int .u8 x] w fun e w' => e = .returned (.bool true) ∧ Below w.heap.size w w' := by
  have cl := Lib.hid (light_any A c l w hr hc)
  obtain ⟨m, hm⟩ : ∃ m : Nat, Int.tmod x 16 = m := ⟨(Int.tmod x 16).toNat, by have := Int.tmod_nonneg 16 hx0; omega⟩
  have hm9 : m < 16 := by have := Int.tmod_lt_of_pos x (b := 16) (by decide); omega
  clear hx0 _hx1
  by_cases hl : l.length ≤ 500
  · have e0 : decide ((l.length : Int) ≤ 500) = true := decide_eq_true (by omega)
    rw [e0] at cl
    have cr := Lib.hid (fun w1 hB => roll_any A c l w w1 hB hr hc hl)
    replace hr := Lib.hid hr
    clear hl e0
    replace hc := Lib.hid hc
    go_enter Tryd.func15, Tryd.ntmps15
    go_wp2_with fail
    refine cl.out.mono ?_
    rintro e w1 ⟨rfl, ⟨n1, rfl⟩⟩
    go_wp2_with fail
    refine (cr.out _ (pw_below_drewN (Below.refl _ _) _)).mono ?_
    rintro e w2 ⟨g, rfl, hd2, hb2⟩
    go_wp2_with fail
    refine (grown_ok w g w2 hT hd2).mono ?_
    rintro e w3 ⟨A3, c3, L, rfl, hS, hC3, hd3, hk3, hL10⟩
    have hlow := hd3.low
    have hT3 := hT.below hlow hT.six
    have ca := Lib.hid (at42_ok A3 c3 L m w3 hC3 (by omega) (fun a ha => Nat.le_trans (right_sizes (valid_mem hS.1 a ha)).1 (by decide)))
    have hS' := Lib.hid hS
    replace hC3 := Lib.hid hC3
    clear cl cr hd2 hb2 hk3 hd3 hS
    go_wp2_with fail
    refine ca.out.mono ?_
    rintro e w4 ⟨⟨A4, c4, LL, rfl, hC4, hnow, hLl⟩, hb4⟩
    have hN := now_list hS'.out.1 hnow
    have hNl : (LL.map (valF (presT L m))).length ≤ 10 := by rw [List.length_map]; omega
    generalize LL.map (valF (presT L m)) = N at hC4 hN hNl ⊢
    have hb4' := hlow.trans (hb4.mono hlow.size)
    have hT4 := hT.below hb4' hT.six
    have cf := Lib.hid (fun s w' (hs : s.size ≤ 1000) (hb : Below w4.heap.size w4 w') => followAll_ok A3 c3 L s m w' (hT4.below hb hT4.six) (Kd.C_below (Kd.C_below hC3.out hb4) hb) (by omega))
    have hN' := Lib.hid hN
    replace hC4 := Lib.hid hC4
    clear ca hnow hN hT3 hLl
    go_wp2_with fail
    go_loopw [38] (fun v38 wr => ∃ i : Nat, i ≤ N.length ∧ v38 = .int .i64 i ∧ Below w4.heap.size w4 wr) (fun v38 _ => N.length - (intOf v38).toNat)
    case atStart => exact ⟨0, Nat.zero_le _, rfl, Below.refl _ _⟩
    case round =>
      obtain ⟨i, hi, rfl, hbr⟩ := hrel
      by_cases hlt : i < N.length
      · have e3 : decide (i < N.length) = true := decide_eq_true hlt
        have hrr : Kd.C k40 wr A4 N.length N := Kd.C_below hC4.out hbr
        obtain ⟨ad, rfl, d0, d1, d2, d3⟩ := at_T40 hrr i (by omega) (by omega)
        rw [Int.toNat_natCast] at d0 d1 d2 d3
        have hra : rd_T40 N i = N.getD i z40 := by simp [rd_T40]
        rw [hra] at d0 d1 d2 d3
        have hE := hN'.out.each i hlt
        have hA := fun h0 => hN'.out.asc i h0 hlt
        generalize N.getD i z40 = a at d0 d1 d2 d3 hE hA
        obtain ⟨n', o', ti', g'⟩ := a
        simp only at d0 d1 d2 d3 hE hA
        obtain ⟨rfl, hti, hp, hz0, hz1⟩ := hE
        have hbq : Below wr.heap.size wr (wr.alloc (Obj.cells #[Value.string n', Value.string o', Value.int IntKind.i64 ti', Value.bool false] 40)) := (Below.refl _ _).alloc (Nat.le_refl _) _
        have hblk := heap_alloc_new wr (Obj.cells #[Value.string n', Value.string o', Value.int IntKind.i64 ti', Value.bool false] 40)
        have hbq' := hbr.trans (hbq.mono hbr.size)
        have eti2 : decide ((m : Int) < ti') = false := decide_eq_false (by omega)
        replace hp := Lib.hid hp
        clear hra hti
        by_cases hpos : 0 < i
        case' pos =>
          have e5 : decide (0 < i) = true := decide_eq_true hpos
          have hlss := hA hpos
          obtain ⟨ad', had', d0', -, -, -⟩ := at_T40 hrr ((i - 1 : Nat) : Int) (by omega) (by omega)
          obtain rfl := Option.some.inj had'
          rw [Int.toNat_natCast] at d0'
          rw [show rd_T40 N ((i - 1 : Nat) : Int) = N.getD (i - 1) z40 from by simp [rd_T40]] at d0'
          generalize N.getD (i - 1) z40 = pa at d0' hlss
          generalize hpp : pa.f0 = p at d0' hlss
          obtain ⟨q, k1⟩ : ∃ q : Int, (i : Int) - 1 = q := ⟨_, rfl⟩
          have k2 : (0 : Int) ≤ q := by omega
          have k3 : q < (N.length : Int) := by omega
          have k4 : wrap64 q = q := by unfold wrap64; omega
          rw [show (i - 1) * 4 = q.toNat * 4 from by omega] at d0'
          clear hrr hpp hA
          go_wp2_with fail
          generalize (wr.alloc (Obj.cells #[Value.string n', Value.string o', Value.int IntKind.i64 ti', Value.bool false] 40)) = wq at hbq hblk hbq' ⊢
          have p0 := pw_cell_below hbq d0'
          generalize wr.heap.size = G at hblk ⊢
          refine start_ (n := 23) (S := fun w' => w'.cell? ⟨G, 0, none⟩ = some (.string n') ∧ w'.cell? ⟨G, 2, none⟩ = some (.int .i64 ti') ∧ w'.cell? ⟨G, 3, none⟩ = some (.bool false) ∧ w'.cell? (ad.add (q.toNat * 4)) = some (.string p)) (ds := []) #[false, false, false, false, false, false, false, false, false, false, false, false, false, false, false, false, false, false, false, false, false, false, false] (by kernel_rfl) rfl rfl ⟨(cell_row hblk 0).trans rfl, (cell_row hblk 2).trans rfl, (cell_row hblk 3).trans rfl, p0⟩ (fun hHeld => ?_)
          refine pure_ (i := 0) (N := some 43) (v := ?_) (a' := ?_) #[true, false, false, false, false, false, false, false, false, false, false, false, false, false, false, false, false, false, false, false, false, false, false] rfl rfl (by kernel_rfl) (fun _ _ _ h => h) (Or.inl ⟨by rfl, ?_⟩) ?_ ?_
          rotate_left
          · intro w'
            go_simp
            with_reducible rfl
          rotate_left
          · simp only [Act.put, List.setIfInBounds_toArray, List.set_cons_zero, List.set_cons_succ, i64_w, i32_w]
            rfl
          refine pure_ (i := 1) (N := some 44) (v := ?_) (a' := ?_) #[true, true, false, false, false, false, false, false, false, false, false, false, false, false, false, false, false, false, false, false, false, false, false] rfl rfl (by kernel_rfl) (fun _ _ _ h => h) (Or.inl ⟨by rfl, ?_⟩) ?_ ?_
          rotate_left
          · intro w'
            go_simp
            with_reducible rfl
          rotate_left
          · simp only [Act.put, List.setIfInBounds_toArray, List.set_cons_zero, List.set_cons_succ, i64_w, i32_w]
            rfl
          refine pure_ (i := 2) (N := some 45) (v := ?_) (a' := ?_) #[true, true, true, false, false, false, false, false, false, false, false, false, false, false, false, false, false, false, false, false, false, false, false] rfl rfl (by kernel_rfl) (fun _ _ _ h => h) (Or.inl ⟨by rfl, ?_⟩) ?_ ?_
          rotate_left
          · intro w'
            go_simp
            with_reducible rfl
          rotate_left
          · simp only [Act.put, List.setIfInBounds_toArray, List.set_cons_zero, List.set_cons_succ, i64_w, i32_w]
            rfl
          refine pure_ (i := 3) (N := some 46) (v := ?_) (a' := ?_) #[true, true, true, true, false, false, false, false, false, false, false, false, false, false, false, false, false, false, false, false, false, false, false] rfl rfl (by kernel_rfl) (fun _ _ _ h => h) (Or.inl ⟨by rfl, ?_⟩) ?_ ?_
          rotate_left
          · intro w'
            go_simp
            with_reducible rfl
          rotate_left
          · simp only [Act.put, List.setIfInBounds_toArray, List.set_cons_zero, List.set_cons_succ, i64_w, i32_w]
            rfl
          refine pure_ (i := 4) (N := some 47) (v := ?_) (a' := ?_) #[true, true, true, true, true, false, false, false, false, false, false, false, false, false, false, false, false, false, false, false, false, false, false] rfl rfl (by kernel_rfl) (fun _ _ _ h => h) (Or.inl ⟨by rfl, ?_⟩) ?_ ?_
          rotate_left
          · intro w'
            go_simp
            with_reducible rfl
          rotate_left
          · simp only [Act.put, List.setIfInBounds_toArray, List.set_cons_zero, List.set_cons_succ, i64_w, i32_w]
            rfl
          refine pure_ (i := 5) (N := some 48) (v := ?_) (a' := ?_) #[true, true, true, true, true, true, false, false, false, false, false, false, false, false, false, false, false, false, false, false, false, false, false] rfl rfl (by kernel_rfl) (fun _ _ _ h => h) (Or.inl ⟨by rfl, ?_⟩) ?_ ?_
          rotate_left
          · intro w'
            go_simp
            with_reducible rfl
          rotate_left
          · simp only [Act.put, List.setIfInBounds_toArray, List.set_cons_zero, List.set_cons_succ, i64_w, i32_w]
            rfl
          refine pure_ (i := 6) (N := some 49) (v := ?_) (a' := ?_) #[true, true, true, true, true, true, true, false, false, false, false, false, false, false, false, false, false, false, false, false, false, false, false] rfl rfl (by kernel_rfl) (fun _ _ _ h => h) (Or.inl ⟨by rfl, ?_⟩) ?_ ?_
          rotate_left
          · intro w'
            go_simp
            with_reducible rfl
          rotate_left
          · simp only [Act.put, List.setIfInBounds_toArray, List.set_cons_zero, List.set_cons_succ, i64_w, i32_w]
            rfl
          refine pure_ (i := 7) (N := some 50) (v := ?_) (a' := ?_) #[true, true, true, true, true, true, true, true, false, false, false, false, false, false, false, false, false, false, false, false, false, false, false] rfl rfl (by kernel_rfl) (fun _ _ _ h => h) (Or.inl ⟨by rfl, ?_⟩) ?_ ?_
          rotate_left
          · intro w'
            go_simp
            with_reducible rfl
          rotate_left
          · simp only [Act.put, List.setIfInBounds_toArray, List.set_cons_zero, List.set_cons_succ, i64_w, i32_w]
            rfl
          refine pure_ (i := 9) (N := some 52) (v := ?_) (a' := ?_) #[true, true, true, true, true, true, true, true, false, true, false, false, false, false, false, false, false, false, false, false, false, false, false] rfl rfl (by kernel_rfl) (fun _ _ _ h => h) (Or.inl ⟨by rfl, ?_⟩) ?_ ?_
          rotate_left
          · intro w'
            go_simp
            with_reducible rfl
          rotate_left
          · simp only [Act.put, List.setIfInBounds_toArray, List.set_cons_zero, List.set_cons_succ, i64_w, i32_w]
            rfl
          refine take_ (i := 8) (N := some 51) (v := ?_) (a' := ?_) #[true, true, true, true, true, true, true, true, true, true, false, false, false, false, false, false, false, false, false, false, false, false, false] rfl rfl (by kernel_rfl) (fun _ _ _ h => h) (Or.inl ⟨by rfl, ?_⟩) hHeld ?_ ?_
          rotate_left
          · rintro w' ⟨s0, s1, s2, s3⟩
            go_simp
            with_reducible rfl
          rotate_left
          · simp only [Act.put, List.setIfInBounds_toArray, List.set_cons_zero, List.set_cons_succ, i64_w, i32_w]
            rfl
          refine take_ (i := 10) (N := some 53) (v := ?_) (a' := ?_) #[true, true, true, true, true, true, true, true, true, true, true, false, false, false, false, false, false, false, false, false, false, false, false] rfl rfl (by kernel_rfl) (fun _ _ _ h => h) (Or.inl ⟨by rfl, ?_⟩) hHeld ?_ ?_
          rotate_left
          · rintro w' ⟨s0, s1, s2, s3⟩
            go_simp
            with_reducible rfl
          rotate_left
          · simp only [Act.put, List.setIfInBounds_toArray, List.set_cons_zero, List.set_cons_succ, i64_w, i32_w]
            rfl
          refine pure_ (i := 11) (N := some 54) (v := ?_) (a' := ?_) #[true, true, true, true, true, true, true, true, true, true, true, true, false, false, false, false, false, false, false, false, false, false, false] rfl rfl (by kernel_rfl) (fun _ _ _ h => h) (Or.inl ⟨by rfl, ?_⟩) ?_ ?_
          rotate_left
          · intro w'
            go_simp
            with_reducible rfl
          rotate_left
          · simp only [Act.put, List.setIfInBounds_toArray, List.set_cons_zero, List.set_cons_succ, i64_w, i32_w]
            rfl
          refine pure_ (i := 12) (N := some 55) (v := ?_) (a' := ?_) #[true, true, true, true, true, true, true, true, true, true, true, true, true, false, false, false, false, false, false, false, false, false, false] rfl rfl (by kernel_rfl) (fun _ _ _ h => h) (Or.inl ⟨by rfl, ?_⟩) ?_ ?_
          rotate_left
          · intro w'
            go_simp
            with_reducible rfl
          rotate_left
          · simp only [Act.put, List.setIfInBounds_toArray, List.set_cons_zero, List.set_cons_succ, i64_w, i32_w]
            rfl
          refine pure_ (i := 13) (N := some 56) (v := ?_) (a' := ?_) #[true, true, true, true, true, true, true, true, true, true, true, true, true, true, false, false, false, false, false, false, false, false, false] rfl rfl (by kernel_rfl) (fun _ _ _ h => h) (Or.inl ⟨by rfl, ?_⟩) ?_ ?_
          rotate_left
          · intro w'
            go_simp
            with_reducible rfl
          rotate_left
          · simp only [Act.put, List.setIfInBounds_toArray, List.set_cons_zero, List.set_cons_succ, i64_w, i32_w]
            rfl
          refine pure_ (i := 14) (N := some 57) (v := ?_) (a' := ?_) #[true, true, true, true, true, true, true, true, true, true, true, true, true, true, true, false, false, false, false, false, false, false, false] rfl rfl (by kernel_rfl) (fun _ _ _ h => h) (Or.inl ⟨by rfl, ?_⟩) ?_ ?_
          rotate_left
          · intro w'
            go_simp
            with_reducible rfl
          rotate_left
          · simp only [Act.put, List.setIfInBounds_toArray, List.set_cons_zero, List.set_cons_succ, i64_w, i32_w]
            rfl
          refine take_ (i := 15) (N := some 58) (v := ?_) (a' := ?_) #[true, true, true, true, true, true, true, true, true, true, true, true, true, true, true, true, false, false, false, false, false, false, false] rfl rfl (by kernel_rfl) (fun _ _ _ h => h) (Or.inl ⟨by rfl, ?_⟩) hHeld ?_ ?_
          rotate_left
          · rintro w' ⟨s0, s1, s2, s3⟩
            go_simp
            with_reducible rfl
          rotate_left
          · simp only [Act.put, List.setIfInBounds_toArray, List.set_cons_zero, List.set_cons_succ, i64_w, i32_w]
            rfl
          refine pure_ (i := 16) (N := some 59) (v := ?_) (a' := ?_) #[true, true, true, true, true, true, true, true, true, true, true, true, true, true, true, true, true, false, false, false, false, false, false] rfl rfl (by kernel_rfl) (fun _ _ _ h => h) (Or.inl ⟨by rfl, ?_⟩) ?_ ?_
          rotate_left
          · intro w'
            go_simp
            with_reducible rfl
          rotate_left
          · simp only [Act.put, List.setIfInBounds_toArray, List.set_cons_zero, List.set_cons_succ, i64_w, i32_w]
            rfl
          refine pure_ (i := 17) (N := some 60) (v := ?_) (a' := ?_) #[true, true, true, true, true, true, true, true, true, true, true, true, true, true, true, true, true, true, false, false, false, false, false] rfl rfl (by kernel_rfl) (fun _ _ _ h => h) (Or.inl ⟨by rfl, ?_⟩) ?_ ?_
          rotate_left
          · intro w'
            go_simp
            with_reducible rfl
          rotate_left
          · simp only [Act.put, List.setIfInBounds_toArray, List.set_cons_zero, List.set_cons_succ, i64_w, i32_w]
            rfl
          refine pure_ (i := 18) (N := some 61) (v := ?_) (a' := ?_) #[true, true, true, true, true, true, true, true, true, true, true, true, true, true, true, true, true, true, true, false, false, false, false] rfl rfl (by kernel_rfl) (fun _ _ _ h => h) (Or.inl ⟨by rfl, ?_⟩) ?_ ?_
          rotate_left
          · intro w'
            go_simp
            with_reducible rfl
          rotate_left
          · simp only [Act.put, List.setIfInBounds_toArray, List.set_cons_zero, List.set_cons_succ, i64_w, i32_w]
            rfl
          refine pure_ (i := 20) (N := some 63) (v := ?_) (a' := ?_) #[true, true, true, true, true, true, true, true, true, true, true, true, true, true, true, true, true, true, true, false, true, false, false] rfl rfl (by kernel_rfl) (fun _ _ _ h => h) (Or.inl ⟨by rfl, ?_⟩) ?_ ?_
          rotate_left
          · intro w'
            go_simp
            with_reducible rfl
          rotate_left
          · simp only [Act.put, List.setIfInBounds_toArray, List.set_cons_zero, List.set_cons_succ, i64_w, i32_w]
            rfl
          refine take_ (i := 19) (N := some 62) (v := ?_) (a' := ?_) #[true, true, true, true, true, true, true, true, true, true, true, true, true, true, true, true, true, true, true, true, true, false, false] rfl rfl (by kernel_rfl) (fun _ _ _ h => h) (Or.inl ⟨by rfl, ?_⟩) hHeld ?_ ?_
          rotate_left
          · rintro w' ⟨s0, s1, s2, s3⟩
            go_simp
            with_reducible rfl
          rotate_left
          · simp only [Act.put, List.setIfInBounds_toArray, List.set_cons_zero, List.set_cons_succ, i64_w, i32_w]
            rfl
          refine pure_ (i := 21) (N := some 64) (v := ?_) (a' := ?_) #[true, true, true, true, true, true, true, true, true, true, true, true, true, true, true, true, true, true, true, true, true, true, false] rfl rfl (by kernel_rfl) (fun _ _ _ h => h) (Or.inl ⟨by rfl, ?_⟩) ?_ ?_
          rotate_left
          · intro w'
            go_simp
            with_reducible rfl
          rotate_left
          · simp only [Act.put, List.setIfInBounds_toArray, List.set_cons_zero, List.set_cons_succ, i64_w, i32_w]
            rfl
          refine pure_ (i := 22) (N := some 65) (v := ?_) (a' := ?_) #[true, true, true, true, true, true, true, true, true, true, true, true, true, true, true, true, true, true, true, true, true, true, true] rfl rfl (by kernel_rfl) (fun _ _ _ h => h) (Or.inl ⟨by rfl, ?_⟩) ?_ ?_
          rotate_left
          · intro w'
            go_simp
            with_reducible rfl
          rotate_left
          · simp only [Act.put, List.setIfInBounds_toArray, List.set_cons_zero, List.set_cons_succ, i64_w, i32_w]
            rfl
          refine done_ (by kernel_rfl) ?_
          clear d0 d1 d2 d3 d0' p0 hHeld hlss e5 k1 k2 k3 k4
        case' neg =>
          have e5 : decide (0 < i) = false := decide_eq_false hpos
          clear hrr hA
          go_wp2_with fail
          generalize (wr.alloc (Obj.cells #[Value.string n', Value.string o', Value.int IntKind.i64 ti', Value.bool false] 40)) = wq at hbq hblk hbq' ⊢
          generalize wr.heap.size = G at hblk ⊢
          refine start_ (n := 23) (S := fun w' => w'.cell? ⟨G, 0, none⟩ = some (.string n') ∧ w'.cell? ⟨G, 2, none⟩ = some (.int .i64 ti') ∧ w'.cell? ⟨G, 3, none⟩ = some (.bool false)) (ds := []) #[false, false, false, false, false, false, false, false, false, false, false, false, false, false, false, false, false, false, false, false, false, false, false] (by kernel_rfl) rfl rfl ⟨(cell_row hblk 0).trans rfl, (cell_row hblk 2).trans rfl, (cell_row hblk 3).trans rfl⟩ (fun hHeld => ?_)
          refine pure_ (i := 0) (N := some 43) (v := ?_) (a' := ?_) #[true, false, false, false, false, false, false, false, false, false, false, false, false, false, false, false, false, false, false, false, false, false, false] rfl rfl (by kernel_rfl) (fun _ _ _ h => h) (Or.inl ⟨by rfl, ?_⟩) ?_ ?_
          rotate_left
          · intro w'
            go_simp
            with_reducible rfl
          rotate_left
          · simp only [Act.put, List.setIfInBounds_toArray, List.set_cons_zero, List.set_cons_succ, i64_w, i32_w]
            rfl
          refine pure_ (i := 1) (N := some 44) (v := ?_) (a' := ?_) #[true, true, false, false, false, false, false, false, false, false, false, false, false, false, false, false, false, false, false, false, false, false, false] rfl rfl (by kernel_rfl) (fun _ _ _ h => h) (Or.inl ⟨by rfl, ?_⟩) ?_ ?_
          rotate_left
          · intro w'
            go_simp
            with_reducible rfl
          rotate_left
          · simp only [Act.put, List.setIfInBounds_toArray, List.set_cons_zero, List.set_cons_succ, i64_w, i32_w]
            rfl
          refine pure_ (i := 2) (N := some 45) (v := ?_) (a' := ?_) #[true, true, true, false, false, false, false, false, false, false, false, false, false, false, false, false, false, false, false, false, false, false, false] rfl rfl (by kernel_rfl) (fun _ _ _ h => h) (Or.inl ⟨by rfl, ?_⟩) ?_ ?_
          rotate_left
          · intro w'
            go_simp
            with_reducible rfl
          rotate_left
          · simp only [Act.put, List.setIfInBounds_toArray, List.set_cons_zero, List.set_cons_succ, i64_w, i32_w]
            rfl
          refine pure_ (i := 3) (N := some 46) (v := undef) (a' := ?_) #[true, true, true, true, false, false, false, false, false, false, false, false, false, false, false, false, false, false, false, false, false, false, false] rfl rfl (by kernel_rfl) (fun _ _ _ h => h) (Or.inr ⟨by rfl, rfl⟩) ?_ ?_
          rotate_left
          · simp only [Act.put, List.setIfInBounds_toArray, List.set_cons_zero, List.set_cons_succ, i64_w, i32_w]
            rfl
          refine pure_ (i := 4) (N := some 47) (v := undef) (a' := ?_) #[true, true, true, true, true, false, false, false, false, false, false, false, false, false, false, false, false, false, false, false, false, false, false] rfl rfl (by kernel_rfl) (fun _ _ _ h => h) (Or.inr ⟨by rfl, rfl⟩) ?_ ?_
          rotate_left
          · simp only [Act.put, List.setIfInBounds_toArray, List.set_cons_zero, List.set_cons_succ, i64_w, i32_w]
            rfl
          refine pure_ (i := 5) (N := some 48) (v := undef) (a' := ?_) #[true, true, true, true, true, true, false, false, false, false, false, false, false, false, false, false, false, false, false, false, false, false, false] rfl rfl (by kernel_rfl) (fun _ _ _ h => h) (Or.inr ⟨by rfl, rfl⟩) ?_ ?_
          rotate_left
          · simp only [Act.put, List.setIfInBounds_toArray, List.set_cons_zero, List.set_cons_succ, i64_w, i32_w]
            rfl
          refine pure_ (i := 6) (N := some 49) (v := undef) (a' := ?_) #[true, true, true, true, true, true, true, false, false, false, false, false, false, false, false, false, false, false, false, false, false, false, false] rfl rfl (by kernel_rfl) (fun _ _ _ h => h) (Or.inr ⟨by rfl, rfl⟩) ?_ ?_
          rotate_left
          · simp only [Act.put, List.setIfInBounds_toArray, List.set_cons_zero, List.set_cons_succ, i64_w, i32_w]
            rfl
          refine pure_ (i := 7) (N := some 50) (v := undef) (a' := ?_) #[true, true, true, true, true, true, true, true, false, false, false, false, false, false, false, false, false, false, false, false, false, false, false] rfl rfl (by kernel_rfl) (fun _ _ _ h => h) (Or.inr ⟨by rfl, rfl⟩) ?_ ?_
          rotate_left
          · simp only [Act.put, List.setIfInBounds_toArray, List.set_cons_zero, List.set_cons_succ, i64_w, i32_w]
            rfl
          refine pure_ (i := 8) (N := some 51) (v := undef) (a' := ?_) #[true, true, true, true, true, true, true, true, true, false, false, false, false, false, false, false, false, false, false, false, false, false, false] rfl rfl (by kernel_rfl) (fun _ _ _ h => h) (Or.inr ⟨by rfl, rfl⟩) ?_ ?_
          rotate_left
          · simp only [Act.put, List.setIfInBounds_toArray, List.set_cons_zero, List.set_cons_succ, i64_w, i32_w]
            rfl
          refine pure_ (i := 9) (N := some 52) (v := undef) (a' := ?_) #[true, true, true, true, true, true, true, true, true, true, false, false, false, false, false, false, false, false, false, false, false, false, false] rfl rfl (by kernel_rfl) (fun _ _ _ h => h) (Or.inr ⟨by rfl, rfl⟩) ?_ ?_
          rotate_left
          · simp only [Act.put, List.setIfInBounds_toArray, List.set_cons_zero, List.set_cons_succ, i64_w, i32_w]
            rfl
          refine pure_ (i := 10) (N := some 53) (v := undef) (a' := ?_) #[true, true, true, true, true, true, true, true, true, true, true, false, false, false, false, false, false, false, false, false, false, false, false] rfl rfl (by kernel_rfl) (fun _ _ _ h => h) (Or.inr ⟨by rfl, rfl⟩) ?_ ?_
          rotate_left
          · simp only [Act.put, List.setIfInBounds_toArray, List.set_cons_zero, List.set_cons_succ, i64_w, i32_w]
            rfl
          refine pure_ (i := 11) (N := some 54) (v := undef) (a' := ?_) #[true, true, true, true, true, true, true, true, true, true, true, true, false, false, false, false, false, false, false, false, false, false, false] rfl rfl (by kernel_rfl) (fun _ _ _ h => h) (Or.inr ⟨by rfl, rfl⟩) ?_ ?_
          rotate_left
          · simp only [Act.put, List.setIfInBounds_toArray, List.set_cons_zero, List.set_cons_succ, i64_w, i32_w]
            rfl
          refine pure_ (i := 12) (N := some 55) (v := ?_) (a' := ?_) #[true, true, true, true, true, true, true, true, true, true, true, true, true, false, false, false, false, false, false, false, false, false, false] rfl rfl (by kernel_rfl) (fun _ _ _ h => h) (Or.inl ⟨by rfl, ?_⟩) ?_ ?_
          rotate_left
          · intro w'
            go_simp
            with_reducible rfl
          rotate_left
          · simp only [Act.put, List.setIfInBounds_toArray, List.set_cons_zero, List.set_cons_succ, i64_w, i32_w]
            rfl
          refine pure_ (i := 13) (N := some 56) (v := ?_) (a' := ?_) #[true, true, true, true, true, true, true, true, true, true, true, true, true, true, false, false, false, false, false, false, false, false, false] rfl rfl (by kernel_rfl) (fun _ _ _ h => h) (Or.inl ⟨by rfl, ?_⟩) ?_ ?_
          rotate_left
          · intro w'
            go_simp
            with_reducible rfl
          rotate_left
          · simp only [Act.put, List.setIfInBounds_toArray, List.set_cons_zero, List.set_cons_succ, i64_w, i32_w]
            rfl
          refine pure_ (i := 14) (N := some 57) (v := ?_) (a' := ?_) #[true, true, true, true, true, true, true, true, true, true, true, true, true, true, true, false, false, false, false, false, false, false, false] rfl rfl (by kernel_rfl) (fun _ _ _ h => h) (Or.inl ⟨by rfl, ?_⟩) ?_ ?_
          rotate_left
          · intro w'
            go_simp
            with_reducible rfl
          rotate_left
          · simp only [Act.put, List.setIfInBounds_toArray, List.set_cons_zero, List.set_cons_succ, i64_w, i32_w]
            rfl
          refine take_ (i := 15) (N := some 58) (v := ?_) (a' := ?_) #[true, true, true, true, true, true, true, true, true, true, true, true, true, true, true, true, false, false, false, false, false, false, false] rfl rfl (by kernel_rfl) (fun _ _ _ h => h) (Or.inl ⟨by rfl, ?_⟩) hHeld ?_ ?_
          rotate_left
          · rintro w' ⟨s0, s1, s2⟩
            go_simp
            with_reducible rfl
          rotate_left
          · simp only [Act.put, List.setIfInBounds_toArray, List.set_cons_zero, List.set_cons_succ, i64_w, i32_w]
            rfl
          refine pure_ (i := 16) (N := some 59) (v := ?_) (a' := ?_) #[true, true, true, true, true, true, true, true, true, true, true, true, true, true, true, true, true, false, false, false, false, false, false] rfl rfl (by kernel_rfl) (fun _ _ _ h => h) (Or.inl ⟨by rfl, ?_⟩) ?_ ?_
          rotate_left
          · intro w'
            go_simp
            with_reducible rfl
          rotate_left
          · simp only [Act.put, List.setIfInBounds_toArray, List.set_cons_zero, List.set_cons_succ, i64_w, i32_w]
            rfl
          refine pure_ (i := 17) (N := some 60) (v := ?_) (a' := ?_) #[true, true, true, true, true, true, true, true, true, true, true, true, true, true, true, true, true, true, false, false, false, false, false] rfl rfl (by kernel_rfl) (fun _ _ _ h => h) (Or.inl ⟨by rfl, ?_⟩) ?_ ?_
          rotate_left
          · intro w'
            go_simp
            with_reducible rfl
          rotate_left
          · simp only [Act.put, List.setIfInBounds_toArray, List.set_cons_zero, List.set_cons_succ, i64_w, i32_w]
            rfl
          refine pure_ (i := 18) (N := some 61) (v := ?_) (a' := ?_) #[true, true, true, true, true, true, true, true, true, true, true, true, true, true, true, true, true, true, true, false, false, false, false] rfl rfl (by kernel_rfl) (fun _ _ _ h => h) (Or.inl ⟨by rfl, ?_⟩) ?_ ?_
          rotate_left
          · intro w'
            go_simp
            with_reducible rfl
          rotate_left
          · simp only [Act.put, List.setIfInBounds_toArray, List.set_cons_zero, List.set_cons_succ, i64_w, i32_w]
            rfl
          refine pure_ (i := 20) (N := some 63) (v := ?_) (a' := ?_) #[true, true, true, true, true, true, true, true, true, true, true, true, true, true, true, true, true, true, true, false, true, false, false] rfl rfl (by kernel_rfl) (fun _ _ _ h => h) (Or.inl ⟨by rfl, ?_⟩) ?_ ?_
          rotate_left
          · intro w'
            go_simp
            with_reducible rfl
          rotate_left
          · simp only [Act.put, List.setIfInBounds_toArray, List.set_cons_zero, List.set_cons_succ, i64_w, i32_w]
            rfl
          refine take_ (i := 19) (N := some 62) (v := ?_) (a' := ?_) #[true, true, true, true, true, true, true, true, true, true, true, true, true, true, true, true, true, true, true, true, true, false, false] rfl rfl (by kernel_rfl) (fun _ _ _ h => h) (Or.inl ⟨by rfl, ?_⟩) hHeld ?_ ?_
          rotate_left
          · rintro w' ⟨s0, s1, s2⟩
            go_simp
            with_reducible rfl
          rotate_left
          · simp only [Act.put, List.setIfInBounds_toArray, List.set_cons_zero, List.set_cons_succ, i64_w, i32_w]
            rfl
          refine pure_ (i := 21) (N := some 64) (v := ?_) (a' := ?_) #[true, true, true, true, true, true, true, true, true, true, true, true, true, true, true, true, true, true, true, true, true, true, false] rfl rfl (by kernel_rfl) (fun _ _ _ h => h) (Or.inl ⟨by rfl, ?_⟩) ?_ ?_
          rotate_left
          · intro w'
            go_simp
            with_reducible rfl
          rotate_left
          · simp only [Act.put, List.setIfInBounds_toArray, List.set_cons_zero, List.set_cons_succ, i64_w, i32_w]
            rfl
          refine pure_ (i := 22) (N := some 65) (v := ?_) (a' := ?_) #[true, true, true, true, true, true, true, true, true, true, true, true, true, true, true, true, true, true, true, true, true, true, true] rfl rfl (by kernel_rfl) (fun _ _ _ h => h) (Or.inl ⟨by rfl, ?_⟩) ?_ ?_
          rotate_left
          · intro w'
            go_simp
            with_reducible rfl
          rotate_left
          · simp only [Act.put, List.setIfInBounds_toArray, List.set_cons_zero, List.set_cons_succ, i64_w, i32_w]
            rfl
          refine done_ (by kernel_rfl) ?_
          clear d0 d1 d2 d3 hHeld e5
        all_goals
          have hblk5 : wq.drew.heap[G]? = some (Obj.cells #[Value.string n', Value.string o', Value.int IntKind.i64 ti', Value.bool false] 40) := hblk
          have hb5 : Below w4.heap.size w4 wq.drew := hbq'.drew
          clear hblk hbq hbq' eti2
          generalize wq.drew = w5 at hblk5 hb5 ⊢
          have q0 : w5.cell? ⟨G, 0, none⟩ = some (.string n') := (cell_row hblk5 0).trans rfl
          have c1 := Lib.hid (cf.out n' w5 hz0 hb5)
          go_wp2_with fail
          refine c1.out.mono ?_
          rintro e w6 ⟨⟨r1, k1, hf1, rfl⟩, hb6⟩
          obtain ⟨rfl, hle1⟩ := follow_good hS'.out hf1
          have hblk6 := blk_below hblk5 hb6
          have hb6' := hb5.trans (hb6.mono hb5.size)
          have q1 : w6.cell? ⟨G, 1, none⟩ = some (.string o') := (cell_row hblk6 1).trans rfl
          have c2 := Lib.hid (cf.out o' w6 hz1 hb6')
          replace hle1 := Lib.hid hle1
          clear c1 hf1 q0 hblk5 hblk6
          go_wp2_with fail
          refine c2.out.mono ?_
          rintro e w7 ⟨⟨r2, k2, hf2, rfl⟩, hb7⟩
          obtain ⟨rfl, hle2⟩ := follow_good hS'.out hf2
          obtain rfl : r1 = r2 := leads_det ((leads_iff hp.out).1 hle1.out) hle2
          have hb7' := hb6'.trans (hb7.mono hb6'.size)
          clear c2 hf2 q1 hle1 hle2
          go_wp2_with fail
          go_roundw
          case rel => exact ⟨i + 1, by omega, by go_num, hb7'⟩
          case measure => simp [intOf]; omega
      · have e3 : decide (i < N.length) = false := decide_eq_false hlt
        obtain rfl : i = N.length := by omega
        have hba : Below wr.heap.size wr (wr.alloc (Obj.cells #[Value.string ⟨#[98, 111, 98]⟩, Value.string ⟨#[114, 111, 98]⟩, Value.string ⟨#[114, 111, 98, 101, 114, 116]⟩, Value.string ⟨#[97, 110, 110]⟩, Value.string ⟨#[106, 111, 115, 101, 102]⟩] 9)) := (Below.refl _ _).alloc (Nat.le_refl _) _
        have hka := heap_alloc_new wr (Obj.cells #[Value.string ⟨#[98, 111, 98]⟩, Value.string ⟨#[114, 111, 98]⟩, Value.string ⟨#[114, 111, 98, 101, 114, 116]⟩, Value.string ⟨#[97, 110, 110]⟩, Value.string ⟨#[106, 111, 115, 101, 102]⟩] 9)
        have hba' := hbr.trans (hba.mono hbr.size)
        clear hlt hi
        go_wp2_with fail
        generalize wr.alloc (Obj.cells #[Value.string ⟨#[98, 111, 98]⟩, Value.string ⟨#[114, 111, 98]⟩, Value.string ⟨#[114, 111, 98, 101, 114, 116]⟩, Value.string ⟨#[97, 110, 110]⟩, Value.string ⟨#[106, 111, 115, 101, 102]⟩] 9) = w5 at hba hka hba' ⊢
        generalize wr.heap.size = G at hka ⊢
        replace hka := Lib.hid hka
        clear hba e3
        go_loopw [96] (fun v96 wr => ∃ j : Nat, j ≤ 5 ∧ v96 = .int .i64 j ∧ Below w5.heap.size w5 wr) (fun v96 _ => 5 - (intOf v96).toNat)
        case atStart => exact ⟨0, by omega, rfl, Below.refl _ _⟩
        case round =>
          obtain ⟨j, hj, rfl, hb6⟩ := hrel
          have hb6' := hba'.trans (hb6.mono hba'.size)
          by_cases hj5 : j < 5
          · have e0 : decide ((j : Int) < 5) = true := decide_eq_true (by omega)
            have hj5' : (j : Int) < 5 := by omega
            obtain ⟨s, hsz, hs⟩ := five_cells j hj5
            have q0 : wr.cell? ⟨G, j, none⟩ = some (.string s) := (cell_row (blk_below hka.out hb6) j).trans hs
            have c1 := Lib.hid (cf.out s wr hsz hb6')
            clear hs
            go_wp2_with fail
            refine c1.out.mono ?_
            rintro e w7 ⟨⟨r1, k1, hf1, rfl⟩, hb7⟩
            obtain ⟨rfl, hle1⟩ := follow_good hS'.out hf1
            have hb7' := hb6'.trans (hb7.mono hb6'.size)
            have hb75 := hb6.trans (hb7.mono hb6.size)
            have hall := Lib.hid (hN'.out.all s)
            replace hle1 := Lib.hid hle1
            clear c1 hf1 q0
            go_wp2_with fail
            go_loopw [19, 109] (fun v19 v109 wr => ∃ k : Nat, k ≤ N.length ∧ v109 = .int .i64 k ∧ v19 = .bool (anyT N s k) ∧ Below w7.heap.size w7 wr) (fun _ v109 _ => N.length - (intOf v109).toNat)
            case atStart => exact ⟨0, Nat.zero_le _, rfl, rfl, Below.refl _ _⟩
            case round =>
              obtain ⟨k, hk, rfl, rfl, hb8⟩ := hrel
              have hb8' := hb7'.trans (hb8.mono hb7'.size)
              by_cases hkl : k < N.length
              · have e3 : decide (k < N.length) = true := decide_eq_true hkl
                have hrr : Kd.C k40 wr A4 N.length N := Kd.C_below hC4.out hb8'
                obtain ⟨ad, rfl, d0, d1, d2, d3⟩ := at_T40 hrr k (by omega) (by omega)
                rw [Int.toNat_natCast] at d0 d1 d2 d3
                have hra : rd_T40 N k = N.getD k z40 := by simp [rd_T40]
                rw [hra] at d0 d1 d2 d3
                have hstep := anyT_step (s := s) hkl
                generalize N.getD k z40 = a at d0 d1 d2 d3 hstep
                obtain ⟨n', o', ti', g'⟩ := a
                simp only at d0 d1 d2 d3 hstep
                have hbq : Below wr.heap.size wr (wr.alloc (Obj.cells #[Value.string n', Value.string o', Value.int IntKind.i64 ti', Value.bool g'] 40)) := (Below.refl _ _).alloc (Nat.le_refl _) _
                have hbq' := hb8.trans (hbq.mono hb8.size)
                generalize anyT N s k = Y at hstep ⊢
                replace hstep := Lib.hid hstep
                clear hrr hra hbq
                cases Y
                · go_wp2_with fail
                  go_roundw
                  case rel => exact ⟨k + 1, by omega, by go_num, by rw [hstep.out]; simp, hbq'⟩
                  case measure => simp [intOf]; omega
                · go_wp2_with fail
                  go_roundw
                  case rel => exact ⟨k + 1, by omega, by go_num, by rw [hstep.out]; simp, hbq'⟩
                  case measure => simp [intOf]; omega
              · have e3 : decide (k < N.length) = false := decide_eq_false hkl
                obtain rfl : k = N.length := by omega
                have hb85 := hb75.trans (hb8.mono hb75.size)
                have hal := hall.out
                generalize anyT N s N.length = Y at hal ⊢
                clear hkl hk hall
                cases Y
                · have hnone : presT L m s = none := by
                    cases hp : presT L m s with
                    | none => rfl
                    | some a => exact absurd (hal.2 (by rw [hp]; simp)) (by decide)
                  obtain rfl : r1 = s := leads_det hle1.out (.done hnone)
                  clear hal hnone hle1
                  go_wp2_with fail
                  go_roundw
                  case rel => exact ⟨j + 1, by omega, by go_num, hb85⟩
                  case measure => simp [intOf]; omega
                · have hne1 : ¬ r1.toList = s.toList := by
                    intro h
                    have h2 := leads_end hle1.out
                    rw [list_eq h] at h2
                    exact hal.1 rfl h2
                  have hne2 : (r1.toList = s.toList) = False := eq_false hne1
                  have hne3 : (r1.toList == s.toList) = false := by simpa using hne1
                  clear hal hle1 hne1
                  go_wp2_with fail
                  go_roundw
                  case rel => exact ⟨j + 1, by omega, by go_num, hb85⟩
                  case measure => simp [intOf]; omega
          · have e0 : decide ((j : Int) < 5) = false := decide_eq_false (by omega)
            have hbw := hb4'.trans (hb6'.mono hb4'.size)
            have cw := Lib.hid (awake13_ok wr (hT.below hbw hT.six))
            go_wp2_with fail
            refine cw.out.mono ?_
            rintro e w9 ⟨rfl, hb9⟩
            go_wp2_with fail
            go_ret
            exact ⟨rfl, hbw.trans (hb9.mono hbw.size)⟩
  · have e0 : decide ((l.length : Int) ≤ 500) = false := decide_eq_false (by omega)
    rw [e0] at cl
    have ca := Lib.hid (fun w1 hB => awake13_ok w1 hB)
    replace hr := Lib.hid hr
    clear hl e0
    replace hc := Lib.hid hc
    go_enter Tryd.func15, Tryd.ntmps15
    go_wp2_with fail
    refine cl.out.mono ?_
    rintro e w1 ⟨rfl, ⟨n1, rfl⟩⟩
    go_wp2_with fail
    have hb := pw_below_drewN (Below.refl w.heap.size w) n1
    refine (ca.out _ (hT.below hb hT.six)).mono ?_
    rintro e w2 ⟨rfl, hb1⟩
    go_wp2_with fail
    go_ret
    exact ⟨rfl, hb.trans (hb1.mono (Nat.le_refl _))⟩
#print axioms aliasNow_walk
end Go.Proofs.YtpejnnnkamodbaaDoor
