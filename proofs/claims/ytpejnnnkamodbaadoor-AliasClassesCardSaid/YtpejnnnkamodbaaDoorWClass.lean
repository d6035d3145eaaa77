/- The package alias: Class. -/
import Derived.Test.YtpejnnnkamodbaaDoorWSort
namespace Go.Proofs.YtpejnnnkamodbaaDoor
open Go Go.RowKit Go.Maps Go.WideMaps Go.Sort Go.Proofs.YtpejnnnkamodbaaDoorW.PrintWords Go.Proofs.YtpejnnnkamodbaaDoorW.PrintLast
open PCanonEqual (S40 k40 z40 k40_mkM)

/-! ### a sorted list, compacted -/
theorem lt_of_le_ne {a b : List UInt8} (h : a ≤ b) (hn : a ≠ b) : a < b := by
  by_cases hlt : a < b
  · exact hlt
  · exact absurd (List.le_antisymm h hlt) hn
theorem lt_of_le_lt {a b c : List UInt8} (h : a ≤ b) (h2 : b < c) : a < c := by
  by_cases hlt : a < c
  · exact hlt
  · exact absurd h2 (List.le_trans (show c ≤ a from hlt) h)
theorem compact_up {zs : List (List UInt8)} (hs : zs.Pairwise (fun a b => a ≤ b)) : ∀ m, m ≤ zs.length →
    (Lib.compactUpTo zs.toArray m).Pairwise (fun a b => a < b) ∧ (∀ x, x ∈ Lib.compactUpTo zs.toArray m ↔ ∃ j, j < m ∧ zs.toArray[j]! = x) ∧ (∀ x ∈ Lib.compactUpTo zs.toArray m, x ≤ zs.toArray[m - 1]!)
  | 0, _ => by
    have e : Lib.compactUpTo zs.toArray 0 = [] := rfl
    rw [e]
    exact ⟨List.Pairwise.nil, fun x => by simp, fun x hx => by simp at hx⟩
  | m + 1, hm => by
    obtain ⟨h1, h2, h3⟩ := compact_up hs m (by omega)
    rw [Lib.compactUpTo_succ]
    have hd : ∀ j (hj : j < zs.length), zs.toArray[j]! = zs[j] := fun j hj => by
      rw [getElem!_pos zs.toArray j (by simpa using hj)]
      simp
    by_cases hk : Lib.keeps zs.toArray m = true
    · rw [if_pos hk]
      have hlt : ∀ x ∈ Lib.compactUpTo zs.toArray m, x < zs.toArray[m]! := by
        intro x hx
        by_cases h0 : m = 0
        · subst h0
          simp [Lib.compactUpTo] at hx
        · have hne : zs.toArray[m]! ≠ zs.toArray[m - 1]! := by
            unfold Lib.keeps at hk
            simp only [decide_eq_true_eq] at hk
            rcases hk with hk | hk
            · exact absurd hk h0
            · exact hk
          have hle : zs.toArray[m - 1]! ≤ zs.toArray[m]! := by
            rw [hd (m - 1) (by omega), hd m (by omega)]
            exact List.pairwise_iff_getElem.1 hs (m - 1) m (by omega) (by omega) (by omega)
          exact lt_of_le_lt (h3 x hx) (lt_of_le_ne hle (fun e => hne e.symm))
      refine ⟨List.pairwise_append.2 ⟨h1, List.pairwise_singleton _ _, fun a ha b hb => by
        rw [List.mem_singleton.1 hb]; exact hlt a ha⟩, fun x => ?_, fun x hx => ?_⟩
      · rw [List.mem_append, h2, List.mem_singleton]
        constructor
        · rintro (⟨j, hj, e⟩ | e)
          · exact ⟨j, by omega, e⟩
          · exact ⟨m, by omega, e.symm⟩
        · rintro ⟨j, hj, e⟩
          by_cases hjm : j = m
          · subst hjm; exact Or.inr e.symm
          · exact Or.inl ⟨j, by omega, e⟩
      · rw [Nat.add_sub_cancel]
        rcases List.mem_append.1 hx with hx | hx
        · intro hc
          exact List.lt_irrefl _ (lt_of_le_lt (List.le_of_lt (hlt x hx)) hc)
        · rw [List.mem_singleton.1 hx]
          exact List.le_refl _
    · rw [if_neg hk, List.append_nil]
      have h0 : ¬ m = 0 := fun h => hk (by unfold Lib.keeps; simp [h])
      have he : zs.toArray[m]! = zs.toArray[m - 1]! := by
        unfold Lib.keeps at hk
        simp only [decide_eq_true_eq] at hk
        exact Classical.not_not.1 (fun h => hk (Or.inr h))
      refine ⟨h1, fun x => ?_, fun x hx => by rw [Nat.add_sub_cancel, he]; exact h3 x hx⟩
      rw [h2]
      constructor
      · rintro ⟨j, hj, e⟩
        exact ⟨j, by omega, e⟩
      · rintro ⟨j, hj, e⟩
        by_cases hjm : j = m
        · subst hjm; exact ⟨j - 1, by omega, by rw [← he]; exact e⟩
        · exact ⟨j, by omega, e⟩
theorem compact_sorted {ss : List (List UInt8)} : (Asc ((Lib.compact (ss.mergeSort leB)).map toB)) ∧ (∀ s, s ∈ (Lib.compact (ss.mergeSort leB)).map toB ↔ s.data.toList ∈ ss) := by
  have tr : ∀ a b c : List UInt8, leB a b = true → leB b c = true → leB a c = true := fun a b c h1 h2 => by simp only [leB, decide_eq_true_eq] at *; exact List.le_trans h1 h2
  have tot : ∀ a b : List UInt8, (leB a b || leB b a) = true := fun a b => by simp only [leB, Bool.or_eq_true, decide_eq_true_eq]; exact List.le_total a b
  have h1 : (ss.mergeSort leB).Pairwise (fun a b => a ≤ b) := (List.pairwise_mergeSort tr tot ss).imp fun {a b} h => by simpa [leB] using h
  have hm : ∀ x, x ∈ ss.mergeSort leB ↔ x ∈ ss := fun x => (List.mergeSort_perm ss leB).mem_iff
  generalize ss.mergeSort leB = zs at h1 hm
  obtain ⟨c1, c2, -⟩ := compact_up h1 zs.length (Nat.le_refl _)
  refine ⟨?_, fun s => ?_⟩
  · unfold Asc
    refine List.pairwise_map.2 (c1.imp fun {a b} h => ?_)
    rw [ByteArray.toList_eq, ByteArray.toList_eq, toB_list, toB_list, less_iff]
    exact h
  · rw [List.mem_map, ← hm]
    have hmem : ∀ x, x ∈ Lib.compact zs ↔ x ∈ zs := by
      intro x
      show x ∈ Lib.compactUpTo zs.toArray zs.length ↔ _
      rw [c2, List.mem_iff_getElem]
      constructor
      · rintro ⟨j, hj, e⟩
        refine ⟨j, hj, ?_⟩
        rw [← e, getElem!_pos zs.toArray j (by simpa using hj)]
        simp
      · rintro ⟨j, hj, e⟩
        refine ⟨j, hj, ?_⟩
        rw [← e, getElem!_pos zs.toArray j (by simpa using hj)]
        simp
    constructor
    · rintro ⟨x, hx, rfl⟩
      rw [toB_list]
      exact (hmem x).1 hx
    · intro h
      exact ⟨_, (hmem _).2 h, toB_data s⟩
theorem heap_put {w : World} {g n : Nat} {cur : Array Value} {e : TypeId} {fr : Nat × Nat} (d : Array (List UInt8)) (hb : w.heap[g]? = some (.cells cur e fr)) :
    (putRow encStr (Sort.ahead w n) g 0 d).heap[g]? = some (.cells (putCells encStr 0 d cur) e fr) := by
  simp [putRow, mapBlock, Sort.ahead, Array.getElem?_modify, hb, onCells]
theorem grownBy_put {w : World} {g n : Nat} (d : Array (List UInt8)) : w.grownBy (putRow encStr (Sort.ahead w n) g 0 d) (some g) := by
  refine ⟨rfl, rfl, rfl, by simp [putRow, mapBlock, Sort.ahead], fun k hk hne => ?_⟩
  have : g ≠ k := fun e => hne (by rw [e])
  simp [putRow, mapBlock, Sort.ahead, Array.getElem?_modify, this]
/-! ### classes -/
def classM (f : ByteArray → Option S40) (s : ByteArray) (x : ByteArray) : Prop := x = s ∨ ((∃ k a, f k = some a ∧ (x = a.f0 ∨ x = a.f1)) ∧ ∃ r, Leads f s r ∧ Leads f x r)
def pick2 (n o : ByteArray) (j : Nat) : ByteArray := if j = 0 then n else o
theorem two_cells (n o : ByteArray) (j : Nat) (h : j < 2) : (#[Value.string n, Value.string o] : Array Value)[j]? = some (.string (pick2 n o j)) := by
  rcases j with _ | _ | j
  · rfl
  · rfl
  · omega
theorem R_one {w : World} {g base : Nat} {s : ByteArray} {ok : Nat → Prop} (hg : w.heap[g]? = some (.cells #[.string s] 9 (0, 0))) (hb : base ≤ g) (hok : ok g) : Kd.R Kd.string 9 w base ok (.slice (some ⟨g, 0, none⟩) 1 1) [s] :=
  ownS_R (fun k hk => by cases hk; exact hok) ⟨rfl, .inr ⟨g, 1, #[.string s], rfl, hb, hg, Nat.le_refl _, by unfold maxLen; omega, rfl, rfl⟩⟩
set_option maxHeartbeats 4000000 in
set_option maxRecDepth 100000 in
theorem class43_ok (A : Option Addr) (c : Nat) (l : List S40) (s : ByteArray) (t : Int) (w : World) (hr : Kd.C k40 w A l.length l) (hS : Sound40 l) (hl : l.length ≤ 1000) (hs : s.size ≤ 1000) :
    Calls Tryd.prog 43 #[.slice A l.length c, .string s, .int .i64 t] w fun e w' => (∃ A' c' R, e = .returned (.slice A' R.length c') ∧ Kd.C Kd.string w' A' R.length R ∧ R.length ≤ 1000000 ∧ Asc R ∧ ∀ x, x ∈ R ↔ classM (presT l t) s x) ∧ Below w.heap.size w w' := by
  have cp := Lib.hid (present_ok A c l t w hr (by omega) (fun a ha => Nat.le_trans (right_sizes (valid_mem hS.1 a ha)).1 (by decide)))
  have hmem := fun k a (h : presT l t k = some a) => presT_mem l t k a h
  have hsz := fun k a (h : presT l t k = some a) => right_sizes (valid_mem hS.1 a (hmem k a h).1)
  have hlead := hS.2 t
  obtain ⟨goal, hgoal⟩ := hlead s
  have cf := Lib.hid (fun x b w' (hD : Dict enc40 Tryd.prog 9 w' b l.length (presT l t)) (hx : x.size ≤ 1000000) => follow_ok2 b l.length (presT l t) x w' (l.map (·.f0)) hD (fun k hk => by
    cases hp : presT l t k with
    | none => exact absurd hp hk
    | some a => exact List.mem_map.2 ⟨a, (hmem k a hp).1, (hmem k a hp).2.1⟩) (by rw [List.length_map]; omega) hx (fun k a ha => Nat.le_trans (hsz k a ha).2 (by decide)))
  have hkey := fun k a (h : presT l t k = some a) => (hmem k a h).2.1
  replace hr := Lib.hid hr
  replace hlead := Lib.hid hlead
  replace hgoal := Lib.hid hgoal
  replace hsz := Lib.hid hsz
  replace hkey := Lib.hid hkey
  clear hmem hS
  generalize hf : presT l t = f at cp cf hlead hgoal hsz hkey
  replace hf := Lib.hid hf
  go_enter Tryd.func43, Tryd.ntmps43
  go_wp2_with fail
  refine cp.out.mono ?_
  rintro e w1 ⟨b, rfl, hb, hD, hb1⟩
  clear cp
  go_wp2_with fail
  refine (cf.out s b w1 hD (by omega)).mono ?_
  rintro e w2 ⟨⟨r1, k1, rfl, hk1⟩, hb2⟩
  have hb2' := hb1.trans (hb2.mono hb1.size)
  have hD2 := hD.below hb2
  have hk1' : k1 = true ∧ Leads f s r1 := by
    rcases hk1 with h | ⟨_, h⟩
    · exact h
    · exact absurd ⟨_, hgoal.out⟩ h
  obtain ⟨rfl, hl1⟩ := hk1'
  clear hk1
  obtain rfl : goal = r1 := leads_det hgoal.out hl1
  clear hD hl1
  have hba : Below w2.heap.size w2 (w2.alloc (Obj.cells #[Value.string s] 9)) := (Below.refl _ _).alloc (Nat.le_refl _) _
  have hka := heap_alloc_new w2 (Obj.cells #[Value.string s] 9)
  have hDa := hD2.below hba
  obtain ⟨D, hown, hm, hfun⟩ := hDa
  have hfun' := Lib.hid hfun
  have hbl := hD2.lt
  have hszD := hown.size_le
  replace hD2 := Lib.hid hD2
  clear hm hfun
  go_wp2_with (at_range; refine wpList_range_own _ rfl _ 85 rfl 9 40 kstr Tryd.underlying85 (encR enc40) b l.length D rfl hown ?_; intro w3 hrg3 hg3 hs3)
  go_frame
  have hb3 : Below w2.heap.size w2 w3 := hba.grown hg3 hba.size (fun j hj => by cases hj)
  have hka3 := hg3.block _ (Array.getElem?_eq_some_iff.1 hka).1 (by simp)
  rw [hka] at hka3
  rw [World.size_alloc] at hrg3
  rw [World.size_alloc]
  obtain ⟨B, hB⟩ : ∃ B, B = w2.heap.size := ⟨_, rfl⟩
  rw [← hB] at hrg3 hka3
  rw [← hB]
  have hBb : w2.heap.size ≤ B := Nat.le_of_eq hB.symm
  have hbB : b < B := by omega
  have hR3 := R_one (base := B) (ok := fun k => k ≠ B + 1) hka3 (Nat.le_refl _) (by omega)
  have hrl := hrg3.lt
  replace hB := Lib.hid hB
  clear hka hka3 hba hown hg3 hs3
  go_loopw [10] (fun v10 wr => ∃ (left : Lit → Bool) (cnt : Nat) (ss : List ByteArray), wr.ranges Tryd.prog 9 (encR enc40) b (B + 1) l.length D left cnt ∧ ss.length + 2 * cnt ≤ 1 + 2 * Maps.size D ∧ Kd.R Kd.string 9 wr B (fun k => k ≠ B + 1) v10 ss ∧ Aside (∀ x, x ∈ ss ↔ x = s ∨ ∃ k a, f k = some a ∧ left (.string k.data.toList) = false ∧ (x = a.f0 ∨ x = a.f1) ∧ Leads f x goal) ∧ Below w2.heap.size w2 wr) (fun _ wr => wr.rangeLeft b (B + 1))
  case atStart =>
    refine ⟨_, _, [s], hrg3, by simp, hR3, ?_, hb3⟩
    intro x
    rw [List.mem_singleton]
    constructor
    · exact Or.inl
    · rintro (h | ⟨k, a, h1, h2, _⟩)
      · exact h
      · rw [(hfun'.out k).1, h1] at h2
        cases h2
  case round =>
    obtain ⟨left, cnt, ss, hrg, hcs, hR, hM, hbr⟩ := hrel
    obtain ⟨wo, rfl⟩ : ∃ wo : World, wo = wr := ⟨_, rfl⟩
    go_wp2_with (at_next; refine wpList_next_ranges _ rfl _ rfl 9 kstr (encR enc40) encStr (fun c : S40 => Value.agg #[.string c.f0, .string c.f1, .int .i64 c.f2, .bool c.f3]) (fun key kl hk => by obtain ⟨x, hx, _⟩ := Maps.keyOf_str Tryd.underlying9 hk; exact ⟨x, hx⟩) (fun v y hv => by obtain ⟨d, ps⟩ := y; obtain ⟨c, hc, _⟩ := encR_inv enc40 hv; exact ⟨c, hc⟩) b (B + 1) l.length D left cnt rfl hrg ?_ ?_)
    · intro hc0 hl0
      have hM2 : ∀ x, x ∈ ss ↔ classM f s x := by
        intro x
        rw [hM.out x]
        unfold classM
        constructor
        · rintro (h | ⟨k, a, h1, _, h2, h3⟩)
          · exact Or.inl h
          · exact Or.inr ⟨⟨k, a, h1, h2⟩, goal, hgoal.out, h3⟩
        · rintro (h | ⟨⟨k, a, h1, h2⟩, r, h3, h4⟩)
          · exact Or.inl h
          · obtain rfl := leads_det hgoal.out h3
            exact Or.inr ⟨k, a, h1, hl0 _, h2, h4⟩
      have hne : ss ≠ [] := fun h => by
        have := (hM2 s).2 (Or.inl rfl)
        rw [h] at this
        cases this
      obtain ⟨zs, rfl⟩ : ∃ zs : List (List UInt8), zs.map toB = ss := ⟨ss.map (·.data.toList), by rw [List.map_map]; exact (List.map_congr_left (fun x _ => toB_data x)).trans (List.map_id _)⟩
      have hzl : zs.length ≤ 100000 := by rw [List.length_map] at hcs; omega
      have hzm : ∀ x : ByteArray, x.data.toList ∈ zs ↔ classM f s x := by
        intro x
        rw [← hM2 x, List.mem_map]
        constructor
        · intro h
          exact ⟨_, h, toB_data x⟩
        · rintro ⟨y, hy, rfl⟩
          rw [toB_list]
          exact hy
      obtain ⟨h0, h1, h2⟩ := R_ownS hR
      rcases h2 with ⟨hA, hB'⟩ | ⟨g, cap, cur, rfl, hg, hbk, hc, hmx, hz, ht⟩
      · exfalso
        apply hne
        rcases zs with _ | ⟨y, zs⟩
        · rfl
        · simp_all
      · rw [List.length_map] at hc
        have hcz : cur.size = cap := by simpa using hz
        have hH : Holds encStr wo g 0 zs.toArray := holds_of_block hbk (by rw [← enc_map, ← ht, List.length_map, Nat.mul_one])
        have hcall := Lib.hid (Tryd.slices_Sort_string g 0 cap zs wo hH (blk_lt hbk) (by omega))
        obtain ⟨ca1, ca2⟩ := @compact_sorted zs
        have hcl := Lib.compact_length_le (zs.mergeSort leB)
        rw [List.length_mergeSort] at hcl
        replace hM := Lib.hid hM
        replace hM2 := Lib.hid hM2
        replace hzm := Lib.hid hzm
        replace ca1 := Lib.hid ca1
        replace ca2 := Lib.hid ca2
        have hms := List.length_mergeSort (le := leB) zs
        clear h0 h1 hR hH hz ht hl0 hne hcs hM hM2
        go_wp2_with fail
        refine hcall.out.mono ?_
        rintro e w6 ⟨rfl, nn, os, hw6⟩
        have hb6 : w6.heap[g]? = some (.cells (putCells encStr 0 (zs.mergeSort leB).toArray cur) 9 (0, 0)) := by rw [hw6]; exact heap_sorted _ hbk
        have hbw6 : RowKit.Below w2.heap.size w2 w6 := by rw [hw6]; exact hbr.grown (grownBy_sorted _) hbr.size (fun j hj => by cases hj; omega)
        have hH6 : Holds encStr w6 g 0 (zs.mergeSort leB).toArray := holds_of_block hb6 (take_putCells cur _ (by rw [hms]; omega))
        have hcmp := Tryd.slices_Compact_string g 0 cap (zs.mergeSort leB) w6 hH6 (by omega) (by omega)
        rw [hms] at hcmp
        replace hcmp := Lib.hid hcmp
        replace hms := Lib.hid hms
        clear hw6 hH6 hcall hbk
        generalize hzz : zs.mergeSort leB = z2 at hb6 hcmp hcl ca1 ca2 hms
        go_wp2_with fail
        refine hcmp.out.mono ?_
        rintro e w7 ⟨rfl, qq, hw7⟩
        have hts : (Lib.compact z2 ++ List.replicate (zs.length - (Lib.compact z2).length) []).length = zs.length := by rw [List.length_append, List.length_replicate]; omega
        have hb7 : w7.heap[g]? = some (.cells (putCells encStr 0 (Lib.compact z2 ++ List.replicate (zs.length - (Lib.compact z2).length) []).toArray (putCells encStr 0 z2.toArray cur)) 9 (0, 0)) := by rw [hw7]; exact heap_put _ hb6
        have hbw7 : RowKit.Below w2.heap.size w2 w7 := by rw [hw7]; exact hbw6.grown (grownBy_put _) hbw6.size (fun j hj => by cases hj; omega)
        have hsz7 : (putCells encStr 0 (Lib.compact z2 ++ List.replicate (zs.length - (Lib.compact z2).length) []).toArray (putCells encStr 0 z2.toArray cur)).size = cap := by simp [putCells, hcz]
        have htk := take_putCells (putCells encStr 0 z2.toArray cur) (Lib.compact z2 ++ List.replicate (zs.length - (Lib.compact z2).length) []) (by rw [hts]; simp [putCells]; omega)
        generalize putCells encStr 0 (Lib.compact z2 ++ List.replicate (zs.length - (Lib.compact z2).length) []).toArray (putCells encStr 0 z2.toArray cur) = cur7 at hb7 hsz7 htk
        have hR7 : Kd.R Kd.string 9 w7 w2.heap.size (fun _ => True) (.slice (some ⟨g, 0, none⟩) (Lib.compact z2).length cap) ((Lib.compact z2).map toB) := ownS_R (fun _ _ => trivial) (by
          rw [enc_map, List.length_map]
          refine ⟨by simp, .inr ⟨g, cap, cur7, rfl, by omega, hb7, by omega, hmx, by omega, ?_⟩⟩
          have := congrArg (List.take (Lib.compact z2).length) htk
          rw [List.take_take, Nat.min_eq_left (by rw [hts]; exact hcl), List.map_append, List.take_left' (by simp)] at this
          rw [Nat.mul_one]
          exact this)
        obtain ⟨A', c', hv, _, hC'⟩ := Kd.R_reads hR7
        replace hv := Lib.hid hv
        clear hw7 hR7
        go_wp2_with fail
        go_ret
        have hf' := hf.out
        subst hf'
        refine ⟨⟨A', c', (Lib.compact z2).map toB, congrArg Ending.returned hv.out, hC', by rw [List.length_map]; omega, ca1.out, fun x => ?_⟩, hb2'.trans (hbw7.mono hb2'.size)⟩
        rw [ca2.out, hzm.out]
    · intro x c kl yd yp w5 cnt2 hkey2 hlk hv hat hrg5 hlt hg5 hs5 hen
      obtain ⟨x', ex, rfl, _⟩ := Maps.keyOf_str Tryd.underlying9 hkey2
      obtain rfl : x = x' := encStr_inj ex
      obtain ⟨n', o', ti', g'⟩ := c
      have hcf : f (toB x) = some ⟨n', o', ti', g'⟩ := by
        have hyd : yd = DataW.held (⟨n', o', ti', g'⟩ : S40) := by
          have h1 := encR_enc enc40 enc40_inj ⟨n', o', ti', g'⟩
          have h2 : encR enc40 (enc40 ⟨n', o', ti', g'⟩) = some (yd, yp) := hv
          rw [h1] at h2
          cases h2
          rfl
        have hhas := has_true_of_atKey hat
        have hft := hfun'.out (toB x)
        rw [toB_list] at hft
        rw [hft.1] at hhas
        cases hfx : f (toB x) with
        | none => rw [hfx] at hhas; cases hhas
        | some c' =>
          have h3 := hft.2 c' hfx (.map [])
          rw [hat] at h3
          have h4 : yd = DataW.held c' := h3
          rw [hyd] at h4
          cases h4
          rfl
      have hR5 := Kd.R_keep hR (keep_grown hg5) (fun k hk => hk)
      have hb5 := hbr.grown hg5 hbr.size (fun j hj => by cases hj; omega)
      have hown5 := R_ownS hR5
      have hRs : Kd.R Kd.string 9 w5 B (fun k => k ≠ B + 1 ∧ k ≠ w5.heap.size + 1) u10 ss := ownS_R (fun k hk => ⟨hown5.1 k hk, by have := own_lt hown5.2 k hk; omega⟩) hown5.2
      have hlefts := Lib.hid hrg.left_eq
      have hz0 := (hsz.out _ _ hcf).1
      have hz1 := (hsz.out _ _ hcf).2
      simp only at hz0 hz1
      have hrl5 := hrg5.lt
      have hbx : RowKit.Below w5.heap.size w5 ((w5.alloc (Obj.cells #[Value.string n', Value.string o', Value.int IntKind.i64 ti', Value.bool g'] 40)).alloc (Obj.cells #[Value.string n', Value.string o'] 9)) := ((Below.refl _ _).alloc (Nat.le_refl _) _).alloc (by rw [World.size_alloc]; omega) _
      have hks := heap_alloc_new (w5.alloc (Obj.cells #[Value.string n', Value.string o', Value.int IntKind.i64 ti', Value.bool g'] 40)) (Obj.cells #[Value.string n', Value.string o'] 9)
      rw [World.size_alloc] at hks
      have hR6 := Kd.R_below hRs hbx
      have hrg6 := (hrg5.alloc (Obj.cells #[Value.string n', Value.string o', Value.int IntKind.i64 ti', Value.bool g'] 40)).alloc (Obj.cells #[Value.string n', Value.string o'] 9)
      have hb6 := hb5.trans (hbx.mono hb5.size)
      replace hM := Lib.hid hM
      replace hcf := Lib.hid hcf
      replace hlt := Lib.hid hlt
      clear hs5 hR hown5 hRs hlk hat hkey2 hv ex hg5 hrg hR5 hb5 hrg5 hbr hbx
      go_wp2_with fail
      generalize (w5.alloc (Obj.cells #[Value.string n', Value.string o', Value.int IntKind.i64 ti', Value.bool g'] 40)).alloc (Obj.cells #[Value.string n', Value.string o'] 9) = w6 at hks hR6 hrg6 hb6 ⊢
      generalize hS1 : w5.heap.size + 1 = S at hks hR6 ⊢
      have hS0 : B + 1 < S := by omega
      clear hS1 hrl5
      go_loopw [10, 44] (fun v10 v44 wr => ∃ (j : Nat) (ss2 : List ByteArray), j ≤ 2 ∧ v44 = .int .i64 j ∧ wr.ranges Tryd.prog 9 (encR enc40) b (B + 1) l.length D (fun z => left z && !z.sameKey (.string x)) cnt2 ∧ ss2.length ≤ ss.length + j ∧ Kd.R Kd.string 9 wr B (fun k => k ≠ B + 1 ∧ k ≠ S) v10 ss2 ∧ Aside (∀ y, y ∈ ss2 ↔ y ∈ ss ∨ ∃ i, i < j ∧ y = pick2 n' o' i ∧ Leads f y goal) ∧ wr.heap[S]? = some (.cells #[.string n', .string o'] 9 (0, 0)) ∧ RowKit.Below w2.heap.size w2 wr) (fun _ v44 _ => 2 - (intOf v44).toNat)
      case atStart =>
        refine ⟨0, ss, by omega, rfl, hrg6, by omega, hR6, ?_, hks, hb6⟩
        intro y
        constructor
        · exact Or.inl
        · rintro (h | ⟨i, hi, _⟩)
          · exact h
          · omega
      case round =>
        obtain ⟨j, ss2, hj, rfl, hrg7, hsl, hR7, hM7, hks7, hb7⟩ := hrel
        by_cases hj2 : j < 2
        · have e0 : decide ((j : Int) < 2) = true := decide_eq_true (by omega)
          have hj2' : (j : Int) < 2 := by omega
          have q0 : wr.cell? ⟨S, j, none⟩ = some (.string (pick2 n' o' j)) := (cell_row hks7 j).trans (two_cells n' o' j hj2)
          have hpz : (pick2 n' o' j).size ≤ 256 := by unfold pick2; split <;> assumption
          have c1 := Lib.hid (cf.out (pick2 n' o' j) b wr (hD2.out.below hb7) (by omega))
          have hld := hlead.out (pick2 n' o' j)
          generalize hpk : pick2 n' o' j = y at q0 hpz c1 hld
          replace hpk := Lib.hid hpk
          replace hld := Lib.hid hld
          replace hM7 := Lib.hid hM7
          go_wp2_with fail
          refine c1.out.mono ?_
          rintro e w8 ⟨⟨r2, k2, rfl, hk2⟩, hb8⟩
          have hk2' : k2 = true ∧ Leads f y r2 := by
            rcases hk2 with h | ⟨_, h⟩
            · exact h
            · exact absurd hld.out h
          obtain ⟨rfl, hl2⟩ := hk2'
          have hks8 := blk_below hks7 hb8
          have hR8 := Kd.R_below hR7 hb8
          have hrg8 := hrg7.kept (row := none) (grown_below hb8) (by simp) (by simp)
          have hb8' := hb7.trans (hb8.mono hb7.size)
          clear hk2 c1 q0 hrg7 hR7 hks7
          replace hl2 := Lib.hid hl2
          by_cases hgo : r2.toList = goal.toList
          · have hgo2 : (r2.toList == goal.toList) = true := by simpa using hgo
            have hl2' : Leads f y goal := by
              have h5 : r2 = goal := by
                rw [ByteArray.toList_eq, ByteArray.toList_eq] at hgo
                exact ByteArray.ext (Array.toList_inj.1 hgo)
              rw [← h5]
              exact hl2.out
            replace hl2' := Lib.hid hl2'
            have hown8 := R_ownS hR8
            have hbne : some b ≠ u10.ownBlock := fun e => by have := own_base hown8.2 b e.symm; omega
            have hrne : some (B + 1) ≠ u10.ownBlock := fun e => (hown8.1 _ e.symm).1 rfl
            have hSne : some S ≠ u10.ownBlock := fun e => (hown8.1 _ e.symm).2 rfl
            have hfresh : ∀ k, w8.heap.size ≤ k → k ≠ B + 1 ∧ k ≠ S := fun k hk => by have h6 := hrg8.lt; have h7 := blk_lt hks8; omega
            have hln : (ss2.length + 1) * 16 ≤ 140737488355328 := by omega
            have hB8 : B ≤ w8.heap.size := by have := hrg8.lt; omega
            clear hown8 hgo
            have hbB : RowKit.Below B w2 w8 := by rw [hB.out]; exact hb8'
            go_wp2_with (at_builtin; refine Kd.R_append Kd.string B rfl _ _ 27 9 _ 16 rfl Tryd.underlying27 info9 rfl (by decide) (by decide) u10 ss2 y _ (fun k => k ≠ B + 1 ∧ k ≠ S) (fun _ => False) (by rfl) (by rfl) rfl (fun k h => h.elim) hfresh hR8 hbB hB8 hln ?_; intro v9 w9 hR9 hb9 hg9 hat9)
            have hrg9 := hrg8.kept hg9 hbne hrne
            have hks9 := (hg9.block S (blk_lt hks8) hSne).trans hks8
            go_roundw
            case rel =>
              refine ⟨j + 1, ss2 ++ [y], by omega, by go_num, hrg9, by rw [List.length_append, List.length_singleton]; omega, hR9, ?_, hks9, by rw [hB.out] at hb9; exact hb9⟩
              intro v
              rw [List.mem_append, List.mem_singleton, hM7.out.out v]
              constructor
              · rintro ((h | ⟨i, hi, h1, h2⟩) | h)
                · exact Or.inl h
                · exact Or.inr ⟨i, by omega, h1, h2⟩
                · subst h
                  exact Or.inr ⟨j, by omega, hpk.out.symm, hl2'.out⟩
              · rintro (h | ⟨i, hi, h1, h2⟩)
                · exact Or.inl (Or.inl h)
                · by_cases hij : i = j
                  · subst hij
                    rw [hpk.out] at h1
                    exact Or.inr h1
                  · exact Or.inl (Or.inr ⟨i, by omega, h1, h2⟩)
            case measure => simp [intOf]; omega
          · have hgo1 : (r2.toList = goal.toList) = False := eq_false hgo
            have hgo2 : (r2.toList == goal.toList) = false := by simpa using hgo
            have hnl : ¬ Leads f y goal := fun h => hgo (by rw [leads_det hl2.out h])
            replace hnl := Lib.hid hnl
            clear hgo
            go_wp2_with fail
            go_roundw
            case rel =>
              refine ⟨j + 1, ss2, by omega, by go_num, hrg8, by omega, hR8, ?_, hks8, hb8'⟩
              intro v
              rw [hM7.out.out v]
              constructor
              · rintro (h | ⟨i, hi, h1, h2⟩)
                · exact Or.inl h
                · exact Or.inr ⟨i, by omega, h1, h2⟩
              · rintro (h | ⟨i, hi, h1, h2⟩)
                · exact Or.inl h
                · by_cases hij : i = j
                  · subst hij
                    rw [hpk.out] at h1
                    subst h1
                    exact absurd h2 hnl.out
                  · exact Or.inr ⟨i, by omega, h1, h2⟩
            case measure => simp [intOf]; omega
        · have e0 : decide ((j : Int) < 2) = false := decide_eq_false (by omega)
          obtain rfl : j = 2 := by omega
          have hlt' := hlt.out
          have hown7 := R_ownS hR7
          replace hM7 := Lib.hid hM7
          go_wp2_with fail
          go_roundw
          case rel =>
            refine ⟨_, cnt2, ss2, hrg7, by omega, ownS_R (fun k hk => (hown7.1 k hk).1) hown7.2, ?_, hb7⟩
            intro v
            rw [hM7.out.out v, hM.out.out v]
            constructor
            · rintro ((h | ⟨k, a, h1, h2, h3⟩) | ⟨i, hi, h1, h2⟩)
              · exact Or.inl h
              · exact Or.inr ⟨k, a, h1, by rw [h2]; rfl, h3⟩
              · refine Or.inr ⟨toB x, _, hcf.out, by rw [toB_list]; simp [Lit.sameKey], ?_, h2⟩
                rw [h1]
                unfold pick2
                split
                · exact Or.inl rfl
                · exact Or.inr rfl
            · rintro (h | ⟨k, a, h1, h2, h3, h4⟩)
              · exact Or.inl (Or.inl h)
              · by_cases hk : left (.string k.data.toList) = false
                · exact Or.inl (Or.inr ⟨k, a, h1, hk, h3, h4⟩)
                · have hkx : k.data.toList = x := by
                    simp only [Bool.and_eq_false_iff, Bool.not_eq_false'] at h2
                    rcases h2 with h2 | h2
                    · exact absurd h2 hk
                    · simpa [Lit.sameKey] using h2
                  have hk2 : toB x = k := by rw [← hkx]; exact toB_data k
                  have h5 := hcf.out
                  rw [hk2, h1] at h5
                  cases h5
                  rcases h3 with h3 | h3
                  · exact Or.inr ⟨0, by omega, h3, h4⟩
                  · exact Or.inr ⟨1, by omega, h3, h4⟩
          case measure => rw [hrg7.left_eq, hlefts.out]; exact hlt'
#print axioms class43_ok
end Go.Proofs.YtpejnnnkamodbaaDoor
