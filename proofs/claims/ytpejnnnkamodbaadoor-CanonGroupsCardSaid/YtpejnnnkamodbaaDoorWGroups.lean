/- The package canon: Groups. -/
import Derived.Test.YtpejnnnkamodbaaDoorWNest
namespace Go.Proofs.YtpejnnnkamodbaaDoor
open Go Go.RowKit Go.Maps Go.WideMaps Go.Lib Go.Proofs.YtpejnnnkamodbaaDoorW.PrintWords Go.Proofs.YtpejnnnkamodbaaDoorW.PrintLast
open PCanonEqual (S49 k49 z49 S40 k40 z40)

def encI (k : Int) : Value := .int .i64 k
theorem encI_inj (a b : Int) (h : encI a = encI b) : a = b := by simpa [encI] using h
theorem info30 : (Tryd.prog.info? 30).map (fun i => (i.zero, i.size, i.bytes)) = some (some (.slice none 0 0), 1, 24) := by kernel_rfl
theorem info3 : (Tryd.prog.info? 3).map (fun i => (i.zero, i.size, i.bytes)) = some (some (.int .i64 0), 1, 8) := by kernel_rfl
theorem ends_size {rs : List S49} {l : List S40} {t : Int} {s r : ByteArray} {e : Int} (h : Ends (nextF rs l t) s r e) : r.size ≤ 512 := by
  induction h with
  | fix h =>
    obtain ⟨s0, h0⟩ := next_begun h
    have := @begin_size rs s0
    rw [h0] at this
    exact this
  | err _ _ => exact Nat.zero_le _
  | step _ _ _ ih => exact ih
theorem name_size2 (rs : List S49) (l : List S40) (s : ByteArray) (t : Int) : (nameF rs l s t).1.size ≤ 512 := by
  unfold nameF
  split
  · split
    · rcases end_cases (nextF rs l t) (beginT rs s).1 with h | ⟨_, h⟩
      · exact ends_size h
      · rw [h]; exact Nat.zero_le _
    · exact Nat.zero_le _
  · exact Nat.zero_le _
/-- The canonical names of a list of texts. -/
noncomputable def nmF (rs : List S49) (al : List S40) (t : Int) (L : List ByteArray) (i : Nat) : ByteArray × Int := nameF rs al (L.getD i ByteArray.empty) t
theorem grp_le {nm : Nat → ByteArray × Int} {n : Nat} {gs : List (List Nat)} (h : GP nm n gs) (k : Nat) (hk : k < gs.length) : (grp gs k).length ≤ n := by
  have h1 : (grp gs k).Nodup := (h.asc k hk).imp fun {a b} h e => by omega
  have h2 : ∀ i ∈ grp gs k, i ∈ List.range n := fun i hi => List.mem_range.2 (h.lt k hk i hi).1
  generalize grp gs k = g at h1 h2
  have : ∀ (vs L : List Nat), vs.Nodup → (∀ v ∈ vs, v ∈ L) → vs.length ≤ L.length := by
    intro vs
    induction vs with
    | nil => intro L _ _; exact Nat.zero_le _
    | cons v vs ih =>
      intro L hn hs
      obtain ⟨L1, L2, rfl⟩ := List.append_of_mem (hs v List.mem_cons_self)
      rw [List.nodup_cons] at hn
      have := ih (L1 ++ L2) hn.2 (fun u hu => by
        have h1 := hs u (List.mem_cons_of_mem _ hu)
        simp only [List.mem_append, List.mem_cons] at h1 ⊢
        rcases h1 with h1 | h1 | h1
        · exact Or.inl h1
        · subst h1; exact absurd hu hn.1
        · exact Or.inr h1)
      simp at this ⊢
      omega
  have := this g (List.range n) h1 h2
  simpa using this
theorem gs_le {nm : Nat → ByteArray × Int} {n : Nat} {gs : List (List Nat)} (h : GP nm n gs) : gs.length ≤ n := by
  have hh : ∀ k, k < gs.length → k ≤ (grp gs k).headD 0 := by
    intro k
    induction k with
    | zero => intro _; exact Nat.zero_le _
    | succ k ih =>
      intro hk
      have h1 := ih (by omega)
      have h2 := h.heads k hk
      omega
  by_cases h0 : gs.length = 0
  · omega
  · have h1 := hh (gs.length - 1) (by omega)
    have h2 : (grp gs (gs.length - 1)).headD 0 < n := by
      have hlt : gs.length - 1 < gs.length := by omega
      cases hg : grp gs (gs.length - 1) with
      | nil => exact absurd hg (h.ne _ hlt)
      | cons a t =>
        have hm : a ∈ grp gs (gs.length - 1) := by rw [hg]; simp
        exact (h.lt _ hlt a hm).1
    omega
set_option maxHeartbeats 8000000 in
set_option maxRecDepth 100000 in
theorem groups_ok (nv : Value) (rs : List S49) (al : List S40) (AL : Option Addr) (cL : Nat) (L : List ByteArray) (t : Int) (w : World) (hT : Tabs w) (hn : NamesAt w nv rs al) (hL : Kd.C Kd.string w AL L.length L) (hLl : L.length ≤ 1000) :
    Calls Tryd.prog 39 #[nv, .slice AL L.length cL, .int .i64 t] w fun e w' => (∃ v vs gs, e = .returned v ∧ Nest w' (w.heap.size + 2) v vs gs ∧ GP (nmF rs al t L) L.length gs) ∧ Below w.heap.size w w' := by
  have hmm := @run_makeMap Tryd.prog
  obtain ⟨i30, hi30, hz30, hs30, hb30⟩ := info_parts info30
  obtain ⟨i3, hi3, hz3, hs3, hb3_⟩ := info_parts info3
  have hN := hn
  obtain ⟨A1, c1, A2, c2, rfl, hC1, hC2⟩ := hn.out
  have hbA : Below w.heap.size w (w.alloc (Obj.cells #[.slice A1 rs.length c1, .slice A2 al.length c2] 55)) := (Below.refl _ _).alloc (Nat.le_refl _) _
  have hkA := heap_alloc_new w (Obj.cells #[.slice A1 rs.length c1, .slice A2 al.length c2] 55)
  have cn := Lib.hid (fun i w1 (hb : Below w.heap.size w w1) => name_fn _ rs al (L.getD i ByteArray.empty) t w1 (hT.below hb hT.six) (hN.below hb))
  generalize hnm : nmF rs al t L = nm
  have hnmi := Lib.hid (fun i => congrFun hnm i)
  replace hL := Lib.hid hL
  clear hC1 hC2 hn hN hnm
  go_enter Tryd.func39, Tryd.ntmps39
  go_wp2_with fail
  clear hmm
  have hbm : Below w.heap.size w ((w.alloc (Obj.cells #[.slice A1 rs.length c1, .slice A2 al.length c2] 55)).alloc (.map #[] 0)) := hbA.alloc hbA.size _
  have hkm := blk_alloc hkA (.map #[] 0)
  have hDm := Dict.made (α := Int) (enc := encI) (P := Tryd.prog) (k := 9) (w.alloc (Obj.cells #[.slice A1 rs.length c1, .slice A2 al.length c2] 55))
  rw [World.size_alloc] at hDm
  have hw2s : ((w.alloc (Obj.cells #[.slice A1 rs.length c1, .slice A2 al.length c2] 55)).alloc (.map #[] 0)).heap.size = w.heap.size + 1 + 1 := by rw [World.size_alloc, World.size_alloc]
  generalize (w.alloc (Obj.cells #[.slice A1 rs.length c1, .slice A2 al.length c2] 55)).alloc (.map #[] 0) = w2 at hbm hkm hDm hw2s ⊢
  generalize hG : w.heap.size = G0 at hkm hDm hw2s ⊢
  replace hkm := Lib.hid hkm
  replace hG := Lib.hid hG
  clear hkA hbA
  go_loopw [7, 18] (fun v7 v18 wr => ∃ (i n : Nat) (gs : List (List Nat)) (vs : List Value) (f : ByteArray → Option Int), i ≤ L.length ∧ v18 = .int .i64 i ∧ Nest wr (G0 + 2) v7 vs gs ∧ n ≤ i ∧ Dict encI Tryd.prog 9 wr (G0 + 1) n f ∧ Aside (GP nm i gs) ∧ Aside (PL nm i gs f) ∧ Below (G0 + 1) w2 wr) (fun _ v18 _ => L.length - (intOf v18).toNat)
  case atStart => exact ⟨0, 0, [], [], _, Nat.zero_le _, rfl, nest_nil _ _, Nat.le_refl _, hDm, gp_start nm, pl_start nm, Below.refl _ _⟩
  case round =>
    obtain ⟨i, n, gs, vs, f, hi, rfl, hNe, hni, hD, hGP, hPL, hbr⟩ := hrel
    obtain ⟨A7, c7, rfl⟩ := hNe.form
    have hgl := hNe.len
    by_cases hlt : i < L.length
    · have e3 : decide (i < L.length) = true := decide_eq_true hlt
      have hbw : Below w.heap.size w wr := hbm.trans (hbr.mono (by rw [hG.out]; omega))
      obtain ⟨adL, rfl, d0⟩ := Kd.at_string (Kd.C_below hL.out hbw) i (by omega) (by omega)
      rw [Int.toNat_natCast, show rdOf ByteArray.empty L (i : Int) = L.getD i ByteArray.empty from by simp [rdOf]] at d0
      have hkr := (hbr.block G0 (by omega)).trans hkm.out
      have q0 : wr.cell? ⟨G0, 0, none⟩ = some (.slice A1 rs.length c1) := (cell_row hkr 0).trans rfl
      have q1 : wr.cell? ⟨G0, 1, none⟩ = some (.slice A2 al.length c2) := (cell_row hkr 1).trans rfl
      have c1' := cn.out i wr hbw
      have hnl := name_size2 rs al (L.getD i ByteArray.empty) t
      have hni' : nameF rs al (L.getD i ByteArray.empty) t = nm i := hnmi.out i
      rw [hni'] at c1' hnl
      generalize L.getD i ByteArray.empty = s at d0 c1'
      generalize hR : nm i = R at c1' hnl
      obtain ⟨p, e⟩ := R
      simp only at c1' hnl
      replace c1' := Lib.hid c1'
      replace hR := Lib.hid hR
      replace hgl := Lib.hid hgl
      have hwl : G0 + 1 < wr.heap.size := hD.lt
      clear hkr hni' hbw
      go_wp2_with fail
      refine c1'.out.mono ?_
      rintro e w3 ⟨rfl, hb3⟩
      have hNe3 := hNe.below hb3
      have hD3 := hD.below hb3
      have hbr3 := hbr.trans (hb3.mono (Nat.le_of_lt hwl))
      have hwl3 : G0 + 1 < w3.heap.size := hD3.lt
      clear c1' q0 q1 d0 hNe hD hb3 hwl
      by_cases he : e = 0
      · subst he
        have hpm : p.size ≤ maxLen := by unfold maxLen; omega
        cases hf : f p with
        | some z =>
          obtain ⟨k, hk, rfl, i0, hi0, he0⟩ := hPL.out.some_ p z hf
          have hkv : k < vs.length := by have := hgl.out; omega
          obtain ⟨G, cap, hv, hGlt, hGB⟩ := own_some hNe3.out (by omega)
          cases hv
          have hvj : vs[k]? = some (vs.getD k nilV) := by rw [List.getD_eq_getElem?_getD, List.getElem?_eq_getElem hkv]; rfl
          have hNA := hNe3.alloc (Obj.cells #[Value.int .i64 (i : Int)] 3)
          have hinn := hNA.inn k hk
          have hgl2 := grp_le hGP.out k hk
          have qk := own_cell hNe3.out hvj
          generalize hvk : vs.getD k nilV = vk at qk hinn hvj
          replace hvk := Lib.hid hvk
          have ek : decide ((k : Int) < (vs.length : Int)) = true := decide_eq_true (by omega)
          have ek2 : decide (k < vs.length) = true := decide_eq_true hkv
          replace hNA := Lib.hid hNA
          replace hvj := Lib.hid hvj
          have hbo : some (G0 + 1) ≠ vk.ownBlock := fun e => by have := own_base hinn _ e.symm; omega
          go_wp2_with (first | (at_lookup; refine wpList_dict_ok (enc := encI) _ rfl _ _ 93 rfl 9 3 Tryd.underlying9 Tryd.underlying93 encI_inj 0 rfl _ _ _ rfl hD3 p rfl hpm ?_; rw [hf, Option.getD_some, Option.isSome_some, encI]) | (at_builtin; refine wpList_append_own_at _ rfl _ _ 30 rfl (G0 + 2) 3 i3 (.int .i64 0) 1 8 Tryd.underlying30 hi3 hz3 hs3 hb3_ rfl (by decide) vk (grp gs k).length ((grp gs k).map encN) (by rfl) hinn ⟨w3.heap.size, 0, none⟩ 1 1 [encN i] (by rfl) rfl (cell_one_new _ _ _) (by simp [encN, Value.oneCell']) (by unfold maxLen; omega) (by omega) (by rw [World.size_alloc]; omega) ?_; intro v9 w9 hown9 hg9 hnil9 hob9; have hout9 := hNA.out.out.kept hg9 (own_type_ne hNA.out.out hinn (by decide)); have z0 := own_cell hout9 hvj.out; have zf := own_frozen hout9; obtain ⟨G9, cap9, rfl, hG9, hB9⟩ := own_some hown9 (Nat.succ_pos _)))
          have hnp := nest_put (n := i) hNA.out hk hown9 (by rw [hvk.out]; exact hg9) (by rw [hvk.out]; exact hob9)
          have hD9 := (hD3.below ((Below.refl _ _).alloc (Nat.le_refl _) (Obj.cells #[Value.int .i64 (i : Int)] 3))).kept hg9 hbo
          have hD10 := hD9.kept (set_grown w9 G k (.slice (some ⟨G9, 0, none⟩) ((grp gs k).length + 1) cap9)) (by simp; omega)
          have hb9 := (((hbr3.alloc (Nat.le_of_lt hwl3) (Obj.cells #[Value.int .i64 (i : Int)] 3)).grown hg9 (by rw [World.size_alloc]; omega) (fun j hj => by have := own_base hinn j hj; omega)).setCell (p := ⟨G, k, none⟩) (by show G0 + 1 ≤ G; omega) (.slice (some ⟨G9, 0, none⟩) ((grp gs k).length + 1) cap9))
          go_roundw
          case rel => exact ⟨i + 1, n, upd gs k i, vs.set k (.slice (some ⟨G9, 0, none⟩) ((grp gs k).length + 1) cap9), f, by omega, by go_num, hnp, by omega, hD10, gp_old hGP.out hk (by rw [hR.out]) ⟨i0, hi0, by rw [hR.out]; exact he0⟩, pl_old hPL.out hk (by rw [hR.out]; exact hf), hb9⟩
          case measure => simp [intOf]; omega
        | none =>
          have hpn := Lib.hid (fun j hj ho => hPL.out.none_ p hf j hj ho)
          have hNA := hNe3.alloc (Obj.cells #[Value.slice none 0 0] 30)
          have hDA := hD3.below ((Below.refl _ _).alloc (Nat.le_refl _) (Obj.cells #[Value.slice none 0 0] 30))
          have hgl3 := gs_le hGP.out
          have hvl : vs.length ≤ 1000 := by have := hgl.out; omega
          have hbo7 : some (G0 + 1) ≠ (Value.slice A7 vs.length c7).ownBlock := fun e => by have := own_base hNA.out _ e.symm; omega
          replace hNA := Lib.hid hNA
          have ek : decide ((vs.length : Int) < (vs.length : Int) + 1) = true := decide_eq_true (by omega)
          have ek2 : decide (vs.length < vs.length + 1) = true := decide_eq_true (by omega)
          go_wp2_with (first | (at_lookup; refine wpList_dict_ok (enc := encI) _ rfl _ _ 93 rfl 9 3 Tryd.underlying9 Tryd.underlying93 encI_inj 0 rfl _ _ _ rfl hD3 p rfl hpm ?_; rw [hf, Option.getD_none, Option.isSome_none, encI]) | (at_builtin; refine wpList_append_own_at _ rfl _ _ 59 rfl (G0 + 2) 30 i30 (.slice none 0 0) 1 24 Tryd.underlying59 hi30 hz30 hs30 hb30 rfl (by decide) (.slice A7 vs.length c7) vs.length vs (by rfl) hNA.out.out ⟨w3.heap.size, 0, none⟩ 1 1 [nilV] (by rfl) rfl (cell_one_new _ _ _) (by simp [nilV, Value.oneCell']) (by unfold maxLen; omega) (by omega) (by rw [World.size_alloc]; omega) ?_; intro v5 w5 hown5 hg5 hnil5 hob5; have hN5 := nest_snoc hNA.out hown5 hg5; have hD5 := hDA.kept hg5 hbo7; have hb5 := (hbr3.alloc (Nat.le_of_lt hwl3) (Obj.cells #[Value.slice none 0 0] 30)).grown hg5 (by rw [World.size_alloc]; omega) (fun j hj => by have := own_base hNA.out.out j hj; omega); have hwl5 := hD5.lt; obtain ⟨G, cap, rfl, hGlt, hGB⟩ := own_some hown5 (Nat.succ_pos _); replace hN5 := Lib.hid hN5) | (at_mapUpdate; refine wpList_dict_put (enc := encI) _ rfl _ _ _ 93 rfl 9 3 Tryd.underlying9 Tryd.underlying93 encI_inj _ n f rfl hD5 (by unfold maxLen; omega) p (vs.length : Int) rfl rfl hpm ?_; intro w6 hD6 hg6; have hN6 := hN5.out.kept hg6 (fun r e => by cases e; omega); have hown6 := hown5.kept hg6 (own_ne_low hown5 (fun r e => by cases e; omega)); have hown6A := hown6.alloc (Obj.cells #[Value.int .i64 (i : Int)] 3); have hinn : (w6.alloc (Obj.cells #[Value.int .i64 (i : Int)] 3)).ownsRow (G0 + 2) 3 1 (.slice none 0 0) 0 [] := ⟨rfl, .inl ⟨rfl, rfl⟩⟩; have qk := own_cell hown6 (j := vs.length) (u := .slice none 0 0) (by simp [nilV]); have hb6 := hb5.grown hg6 (by omega) (fun j hj => by cases hj; exact Nat.le_refl _); have hwl6 := hD6.lt; replace hN6 := Lib.hid hN6) | (at_builtin; refine wpList_append_own_at _ rfl _ _ 30 rfl (G0 + 2) 3 i3 (.int .i64 0) 1 8 Tryd.underlying30 hi3 hz3 hs3 hb3_ rfl (by decide) (.slice none 0 0) 0 [] (by rfl) hinn ⟨w6.heap.size, 0, none⟩ 1 1 [encN i] (by rfl) rfl (cell_one_new _ _ _) (by simp [encN, Value.oneCell']) (by unfold maxLen; omega) (by omega) (by rw [World.size_alloc]; omega) ?_; intro v9 w9 hown9 hg9 hnil9 hob9; have hout9 := hown6A.kept hg9 (own_type_ne hown6A hinn (by decide)); have z0 := own_cell hout9 (j := vs.length) (u := .slice none 0 0) (by simp [nilV]); have zf := own_frozen hout9; obtain ⟨G9, cap9, rfl, hG9, hB9⟩ := own_some hown9 (Nat.succ_pos _)))
          have hN6A : Nest (w6.alloc (Obj.cells #[Value.int .i64 (i : Int)] 3)) (G0 + 2) (.slice (some ⟨G, 0, none⟩) (vs ++ [nilV]).length cap) (vs ++ [nilV]) (gs ++ [[]]) := by
            rw [List.length_append, List.length_singleton]
            exact hN6.out.alloc _
          have hk2 : vs.length < (gs ++ [[]]).length := by rw [List.length_append, List.length_singleton]; have := hgl.out; omega
          have hgk2 : grp (gs ++ [[]]) vs.length = [] := by rw [grp_snoc, if_neg (by have := hgl.out; omega)]
          have hvk2 : (vs ++ [nilV]).getD vs.length nilV = nilV := by rw [getD_snoc, if_neg (by omega), if_pos rfl]
          have hnp := nest_put (n := i) hN6A hk2 (v' := (.slice (some ⟨G9, 0, none⟩) (0 + 1) cap9)) (by rw [hgk2]; exact hown9) (by rw [hvk2]; exact hg9) (by rw [hvk2]; exact hob9)
          rw [List.length_append, List.length_singleton] at hnp
          have hup : upd (gs ++ [[]]) vs.length i = gs ++ [[i]] := by rw [hgl.out]; exact upd_snoc gs i
          rw [hup] at hnp
          have hD9 := (hD6.below ((Below.refl _ _).alloc (Nat.le_refl _) (Obj.cells #[Value.int .i64 (i : Int)] 3))).kept hg9 (by simp [Value.ownBlock])
          have hD10 := hD9.kept (set_grown w9 G vs.length (.slice (some ⟨G9, 0, none⟩) (0 + 1) cap9)) (by simp; omega)
          have hb9 := (((hb6.alloc (Nat.le_of_lt hwl6) (Obj.cells #[Value.int .i64 (i : Int)] 3)).grown hg9 (by rw [World.size_alloc]; omega) (fun j hj => by simp [Value.ownBlock] at hj)).setCell (p := ⟨G, vs.length, none⟩) (by show G0 + 1 ≤ G; omega) (.slice (some ⟨G9, 0, none⟩) (0 + 1) cap9))
          have hgp := gp_new hGP.out (by rw [hR.out]) (fun j hj ho => by rw [hR.out]; exact hpn.out j hj ho)
          have hpl := pl_new hPL.out
          rw [hR.out] at hpl
          go_roundw
          case rel => exact ⟨i + 1, n + 1, gs ++ [[i]], _, _, by omega, by go_num, hnp, by omega, hD10.congr (fun q => by rw [hgl.out]), hgp, hpl, hb9⟩
          case measure => simp [intOf]; omega
      · have e5 : (e == 0) = false := beq_eq_false_iff_ne.mpr he
        replace he := Lib.hid he
        go_wp2_with fail
        go_roundw
        case rel => exact ⟨i + 1, n, gs, vs, f, by omega, by go_num, hNe3, by omega, hD3, gp_skip hGP.out (by rw [hR.out]; exact he.out), pl_skip hPL.out (by rw [hR.out]; exact he.out), hbr3⟩
        case measure => simp [intOf]; omega
    · have e3 : decide (i < L.length) = false := decide_eq_false hlt
      obtain rfl : i = L.length := by omega
      replace hgl := Lib.hid hgl
      go_wp2_with fail
      go_ret
      refine ⟨⟨_, vs, gs, rfl, ?_, ?_⟩, hbm.trans (hbr.mono (by rw [hG.out]; omega))⟩
      · rw [hG.out]; exact hNe
      · exact hGP.out
#print axioms groups_ok
end Go.Proofs.YtpejnnnkamodbaaDoor
