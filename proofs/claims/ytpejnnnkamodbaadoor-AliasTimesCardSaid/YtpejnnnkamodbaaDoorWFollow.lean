/- The package alias: present, follow, Follow. -/
import Derived.Test.YtpejnnnkamodbaaDoorWAlias
namespace Go.Proofs.YtpejnnnkamodbaaDoor
open Go Go.RowKit Go.Maps Go.WideMaps Go.Proofs.YtpejnnnkamodbaaDoorW.PrintWords Go.Proofs.YtpejnnnkamodbaaDoorW.PrintLast
open PCanonEqual (S40 k40 z40 rd_T40 at_T40 k40_open k40_mk)

def enc40 (a : S40) : Value := .agg #[.string a.f0, .string a.f1, .int .i64 a.f2, .bool a.f3]
theorem enc40_inj (a b : S40) (h : enc40 a = enc40 b) : a = b := by
  obtain ⟨_, _, _, _⟩ := a
  obtain ⟨_, _, _, _⟩ := b
  simpa [enc40] using h
/-- One entry of a list laid upon what counted before. -/
def layA (t : Int) (f : ByteArray → Option S40) (a : S40) : ByteArray → Option S40 := if a.f2 > t then f else fun s => if s = a.f0 then (if a.f3 then none else some a) else f s
def presT (l : List S40) (t : Int) : ByteArray → Option S40 := l.foldl (layA t) (fun _ => none)
theorem presT_snoc (l : List S40) (t : Int) (i : Nat) (h : i < l.length) : presT (l.take (i + 1)) t = layA t (presT (l.take i) t) (l.getD i z40) := by
  unfold presT
  rw [List.take_add_one, List.foldl_append]
  simp [List.getD, h]
set_option maxHeartbeats 4000000 in
set_option maxRecDepth 100000 in
theorem present_ok (A : Option Addr) (c : Nat) (l : List S40) (t : Int) (w : World) (hr : Kd.C k40 w A l.length l) (hl : l.length ≤ 1000000) (hs : ∀ a ∈ l, a.f0.size ≤ 1000000) :
    Calls Tryd.prog 55 #[.slice A l.length c, .int .i64 t] w fun e w' => ∃ b, e = .returned (.map (some b)) ∧ w.heap.size ≤ b ∧ Dict enc40 Tryd.prog 9 w' b l.length (presT l t) ∧ Below w.heap.size w w' := by
  replace hr := Lib.hid hr
  replace hs := Lib.hid hs
  have hmm := @run_makeMap Tryd.prog
  go_enter Tryd.func55, Tryd.ntmps55
  go_wp2_with fail
  clear hmm
  go_loopw [11] (fun v wr => ∃ i : Nat, i ≤ l.length ∧ v = .int .i64 i ∧ Dict enc40 Tryd.prog 9 wr w.heap.size i (presT (l.take i) t) ∧ Below w.heap.size w wr) (fun v _ => l.length - (intOf v).toNat)
  case atStart => exact ⟨0, Nat.zero_le _, rfl, Dict.made w, (Below.refl _ _).alloc (Nat.le_refl _) _⟩
  case round =>
    obtain ⟨i, hi, rfl, hD, hbr⟩ := hrel
    by_cases hlt : i < l.length
    · have e3 : decide (i < l.length) = true := decide_eq_true hlt
      have hrr : Kd.C k40 wr A l.length l := Kd.C_below hr.out hbr
      obtain ⟨ad, rfl, d0, d1, d2, d3⟩ := at_T40 hrr i (by omega) (by omega)
      rw [Int.toNat_natCast] at d0 d1 d2 d3
      have hst := presT_snoc l t i hlt
      have hsz := hs.out (l.getD i z40) (by rw [List.getD_eq_getElem?_getD, List.getElem?_eq_getElem hlt]; exact List.getElem_mem hlt)
      have hra : rd_T40 l i = l.getD i z40 := by simp [rd_T40]
      rw [hra] at d0 d1 d2 d3
      generalize l.getD i z40 = a at d0 d1 d2 d3 hst hsz
      generalize presT (l.take i) t = f at hD hst
      obtain ⟨n, o, ti, g⟩ := a
      simp only [layA] at hst
      have hbq : Below wr.heap.size wr (wr.alloc (Obj.cells #[Value.string n, Value.string o, Value.int IntKind.i64 ti, Value.bool g] 40)) := (Below.refl _ _).alloc (Nat.le_refl _) _
      have hblk := heap_alloc_new wr (Obj.cells #[Value.string n, Value.string o, Value.int IntKind.i64 ti, Value.bool g] 40)
      have hDq := hD.below hbq
      have hbw := hbr.trans (hbq.mono hbr.size)
      have hDl := hD.lt
      have hgne : (some wr.heap.size : Option Nat) ≠ some w.heap.size := by simp; omega
      clear hrr hra
      by_cases hc : t < ti
      · have e4 : decide (t < ti) = true := decide_eq_true hc
        rw [if_pos hc] at hst
        replace hst := Lib.hid hst
        go_wp2_with fail
        go_roundw
        case rel => exact ⟨i + 1, by omega, by go_num, by rw [hst.out]; obtain ⟨D, x1, x2⟩ := hDq; exact ⟨D, x1.mono (Nat.le_succ _), x2⟩, hbw⟩
        case measure => simp [intOf]; omega
      · have e4 : decide (t < ti) = false := decide_eq_false hc
        rw [if_neg hc] at hst
        replace hst := Lib.hid hst
        have q0 : (wr.alloc (Obj.cells #[Value.string n, Value.string o, Value.int IntKind.i64 ti, Value.bool g] 40)).cell? ⟨wr.heap.size, 0, none⟩ = some (.string n) := (cell_row hblk 0).trans rfl
        have q3 : (wr.alloc (Obj.cells #[Value.string n, Value.string o, Value.int IntKind.i64 ti, Value.bool g] 40)).cell? ⟨wr.heap.size, 3, none⟩ = some (.bool g) := (cell_row hblk 3).trans rfl
        clear hblk hD
        cases g
        · go_wp2_with (at_mapUpdate; refine wpList_dict_put (enc := enc40) _ rfl _ _ _ 85 rfl 9 40 Tryd.underlying9 Tryd.underlying85 enc40_inj _ i f rfl hDq (by unfold maxLen; omega) n ⟨n, o, ti, false⟩ rfl rfl (by unfold maxLen; exact Nat.le_trans hsz (by decide)) ?_; intro w5 hD5 hg5; have r3 := hg5.cell q3 hgne)
          go_roundw
          case rel => exact ⟨i + 1, by omega, by go_num, by rw [hst.out]; exact hD5, hbw.grown hg5 hbw.size (fun k hk => by cases hk; exact Nat.le_refl _)⟩
          case measure => simp [intOf]; omega
        · go_wp2_with (first | (at_mapUpdate; refine wpList_dict_put (enc := enc40) _ rfl _ _ _ 85 rfl 9 40 Tryd.underlying9 Tryd.underlying85 enc40_inj _ i f rfl hDq (by unfold maxLen; omega) n ⟨n, o, ti, true⟩ rfl rfl (by unfold maxLen; exact Nat.le_trans hsz (by decide)) ?_; intro w5 hD5 hg5; have r3 := hg5.cell q3 hgne; have r0 := hg5.cell q0 hgne) | (at_delete; refine wpList_dict_del (enc := enc40) _ rfl _ _ 85 9 rfl 40 Tryd.underlying9 Tryd.underlying85 _ _ _ rfl hD5 n rfl (by unfold maxLen; exact Nat.le_trans hsz (by decide)) ?_; intro w6 hD6 hg6))
          go_roundw
          case rel =>
            have h5 := hbw.grown hg5 hbw.size (fun k hk => by cases hk; exact Nat.le_refl _)
            refine ⟨i + 1, by omega, by go_num, ?_, h5.grown hg6 h5.size (fun k hk => by cases hk; exact Nat.le_refl _)⟩
            rw [hst.out]
            exact hD6.congr (fun s => by by_cases hsn : s = n <;> simp [hsn])
          case measure => simp [intOf]; omega
    · have e3 : decide (i < l.length) = false := decide_eq_false hlt
      obtain rfl : i = l.length := by omega
      rw [List.take_length] at hD
      go_wp2_with fail
      go_ret
      exact ⟨_, rfl, Nat.le_refl _, hD, hbr⟩

/-! ### where a name leads -/
inductive Leads (f : ByteArray → Option S40) : ByteArray → ByteArray → Prop
  | done {s : ByteArray} (h : f s = none) : Leads f s s
  | step {s t : ByteArray} {a : S40} (h : f s = some a) (r : Leads f a.f1 t) : Leads f s t
inductive ReachP (f : ByteArray → Option S40) : ByteArray → ByteArray → Prop
  | one {s : ByteArray} {a : S40} (h : f s = some a) : ReachP f s a.f1
  | more {s t : ByteArray} {a : S40} (h : f s = some a) (r : ReachP f a.f1 t) : ReachP f s t
def Loops (f : ByteArray → Option S40) (s : ByteArray) : Prop := ¬ ∃ t, Leads f s t
theorem ReachP.snoc {f : ByteArray → Option S40} {s t : ByteArray} {a : S40} (h : ReachP f s t) (ht : f t = some a) : ReachP f s a.f1 := by
  induction h with
  | one h => exact .more h (.one ht)
  | more h r ih => exact .more h (ih ht)
theorem leads_no_cycle {f : ByteArray → Option S40} {s t : ByteArray} (h : Leads f s t) : ∀ u, ReachP f s u → u = s → False := by
  induction h with
  | done h =>
    intro u hr _
    cases hr with
    | one h' => rw [h] at h'; cases h'
    | more h' _ => rw [h] at h'; cases h'
  | step h r ih =>
    rename_i s t a
    intro u hr hu
    cases hr with
    | one h' =>
      rw [h] at h'
      cases h'
      exact ih a.f1 (.one (by rw [hu]; exact h)) rfl
    | more h' r' =>
      rw [h] at h'
      cases h'
      exact ih a.f1 (r'.snoc (by rw [hu]; exact h)) rfl
theorem leads_iff {f : ByteArray → Option S40} {s t : ByteArray} {a : S40} (h : f s = some a) : Leads f s t ↔ Leads f a.f1 t :=
  ⟨fun hl => by
    cases hl with
    | done h' => rw [h] at h'; cases h'
    | step h' r => rw [h] at h'; cases h'; exact r, fun hl => .step h hl⟩
theorem nodup_sub : ∀ (vs L : List ByteArray), vs.Nodup → (∀ v ∈ vs, v ∈ L) → vs.length ≤ L.length
  | [], _, _, _ => Nat.zero_le _
  | v :: vs, L, hn, hs => by
    obtain ⟨L1, L2, rfl⟩ := List.append_of_mem (hs v List.mem_cons_self)
    rw [List.nodup_cons] at hn
    have := nodup_sub vs (L1 ++ L2) hn.2 (fun u hu => by
      have h1 := hs u (List.mem_cons_of_mem _ hu)
      simp only [List.mem_append, List.mem_cons] at h1 ⊢
      rcases h1 with h1 | h1 | h1
      · exact Or.inl h1
      · subst h1; exact absurd hu hn.1
      · exact Or.inr h1)
    simp at this ⊢
    omega
open Classical in
noncomputable def seenF (vs : List ByteArray) (k : ByteArray) : Option Bool := if k ∈ vs then some true else none
theorem seenF_in {vs : List ByteArray} {k : ByteArray} (h : k ∈ vs) : (seenF vs k).getD false = true := by unfold seenF; rw [if_pos h]; rfl
theorem seenF_out {vs : List ByteArray} {k : ByteArray} (h : k ∉ vs) : (seenF vs k).getD false = false := by unfold seenF; rw [if_neg h]; rfl
theorem seenF_cons (vs : List ByteArray) (k s : ByteArray) : (if s = k then some true else seenF vs s) = seenF (k :: vs) s := by
  unfold seenF
  by_cases h : s = k
  · subst h; simp
  · rw [if_neg h]
    by_cases h2 : s ∈ vs
    · rw [if_pos h2, if_pos (List.mem_cons_of_mem _ h2)]
    · rw [if_neg h2, if_neg (by simp [h, h2])]
def encB (b : Bool) : Value := .bool b
theorem encB_inj (a b : Bool) (h : encB a = encB b) : a = b := by simpa [encB] using h
def FollowPost (f : ByteArray → Option S40) (s : ByteArray) (e : Ending) : Prop :=
  (∃ t, Leads f s t ∧ e = .returned (.tuple #[.string t, .bool true])) ∨ (Loops f s ∧ e = .returned (.tuple #[.string ⟨#[]⟩, .bool false]))
set_option maxHeartbeats 4000000 in
set_option maxRecDepth 100000 in
set_option linter.unusedSimpArgs false in
theorem follow_ok (b n : Nat) (f : ByteArray → Option S40) (s : ByteArray) (w : World) (L : List ByteArray) (hD : Dict enc40 Tryd.prog 9 w b n f) (hL : ∀ k, f k ≠ none → k ∈ L) (hn : L.length ≤ 1000000) (hs : s.size ≤ 1000000) (hv : ∀ k a, f k = some a → a.f1.size ≤ 1000000) :
    Calls Tryd.prog 54 #[.map (some b), .string s] w fun e w' => FollowPost f s e ∧ Below w.heap.size w w' := by
  have hmm := @run_makeMap Tryd.prog
  replace hL := Lib.hid hL
  replace hv := Lib.hid hv
  go_enter Tryd.func54, Tryd.ntmps54
  go_wp2_with fail
  clear hmm
  go_loopg [1] L.length (fun gk v wr => ∃ (cur : ByteArray) (vs : List ByteArray), v = .string cur ∧ cur.size ≤ 1000000 ∧ Dict encB Tryd.prog 9 wr w.heap.size vs.length (seenF vs) ∧ vs.Nodup ∧ Aside (∀ v ∈ vs, f v ≠ none) ∧ Aside (∀ v ∈ vs, ReachP f v cur) ∧ Aside (∀ t, Leads f s t ↔ Leads f cur t) ∧ Below w.heap.size w wr ∧ vs.length + gk = L.length)
  case atStart => exact ⟨s, [], rfl, hs, (Dict.made w).congr (fun _ => by simp [seenF]), List.nodup_nil, by simp [Aside], by simp [Aside], fun t => Iff.rfl, (Below.refl _ _).alloc (Nat.le_refl _) _, by simp⟩
  case round =>
    obtain ⟨cur, vs, rfl, hcs, hS, hnd, hvf, hvr, hlead, hbr, hgk⟩ := hrel
    by_cases hin : cur ∈ vs
    · have hg := seenF_in hin
      go_wp2_with (at_lookup; refine wpList_dict_get (enc := encB) _ rfl _ _ 97 rfl 9 4 Tryd.underlying9 Tryd.underlying97 encB_inj false rfl _ _ _ rfl hS cur rfl (by unfold maxLen; exact Nat.le_trans hcs (by decide)) ?_; rw [hg, encB])
      go_ret2
      refine ⟨Or.inr ⟨?_, rfl⟩, hbr⟩
      rintro ⟨t, ht⟩
      exact leads_no_cycle ((hlead.out t).1 ht) _ (hvr.out cur hin) rfl
    · have hg := seenF_out hin
      cases hfc : f cur with
      | none =>
        have hDr : Dict enc40 Tryd.prog 9 wr b n f := hD.below hbr
        go_wp2_with (first | (at_lookup; refine wpList_dict_get (enc := encB) _ rfl _ _ 97 rfl 9 4 Tryd.underlying9 Tryd.underlying97 encB_inj false rfl _ _ _ rfl hS cur rfl (by unfold maxLen; exact Nat.le_trans hcs (by decide)) ?_; rw [hg, encB]) | (at_lookup; refine wpList_dict_ok (enc := enc40) _ rfl _ _ 85 rfl 9 40 Tryd.underlying9 Tryd.underlying85 enc40_inj z40 rfl _ _ _ rfl hDr cur rfl (by unfold maxLen; exact Nat.le_trans hcs (by decide)) ?_; rw [hfc, Option.getD_none, Option.isSome_none, enc40]))
        go_ret2
        exact ⟨Or.inl ⟨cur, (hlead.out cur).2 (.done hfc), rfl⟩, hbr.trans (((Below.refl _ _).alloc (Nat.le_refl _) _).mono hbr.size)⟩
      | some a =>
        obtain ⟨n', o, ti, g⟩ := a
        have hDr : Dict enc40 Tryd.prog 9 wr b n f := hD.below hbr
        go_wp2_with (first | (at_lookup; refine wpList_dict_get (enc := encB) _ rfl _ _ 97 rfl 9 4 Tryd.underlying9 Tryd.underlying97 encB_inj false rfl _ _ _ rfl hS cur rfl (by unfold maxLen; exact Nat.le_trans hcs (by decide)) ?_; rw [hg, encB]) | (at_lookup; refine wpList_dict_ok (enc := enc40) _ rfl _ _ 85 rfl 9 40 Tryd.underlying9 Tryd.underlying85 enc40_inj z40 rfl _ _ _ rfl hDr cur rfl (by unfold maxLen; exact Nat.le_trans hcs (by decide)) ?_; rw [hfc, Option.getD_some, Option.isSome_some, enc40]))
        have hblk := heap_alloc_new wr (Obj.cells #[Value.string n', Value.string o, Value.int IntKind.i64 ti, Value.bool g] 40)
        have hbq : Below wr.heap.size wr (wr.alloc (Obj.cells #[Value.string n', Value.string o, Value.int IntKind.i64 ti, Value.bool g] 40)) := (Below.refl _ _).alloc (Nat.le_refl _) _
        have hSq := hS.below hbq
        generalize wr.alloc (Obj.cells #[Value.string n', Value.string o, Value.int IntKind.i64 ti, Value.bool g] 40) = wq at hbq hblk hSq ⊢
        have q1 : wq.cell? ⟨wr.heap.size, 1, none⟩ = some (.string o) := (cell_row hblk 1).trans rfl
        have hbw := hbr.trans (hbq.mono hbr.size)
        have hle : vs.length + 1 ≤ L.length := by
          have := nodup_sub (cur :: vs) L (List.nodup_cons.2 ⟨hin, hnd⟩) (fun v hv' => by
            rcases List.mem_cons.1 hv' with rfl | hv'
            · exact hL.out _ (by rw [hfc]; simp)
            · exact hL.out _ (hvf.out v hv'))
          simpa using this
        have hol : o.size ≤ 1000000 := hv.out cur _ hfc
        clear hblk hDr
        generalize hG : wr.heap.size = G at q1 hbq ⊢
        have hBlt := hSq.lt
        generalize hB : w.heap.size = B at hSq hBlt ⊢
        have hBlt' : B < G := by have := hS.lt; omega
        clear hG hbr hS
        have hSd := hSq.below (Below.refl _ _).drew
        have hBG : (some G : Option Nat) ≠ some B := by simp; omega
        refine start_ (n := 6) (S := fun w' => w'.cell? ⟨G, 1, none⟩ = some (.string o)) (ds := []) #[false, false, false, false, false, false] (by kernel_rfl) rfl rfl (q1) (fun hHeld => ?_)
        refine pure_ (i := 0) (N := some 23) (v := ?_) (a' := ?_) #[true, false, false, false, false, false] rfl rfl (by kernel_rfl) (fun _ _ _ h => h) (Or.inl ⟨by rfl, ?_⟩) ?_ ?_
        rotate_left
        · intro w'
          go_simp
          with_reducible rfl
        rotate_left
        · simp only [Act.put, List.setIfInBounds_toArray, List.set_cons_zero, List.set_cons_succ, i64_w, i32_w]
          rfl
        refine pure_ (i := 1) (N := some 24) (v := ?_) (a' := ?_) #[true, true, false, false, false, false] rfl rfl (by kernel_rfl) (fun _ _ _ h => h) (Or.inl ⟨by rfl, ?_⟩) ?_ ?_
        rotate_left
        · intro w'
          go_simp
          with_reducible rfl
        rotate_left
        · simp only [Act.put, List.setIfInBounds_toArray, List.set_cons_zero, List.set_cons_succ, i64_w, i32_w]
          rfl
        refine pure_ (i := 2) (N := some 25) (v := ?_) (a' := ?_) #[true, true, true, false, false, false] rfl rfl (by kernel_rfl) (fun _ _ _ h => h) (Or.inl ⟨by rfl, ?_⟩) ?_ ?_
        rotate_left
        · intro w'
          go_simp
          with_reducible rfl
        rotate_left
        · simp only [Act.put, List.setIfInBounds_toArray, List.set_cons_zero, List.set_cons_succ, i64_w, i32_w]
          rfl
        refine take_ (i := 3) (N := some 26) (v := ?_) (a' := ?_) #[true, true, true, true, false, false] rfl rfl (by kernel_rfl) (fun _ _ _ h => h) (Or.inl ⟨by rfl, ?_⟩) hHeld ?_ ?_
        rotate_left
        · intro w' s0
          go_simp
          with_reducible rfl
        rotate_left
        · simp only [Act.put, List.setIfInBounds_toArray, List.set_cons_zero, List.set_cons_succ, i64_w, i32_w]
          rfl
        refine one_ (i := 4) (N := none) #[true, true, true, true, true, false] rfl rfl (by kernel_rfl) (by decide) (fun K hK => ?_)
        refine wp_dict_put (enc := encB) _ (by rfl) rfl _ _ _ 97 rfl 9 4 Tryd.underlying9 Tryd.underlying97 encB_inj B vs.length (seenF vs) rfl hSd (by unfold maxLen; omega) cur true rfl rfl (by unfold maxLen; exact Nat.le_trans hcs (by decide)) ?_
        intro w3 hD3 hg3
        refine hK.out _ _ (hg3.cell hHeld hBG) (fun hHeld => ?_)
        clear hK K
        refine pure_ (i := 5) (N := some 1) (v := ?_) (a' := ?_) #[true, true, true, true, true, true] rfl rfl (by kernel_rfl) (fun _ _ _ h => h) (Or.inl ⟨by rfl, ?_⟩) ?_ ?_
        rotate_left
        · intro w'
          go_simp
          with_reducible rfl
        rotate_left
        · simp only [Act.put, List.setIfInBounds_toArray, List.set_cons_zero, List.set_cons_succ, i64_w, i32_w]
          rfl
        refine done_ (by kernel_rfl) ?_
        go_wp2
        subst hB
        go_roundg (gk - 1)
        case measure => omega
        case rel =>
          refine ⟨o, cur :: vs, rfl, hol, hD3.congr (fun s => seenF_cons vs cur s), List.nodup_cons.2 ⟨hin, hnd⟩, ?_, ?_, ?_, ?_, by simp; omega⟩
          · intro v hv'
            rcases List.mem_cons.1 hv' with rfl | hv'
            · rw [hfc]; simp
            · exact hvf.out v hv'
          · intro v hv'
            rcases List.mem_cons.1 hv' with rfl | hv'
            · exact .one hfc
            · exact (hvr.out v hv').snoc hfc
          · intro t
            rw [hlead.out t]
            exact leads_iff hfc
          · have hd : Below w.heap.size w wq.drew := hbw.trans (Below.refl _ _).drew
            exact hd.grown hg3 hd.size (fun k hk => by cases hk; exact Nat.le_refl _)
/-! ### Follow -/
theorem take_mem {l : List S40} {i : Nat} {a : S40} (h : a ∈ l.take i) : a ∈ l := List.mem_of_mem_take h
theorem presT_mem (l : List S40) (t : Int) : ∀ k a, presT l t k = some a → a ∈ l ∧ a.f0 = k ∧ a.f2 ≤ t ∧ a.f3 = false := by
  unfold presT
  suffices H : ∀ (l : List S40) (f : ByteArray → Option S40) (L : List S40), (∀ k a, f k = some a → a ∈ L ∧ a.f0 = k ∧ a.f2 ≤ t ∧ a.f3 = false) → ∀ k a, l.foldl (layA t) f k = some a → a ∈ L ++ l ∧ a.f0 = k ∧ a.f2 ≤ t ∧ a.f3 = false by
    intro k a h
    have := H l (fun _ => none) [] (fun k a h => by cases h) k a h
    simpa using this
  intro l
  induction l with
  | nil => intro f L hf k a h; simpa using hf k a h
  | cons x l ih =>
    intro f L hf k a h
    rw [List.foldl_cons] at h
    have := ih (layA t f x) (L ++ [x]) (fun k a h => by
      unfold layA at h
      split at h
      · have := hf k a h; exact ⟨List.mem_append_left _ this.1, this.2⟩
      · rename_i hc
        dsimp only at h
        split at h
        · rename_i hk
          split at h
          · cases h
          · rename_i hg
            cases h
            exact ⟨by simp, hk.symm, by omega, by simpa using hg⟩
        · have := hf k a h; exact ⟨List.mem_append_left _ this.1, this.2⟩) k a h
    simpa [List.append_assoc] using this
theorem name_size {s : ByteArray} (h : nameT s = true) : s.size ≤ 256 := by
  simp only [nameT, Bool.and_eq_true, decide_eq_true_eq] at h
  exact h.1.2
theorem valid_mem {l : List S40} (h : validT l = true) : ∀ a ∈ l, rightT a = true := by
  simp only [validT, validFrom, Bool.and_eq_true, List.all_eq_true, List.mem_range] at h
  intro a ha
  obtain ⟨i, hi, rfl⟩ := List.mem_iff_getElem.1 ha
  have := (h.2 i (by simpa using hi)).1
  simpa [List.getD, hi] using this
theorem right_sizes {a : S40} (h : rightT a = true) : a.f0.size ≤ 256 ∧ a.f1.size ≤ 256 := by
  simp only [rightT, Bool.and_eq_true] at h
  exact ⟨name_size h.1.1.1.1, name_size h.1.1.1.2⟩
/-- What Follow tells: 0 OK, 1 invalid, 11 a circle. -/
def FollowT (l : List S40) (s : ByteArray) (t : Int) (r : ByteArray) (e : Int) : Prop :=
  (validT l = false ∧ r = ⟨#[]⟩ ∧ e = 1) ∨ (validT l = true ∧ Loops (presT l t) s ∧ r = ⟨#[]⟩ ∧ e = 11) ∨ (validT l = true ∧ Leads (presT l t) s r ∧ e = 0)
set_option maxHeartbeats 2000000 in
theorem followAll_ok (A : Option Addr) (c : Nat) (l : List S40) (s : ByteArray) (t : Int) (w : World) (hT : Tabs w) (hr : Kd.C k40 w A l.length l) (hs : s.size ≤ 1000000) :
    Calls Tryd.prog 29 #[.slice A l.length c, .string s, .int .i64 t] w fun e w' => (∃ r n, FollowT l s t r n ∧ e = .returned (.tuple #[.string r, .int .i64 n])) ∧ Below w.heap.size w w' := by
  have cv := valid_ok A c l w hT hr
  cases hv : validT l with
  | false =>
    rw [hv] at cv
    replace cv := Lib.hid cv
    replace hr := Lib.hid hr
    go_enter Tryd.func29, Tryd.ntmps29
    go_wp2_with fail
    refine cv.out.mono ?_
    rintro e w1 ⟨rfl, hb1⟩
    go_wp2_with fail
    go_ret2
    exact ⟨⟨_, _, Or.inl ⟨hv, rfl, rfl⟩, rfl⟩, hb1⟩
  | true =>
    rw [hv] at cv
    have hm := valid_mem hv
    have hl : l.length ≤ 256 := by
      simp only [validT, Bool.and_eq_true, decide_eq_true_eq] at hv
      exact hv.1
    have cp := Lib.hid (fun w1 (h : Below w.heap.size w w1) => present_ok A c l t w1 (Kd.C_below hr h) (by omega) (fun a ha => Nat.le_trans (right_sizes (hm a ha)).1 (by decide)))
    have cf := Lib.hid (fun w2 b (hD : Dict enc40 Tryd.prog 9 w2 b l.length (presT l t)) => follow_ok b l.length (presT l t) s w2 (l.map (·.f0)) hD (fun k hk => by
      cases hp : presT l t k with
      | none => exact absurd hp hk
      | some a =>
        obtain ⟨h1, h2, _⟩ := presT_mem l t k a hp
        exact List.mem_map.2 ⟨a, h1, h2⟩) (by rw [List.length_map]; omega) hs (fun k a ha => Nat.le_trans (right_sizes (hm a (presT_mem l t k a ha).1)).2 (by decide)))
    replace cv := Lib.hid cv
    replace hr := Lib.hid hr
    replace hm := Lib.hid hm
    go_enter Tryd.func29, Tryd.ntmps29
    go_wp2_with fail
    refine cv.out.mono ?_
    rintro e w1 ⟨rfl, hb1⟩
    go_wp2_with fail
    refine (cp.out w1 hb1).mono ?_
    rintro e w2 ⟨b, rfl, hb, hD, hb2⟩
    have hb2' := hb1.trans (hb2.mono hb1.size)
    go_wp2_with fail
    refine (cf.out w2 b hD).mono ?_
    rintro e w3 ⟨hp, hb3⟩
    have hb3' := hb2'.trans (hb3.mono hb2'.size)
    rcases hp with ⟨r, hr, rfl⟩ | ⟨hlo, rfl⟩
    · go_wp2_with fail
      go_ret2
      exact ⟨⟨_, _, Or.inr (Or.inr ⟨hv, hr, rfl⟩), rfl⟩, hb3'⟩
    · go_wp2_with fail
      go_ret2
      exact ⟨⟨_, _, Or.inr (Or.inl ⟨hv, hlo, rfl, rfl⟩), rfl⟩, hb3'⟩
#print axioms followAll_ok
end Go.Proofs.YtpejnnnkamodbaaDoor
