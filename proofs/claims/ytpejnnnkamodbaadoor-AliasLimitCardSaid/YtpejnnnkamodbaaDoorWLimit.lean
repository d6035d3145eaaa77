/- The walk of reportescrowlaw13.AliasLimit: it returns true. -/
import Derived.Test.YtpejnnnkamodbaaDoorWAwake13
import Derived.Test.YtpejnnnkamodbaaDoorWLetters
namespace Go.Proofs.YtpejnnnkamodbaaDoor
open Go Go.RowKit Go.Maps Go.WideMaps Go.Proofs.YtpejnnnkamodbaaDoorW.PrintWords Go.Proofs.YtpejnnnkamodbaaDoorW.PrintLast
open PCanonEqual (S40 k40 z40 rd_T40 at_T40 k40_open k40_mk k40_openM k40_mkM)

/-- An entry of the long list. -/
def LimE (x : S40) : Prop := (∃ c d : UInt8, letB c = true ∧ letB d = true ∧ x.f0 = ⟨#[97, c, d]⟩) ∧ x.f1 = ⟨#[98]⟩ ∧ x.f2 = 0 ∧ x.f3 = false
def newA : S40 := ⟨⟨#[110, 101, 119]⟩, ⟨#[98]⟩, 0, false⟩
theorem newA_right : rightT newA = true := right_words [110, 101, 119] [98] 0 false ⟨by decide, by decide⟩ ⟨by decide, by decide⟩ (by decide) (by decide) (by decide) (by decide) (by decide)
theorem lim_right {x : S40} (h : LimE x) : rightT x = true := by
  obtain ⟨⟨c, d, hc, hd, h0⟩, h1, h2, h3⟩ := h
  obtain ⟨n, o, t, g⟩ := x
  simp only at h0 h1 h2 h3
  subst h0 h1 h2 h3
  exact right_words [97, c, d] [98] 0 false ⟨by simp, by
    intro b hb
    simp only [List.mem_cons, List.not_mem_nil, or_false] at hb
    rcases hb with rfl | rfl | rfl
    · decide
    · exact hc
    · exact hd⟩ ⟨by decide, by decide⟩ (by simp) (by decide) (by simp) (by decide) (by decide)
theorem getD_zero {l : List S40} (h : ∀ x ∈ l, LimE x) (i : Nat) : (l.getD i z40).f2 = 0 := by
  by_cases hi : i < l.length
  · have e : l.getD i z40 = l[i] := by simp [List.getD, hi]
    rw [e]
    exact (h _ (List.getElem_mem hi)).2.2.1
  · simp only [List.getD]
    rw [List.getElem?_eq_none (by omega)]
    rfl
theorem lim_valid {l : List S40} (h : ∀ x ∈ l, LimE x) (hl : l.length ≤ 256) : validT l = true :=
  (valid_iff l).2 ⟨hl, fun a ha => lim_right (h a ha), fun i _ _ => by rw [getD_zero h, getD_zero h]; exact Int.le_refl _⟩
theorem lim_early {l : List S40} (h : ∀ x ∈ l, LimE x) : earlyT l newA = false := by
  unfold earlyT
  rw [getD_zero h]
  simp [newA]
theorem pres_own' (l : List S40) : presT (l ++ [newA]) 0 newA.f0 = some newA := by
  rw [presT_add]
  unfold layA
  simp only [show ¬ newA.f2 > 0 from by decide, if_false, if_true]
  rfl
theorem lim_leads {l : List S40} (h : ∀ x ∈ l, LimE x) : Leads (presT (l ++ [newA]) 0) newA.f0 newA.f1 := by
  have h1 := pres_own' l
  refine .step (a := newA) h1 (.done ?_)
  cases hp : presT (l ++ [newA]) 0 newA.f1 with
  | none => rfl
  | some x =>
    obtain ⟨hm, hk, _⟩ := presT_mem _ 0 _ x hp
    rcases List.mem_append.1 hm with hm | hm
    · obtain ⟨⟨c, d, _, _, h0⟩, _⟩ := h x hm
      rw [h0] at hk
      have := congrArg ByteArray.size hk
      exact absurd this (by show (3 : Nat) ≠ 1; decide)
    · rw [List.mem_singleton.1 hm] at hk
      exact absurd hk (by decide)
theorem lim_255 {l : List S40} {n : Int} (h : ∀ x ∈ l, LimE x) (hl : l.length < 256) (ha : AddT l newA n) : n = 0 :=
  add_val ha (lim_valid h (by omega)) newA_right (lim_early h) hl (Or.inl fun hc => hc ⟨_, lim_leads h⟩ |>.elim)
theorem lim_256 {l : List S40} {n : Int} (h : ∀ x ∈ l, LimE x) (hl : l.length = 256) (ha : AddT l newA n) : n = 3 := by
  rcases ha with ⟨h1 | h1, _⟩ | ⟨_, _, ⟨h1, _⟩ | ⟨_, ⟨_, h1⟩ | ⟨h1, _⟩⟩⟩
  · rw [lim_valid h (by omega)] at h1; cases h1
  · rw [newA_right] at h1; cases h1
  · rw [lim_early h] at h1; cases h1
  · exact h1
  · omega
theorem conv2 (b c : UInt8) (x y : Int) (hx : x = (b.toNat : Int)) (hy : y = (c.toNat : Int)) (w : World) : (convert 35 9 (.slice (some ⟨w.heap.size, 0, none⟩) 2 2)).run Tryd.prog (w.alloc (Obj.cells #[Value.int IntKind.u8 x, Value.int IntKind.u8 y] 5)) = .ok (.string ⟨#[b, c]⟩) (w.alloc (Obj.cells #[Value.int IntKind.u8 x, Value.int IntKind.u8 y] 5)) := by
  subst hx hy
  have hb := heap_alloc_new w (Obj.cells #[Value.int IntKind.u8 (b.toNat : Int), Value.int IntKind.u8 (c.toNat : Int)] 5)
  refine run_convert_bytes_back _ 35 9 5 ⟨w.heap.size, 0, none⟩ 2 [b, c] Tryd.underlying35 Tryd.underlying5 Tryd.underlying9 fun j hj => ?_
  rcases j with _ | _ | j
  · exact (cell_row hb 0).trans rfl
  · exact (cell_row hb 1).trans rfl
  · simp only [List.length_cons, List.length_nil] at hj; omega
theorem letter_of (n : Nat) (h : n < 26) : letB (UInt8.ofNat (97 + n)) = true ∧ ((97 + n : Nat) : Int) = ((UInt8.ofNat (97 + n)).toNat : Int) := by
  have e : (UInt8.ofNat (97 + n)).toNat = 97 + n := by simp; omega
  refine ⟨?_, by rw [e]⟩
  unfold letB letterN
  rw [e]
  simp
  omega
set_option maxHeartbeats 4000000 in
set_option maxRecDepth 100000 in
theorem aliasLimit_walk (x : Int) (w : World) (hT : Tabs w) (hx0 : 0 ≤ x) (_hx1 : x ≤ 255) : Calls Tryd.prog 9 #[.int .u8 x] w fun e w' => e = .returned (.bool true) ∧ Below w.heap.size w w' := by
  obtain ⟨m, hm⟩ : ∃ m : Nat, Int.tmod x 2 = m := ⟨(Int.tmod x 2).toNat, by have := Int.tmod_nonneg 2 hx0; omega⟩
  have hm2 : m < 2 := by have := Int.tmod_lt_of_pos x (b := 2) (by decide); omega
  clear hx0 _hx1
  go_enter Tryd.func9, Tryd.ntmps9
  go_wp2_with fail
  go_loopw [3, 11] (fun v3 v11 wr => ∃ (i : Nat) (l : List S40), i ≤ 255 + m ∧ v11 = .int .i64 i ∧ l.length = i ∧ (∀ x ∈ l, LimE x) ∧ Kd.R k40 40 wr w.heap.size (fun _ => True) v3 l ∧ Below w.heap.size w wr) (fun _ v11 _ => 256 - (intOf v11).toNat)
  case atStart => exact ⟨0, [], by omega, rfl, rfl, fun x hx => by simp at hx, Kd.R_nil _ _ _ _ _, Below.refl _ _⟩
  case round =>
    obtain ⟨i, l, hi, rfl, hll, hLE, hR, hbr⟩ := hrel
    by_cases hlt : i < 255 + m
    · have e0 : decide (i < 255 + m) = true := decide_eq_true hlt
      have e1 : decide ((i : Int) < 255 + (m : Int)) = true := decide_eq_true (by omega)
      replace hLE := Lib.hid hLE
      have hi256 : i < 256 := by omega
      have l1 := letter_of (i % 26) (Nat.mod_lt _ (by decide))
      have l2 := letter_of (i / 26) (by omega)
      have hcv := conv2 (UInt8.ofNat (97 + i % 26)) (UInt8.ofNat (97 + i / 26)) (97 + (i : Int) % 26) (97 + (i : Int) / 26) (by rw [← l1.2]; omega) (by rw [← l2.2]; omega) wr
      have hl1 := Lib.hid l1.1
      have hl2 := Lib.hid l2.1
      clear l1 l2
      generalize UInt8.ofNat (97 + i % 26) = c1 at hcv hl1
      generalize UInt8.ofNat (97 + i / 26) = c2 at hcv hl2
      have hba : Below wr.heap.size wr (wr.alloc (Obj.cells #[Value.int IntKind.u8 (97 + (i : Int) % 26), Value.int IntKind.u8 (97 + (i : Int) / 26)] 5)) := (Below.refl _ _).alloc (Nat.le_refl _) _
      have hRa := Kd.R_below hR hba
      have hbra := hbr.trans (hba.mono hbr.size)
      have hbx0 := heap_alloc_new (wr.alloc (Obj.cells #[Value.int IntKind.u8 (97 + (i : Int) % 26), Value.int IntKind.u8 (97 + (i : Int) / 26)] 5)) (Obj.cells #[Value.string (⟨#[97]⟩ ++ ⟨#[c1, c2]⟩), Value.string ⟨#[98]⟩, Value.int IntKind.i64 0, Value.bool false] 40)
      rw [World.size_alloc] at hbx0
      have hbx := box_reads (a := ⟨⟨#[97]⟩ ++ ⟨#[c1, c2]⟩, ⟨#[98]⟩, 0, false⟩) hbx0
      have hbb : Below wr.heap.size wr ((wr.alloc (Obj.cells #[Value.int IntKind.u8 (97 + (i : Int) % 26), Value.int IntKind.u8 (97 + (i : Int) / 26)] 5)).alloc (Obj.cells #[Value.string (⟨#[97]⟩ ++ ⟨#[c1, c2]⟩), Value.string ⟨#[98]⟩, Value.int IntKind.i64 0, Value.bool false] 40)) := hba.alloc hba.size _
      have hRb := Kd.R_below hR hbb
      have hbrb := hbr.trans (hbb.mono hbr.size)
      clear hbx0 hRa hbra hba hbb
      go_wp2_with (first | (at_builtin; refine Kd.R_append_rows k40 w.heap.size rfl _ _ 36 40 _ 48 rfl Tryd.underlying36 info40 rfl (by decide) (by decide) u3 l [⟨⟨#[97]⟩ ++ ⟨#[c1, c2]⟩, ⟨#[98]⟩, 0, false⟩] (some ⟨wr.heap.size + 1, 0, none⟩) 1 1 (fun _ => True) (fun _ => False) (by rfl) (by rfl) hRb hbx (fun x cs h => k40_free h) (fun k h => h.elim) (fun _ _ => trivial) hbrb hbrb.size (by omega) ?_; intro v6 w6 hR6 hb6 hg6 hat6))
      go_roundw
      case rel =>
        refine ⟨i + 1, l ++ [⟨⟨#[97]⟩ ++ ⟨#[c1, c2]⟩, ⟨#[98]⟩, 0, false⟩], by omega, by go_num, by simp [hll], fun y hy => ?_, hR6, hb6⟩
        rcases List.mem_append.1 hy with hy | hy
        · exact hLE.out y hy
        · rw [List.mem_singleton.1 hy]
          exact ⟨⟨c1, c2, hl1.out, hl2.out, rfl⟩, rfl, rfl, rfl⟩
      case measure => simp [intOf]; omega
    · have e0 : decide (i < 255 + m) = false := decide_eq_false hlt
      have e1 : decide ((i : Int) < 255 + (m : Int)) = false := decide_eq_false (by omega)
      obtain ⟨A3, c3, rfl, hc3, hC3⟩ := Kd.R_reads hR
      have ca := Lib.hid (add_ok A3 c3 l newA wr (hT.below hbr hT.six) hC3)
      replace hLE := Lib.hid hLE
      replace hll := Lib.hid hll
      clear hC3 hR
      go_wp2_with fail
      refine ca.out.mono ?_
      rintro e w4 ⟨⟨v, r, hadd, rfl, hv⟩, hb4⟩
      have hb4' := hbr.trans (hb4.mono hbr.size)
      have cw := Lib.hid (awake13_ok w4 (hT.below hb4' hT.six))
      have hi' : i = 255 + m := by omega
      have hll := hll.out
      clear ca
      by_cases h1 : m = 1
      · have hr3 := lim_256 hLE.out (by omega) hadd
        subst hr3
        have hv' : v = .slice none 0 0 := by
          rcases hv with ⟨_, h⟩ | ⟨h, _⟩
          · exact h
          · cases h
        subst hv' h1
        clear hv hadd hi' hll hlt e0 e1
        go_wp2_with fail
        refine cw.out.mono ?_
        rintro e w5 ⟨rfl, hb5⟩
        go_wp2_with fail
        go_ret
        exact ⟨rfl, hb4'.trans (hb5.mono hb4'.size)⟩
      · obtain rfl : m = 0 := by omega
        have hr0 := lim_255 hLE.out (by omega) hadd
        subst hr0
        have hR4 : Kd.R k40 40 w4 wr.heap.size (fun _ => True) v (l ++ [newA]) := by
          rcases hv with ⟨h, _⟩ | ⟨_, h⟩
          · exact absurd rfl h
          · exact h
        obtain ⟨A5, c5, rfl, hc5, hC5⟩ := Kd.R_reads hR4
        have hlen : (l ++ [newA]).length = 256 := by rw [List.length_append, List.length_singleton]; omega
        rw [hlen]
        clear hv hadd hi' hll hlt e0 e1 hR4 hC5 hc5 h1 hlen
        go_wp2_with fail
        refine cw.out.mono ?_
        rintro e w5 ⟨rfl, hb5⟩
        go_wp2_with fail
        go_ret
        exact ⟨rfl, hb4'.trans (hb5.mono hb4'.size)⟩
#print axioms aliasLimit_walk
end Go.Proofs.YtpejnnnkamodbaaDoor
