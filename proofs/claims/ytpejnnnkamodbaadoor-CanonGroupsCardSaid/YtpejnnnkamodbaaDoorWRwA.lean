/- Merged texts: WRw, WRw2, WRw3, WRw4, WRw5, WRw6, WRw7. -/
import Derived.Test.YtpejnnnkamodbaaDoorWAliasB
import Derived.Shelf.GgClosure.Gives
/- The package rewrite: text, Shortens, right. -/
namespace Go.Proofs.YtpejnnnkamodbaaDoor
open Go Go.RowKit Go.Lib Go.Proofs.YtpejnnnkamodbaaDoorW.PrintWords Go.Proofs.YtpejnnnkamodbaaDoorW.PrintLast

/-- A rune that a rule's text may not have. -/
def strangeR (r : Nat) : Bool := r != 32 && (decide (122 < r) || !letterN r)
set_option maxHeartbeats 4000000 in
theorem strange_ok (x : Nat) (w : World) : Calls Tryd.prog 92 #[.int .i32 x] w fun e w' => e = .returned (.bool (strangeR x)) ∧ ∃ q, w' = w.drewN q := by
  unfold strangeR
  by_cases h1 : x = 32
  · subst h1
    go_enter Tryd.func92, Tryd.ntmps92
    go_wp2_with fail
    go_ret
    exact ⟨rfl, 0, rfl⟩
  · have e1 : ((x : Int) == 32) = false := beq_eq_false_iff_ne.mpr (by omega)
    have e1' : (x != 32) = true := by simpa using h1
    have e1n : ((x : Int) != 32) = true := bne_iff_ne.mpr (by omega)
    by_cases h2 : 122 < x
    · have e2 : decide ((122 : Int) < (x : Int)) = true := decide_eq_true (by omega)
      have e2' : decide (122 < x) = true := decide_eq_true h2
      go_enter Tryd.func92, Tryd.ntmps92
      go_wp2_with fail
      go_ret
      exact ⟨ret_bool (by rw [e1', e2']; rfl), 0, rfl⟩
    · have e2 : decide ((122 : Int) < (x : Int)) = false := decide_eq_false (by omega)
      have e2' : decide (122 < x) = false := decide_eq_false h2
      go_enter Tryd.func92, Tryd.ntmps92
      go_wp2_with fail
      refine (letter_any x (by omega) w).mono ?_
      rintro e w1 ⟨rfl, rfl⟩
      go_wp2_with fail
      go_ret
      exact ⟨ret_bool (by rw [e1', e2']; rfl), 0, rfl⟩
/-- A text of a rule. -/
def textT (s : ByteArray) : Bool := decide (s.size ≤ 256) && !decide (0 ≤ Go.Lib.idxFunc strangeR true s)
set_option maxHeartbeats 4000000 in
theorem index_ok (s : ByteArray) (w : World) : Calls Tryd.prog 110 #[.string s, .func (.func 92) #[] #[]] w fun e w' => e = .returned (.int .i64 (Go.Lib.idxFunc strangeR true s)) ∧ Below w.heap.size w w' := by
  have eg : ∀ (args : Array Value) (w : World), (callFunc 92 args).run Tryd.prog w = .ok (.enter 92 args) w := fun args w => by
    exact enters_ Tryd.func92 (by kernel_rfl) rfl args w
  have ci := Lib.hid (fun w => Tryd.strings_indexFunc 92 #[] eg strangeR true s w (fun W x _ => by
    unfold FnGives
    simpa using strange_ok x W))
  clear eg
  go_enter Tryd.func110, Tryd.ntmps110
  go_wp2_with fail
  refine (ci.out _).mono ?_
  rintro e w1 ⟨rfl, hb1⟩
  go_wp2_with fail
  go_ret
  exact ⟨rfl, hb1⟩
set_option maxHeartbeats 4000000 in
theorem contains_ok (s : ByteArray) (w : World) : Calls Tryd.prog 93 #[.string s, .func (.func 92) #[] #[]] w fun e w' => e = .returned (.bool (decide (0 ≤ Go.Lib.idxFunc strangeR true s))) ∧ Below w.heap.size w w' := by
  have ci := Lib.hid (index_ok s w)
  generalize Go.Lib.idxFunc strangeR true s = z at ci ⊢
  go_enter Tryd.func93, Tryd.ntmps93
  go_wp2_with fail
  refine ci.out.mono ?_
  rintro e w1 ⟨rfl, hb1⟩
  go_wp2_with fail
  go_ret
  exact ⟨rfl, hb1⟩
set_option maxHeartbeats 4000000 in
theorem text_ok (s : ByteArray) (w : World) : Calls Tryd.prog 80 #[.string s] w fun e w' => e = .returned (.bool (textT s)) ∧ Below w.heap.size w w' := by
  have cc := Lib.hid (contains_ok s w)
  unfold textT
  generalize decide (0 ≤ Go.Lib.idxFunc strangeR true s) = z at cc ⊢
  by_cases h : s.size ≤ 256
  · have e1 : decide (s.size ≤ 256) = true := decide_eq_true h
    have h' : (s.size : Int) ≤ 256 := by omega
    go_enter Tryd.func80, Tryd.ntmps80
    go_wp2_with fail
    refine cc.out.mono ?_
    rintro e w1 ⟨rfl, hb1⟩
    go_wp2_with fail
    go_ret
    exact ⟨ret_bool (by rw [e1]; simp), hb1⟩
  · have e1 : decide (s.size ≤ 256) = false := decide_eq_false h
    have h' : ¬ (s.size : Int) ≤ 256 := by omega
    go_enter Tryd.func80, Tryd.ntmps80
    go_wp2_with fail
    go_ret
    exact ⟨ret_bool (by first | rfl | (rw [e1]; rfl)), Below.refl _ _⟩
end Go.Proofs.YtpejnnnkamodbaaDoor
/- The package rewrite: Shortens, right. -/
namespace Go.Proofs.YtpejnnnkamodbaaDoor
open Go Go.RowKit Go.Lib Go.Proofs.YtpejnnnkamodbaaDoorW.PrintWords Go.Proofs.YtpejnnnkamodbaaDoorW.PrintLast
open PCanonEqual (S49 k49 z49 rd_T49 at_T49 k49_open k49_mk k49_openM k49_mkM)

/-- Does a rule lead to an end. -/
def shortT (r : S49) : Bool := decide (r.f1.size < r.f0.size) || (decide (r.f1.size = 1) && (decide (r.f0.size = 1) && Op.bytesLess r.f1.toList r.f0.toList))
set_option maxHeartbeats 4000000 in
theorem shortens_ok (r : S49) (w : World) : Calls Tryd.prog 81 #[.agg #[.string r.f0, .string r.f1, .int .i64 r.f2]] w fun e w' => e = .returned (.bool (shortT r)) ∧ Below w.heap.size w w' := by
  obtain ⟨f, t, i⟩ := r
  simp only
  have hb : Below w.heap.size w (w.alloc (Obj.cells #[Value.string f, Value.string t, Value.int IntKind.i64 i] 49)) := (Below.refl _ _).alloc (Nat.le_refl _) _
  go_enter Tryd.func81, Tryd.ntmps81
  go_wp2_with fail
  all_goals
    go_ret
    refine ⟨ret_bool ?_, hb⟩
    simp only [shortT]
    generalize Op.bytesLess t.toList f.toList = b
    cases b <;> simp <;> omega
/-- Is a rule right. -/
def ruleT (r : S49) : Bool := !r.f0.toList.isEmpty && textT r.f0 && textT r.f1 && decide (0 ≤ r.f2) && decide (r.f2 ≤ 3) && shortT r
set_option maxHeartbeats 4000000 in
theorem rule_ok (r : S49) (w : World) : Calls Tryd.prog 60 #[.agg #[.string r.f0, .string r.f1, .int .i64 r.f2]] w fun e w' => e = .returned (.bool (ruleT r)) ∧ Below w.heap.size w w' := by
  obtain ⟨f, t, i⟩ := r
  simp only
  have hb0 : Below w.heap.size w (w.alloc (Obj.cells #[Value.string f, Value.string t, Value.int IntKind.i64 i] 49)) := (Below.refl _ _).alloc (Nat.le_refl _) _
  have hk0 := heap_alloc_new w (Obj.cells #[Value.string f, Value.string t, Value.int IntKind.i64 i] 49)
  have c0 := fun w => text_ok f w
  have c1 := fun w => text_ok t w
  have c2 := fun w => shortens_ok ⟨f, t, i⟩ w
  unfold ruleT
  simp only at c2 ⊢
  generalize textT f = x0 at c0 ⊢
  generalize textT t = x1 at c1 ⊢
  generalize shortT ⟨f, t, i⟩ = x2 at c2 ⊢
  replace c0 := Lib.hid c0
  replace c1 := Lib.hid c1
  replace c2 := Lib.hid c2
  by_cases hf : f.toList = []
  · have hf' : f.toList.isEmpty = true := by simpa using hf
    go_enter Tryd.func60, Tryd.ntmps60
    go_wp2_with fail
    go_ret
    exact ⟨ret_bool (by simp [hf]), hb0⟩
  · have hf' : f.toList.isEmpty = false := by simpa using hf
    have hf2 : (f.toList = []) = False := eq_false hf
    clear hf
    go_enter Tryd.func60, Tryd.ntmps60
    go_wp2_with fail
    refine (c0.out _).mono ?_
    rintro e w1 ⟨rfl, hb1⟩
    have hb1' := hb0.trans (hb1.mono hb0.size)
    have hk1 := (hb1.block _ (by rw [World.size_alloc]; omega)).trans hk0
    cases x0
    · go_wp2_with fail
      go_ret
      exact ⟨ret_bool (by simp), hb1'⟩
    · have k11 : w1.cell? ⟨w.heap.size, 1, none⟩ = some (.string t) := (cell_row hk1 1).trans rfl
      go_wp2_with fail
      refine (c1.out _).mono ?_
      rintro e w2 ⟨rfl, hb2⟩
      have hb2' := hb1'.trans (hb2.mono hb1'.size)
      have hk2 := (hb2.block _ (Array.getElem?_eq_some_iff.1 hk1).1).trans hk1
      cases x1
      · go_wp2_with fail
        go_ret
        exact ⟨ret_bool (by simp), hb2'⟩
      · have k20 : w2.cell? ⟨w.heap.size, 0, none⟩ = some (.string f) := (cell_row hk2 0).trans rfl
        have k21 : w2.cell? ⟨w.heap.size, 1, none⟩ = some (.string t) := (cell_row hk2 1).trans rfl
        have k22 : w2.cell? ⟨w.heap.size, 2, none⟩ = some (.int .i64 i) := (cell_row hk2 2).trans rfl
        clear hk1 hk2 hk0 k11
        by_cases h0 : 0 ≤ i
        · by_cases h3 : i ≤ 3
          · have e0 : decide (0 ≤ i) = true := decide_eq_true h0
            have e3 : decide (i ≤ 3) = true := decide_eq_true h3
            go_wp2_with fail
            refine (c2.out _).mono ?_
            rintro e w3 ⟨rfl, hb3⟩
            go_wp2_with fail
            go_ret
            exact ⟨ret_bool (by simp [h0, h3, hf']), hb2'.trans (hb3.mono hb2'.size)⟩
          · have e0 : decide (0 ≤ i) = true := decide_eq_true h0
            have e3 : decide (i ≤ 3) = false := decide_eq_false h3
            go_wp2_with fail
            go_ret
            exact ⟨ret_bool (by simp; omega), hb2'⟩
        · have e0 : decide (0 ≤ i) = false := decide_eq_false h0
          go_wp2_with fail
          go_ret
          exact ⟨ret_bool (by simp; omega), hb2'⟩
#print axioms rule_ok
end Go.Proofs.YtpejnnnkamodbaaDoor
/- The package rewrite: IndexFunc, ContainsFunc and Valid over rules. -/
namespace Go.Proofs.YtpejnnnkamodbaaDoor
open Go Go.RowKit Go.Lib Go.Proofs.YtpejnnnkamodbaaDoorW.PrintWords Go.Proofs.YtpejnnnkamodbaaDoorW.PrintLast
open PCanonEqual (S49 k49 z49 rd_T49 at_T49 k49_open k49_mk k49_openM k49_mkM)

/-- The first place at which p holds; -1: none. -/
def firstI (p : S49 → Bool) : List S49 → Nat → Int
  | [], _ => -1
  | x :: l, i => if p x then (i : Int) else firstI p l (i + 1)
theorem firstI_drop (p : S49 → Bool) (l : List S49) (i : Nat) (h : i < l.length) : firstI p (l.drop i) i = if p (l.getD i z49) then (i : Int) else firstI p (l.drop (i + 1)) (i + 1) := by
  rw [List.drop_eq_getElem_cons h]
  simp [firstI, List.getD, h]
theorem firstI_none (p : S49 → Bool) : ∀ (l : List S49) (i : Nat), (∀ x ∈ l, p x = false) → firstI p l i = -1
  | [], _, _ => rfl
  | x :: l, i, h => by
    simp only [firstI]
    rw [if_neg (by rw [h x List.mem_cons_self]; simp)]
    exact firstI_none p l (i + 1) (fun y hy => h y (List.mem_cons_of_mem _ hy))
theorem firstI_some (p : S49 → Bool) : ∀ (l : List S49) (i : Nat), (∃ x ∈ l, p x = true) → (i : Int) ≤ firstI p l i
  | [], _, h => by obtain ⟨x, hx, _⟩ := h; simp at hx
  | x :: l, i, h => by
    simp only [firstI]
    by_cases hp : p x = true
    · rw [if_pos hp]; exact Int.le_refl _
    · rw [if_neg hp]
      have := firstI_some p l (i + 1) (by
        obtain ⟨y, hy, hpy⟩ := h
        rcases List.mem_cons.1 hy with rfl | hy
        · exact absurd hpy hp
        · exact ⟨y, hy, hpy⟩)
      omega
set_option maxHeartbeats 4000000 in
theorem not_right_ok (r : S49) (w : World) : Calls Tryd.prog 59 #[.agg #[.string r.f0, .string r.f1, .int .i64 r.f2]] w fun e w' => e = .returned (.bool (!ruleT r)) ∧ Below w.heap.size w w' := by
  obtain ⟨f, t, i⟩ := r
  simp only
  have hb0 : Below w.heap.size w (w.alloc (Obj.cells #[Value.string f, Value.string t, Value.int IntKind.i64 i] 49)) := (Below.refl _ _).alloc (Nat.le_refl _) _
  have c0 := Lib.hid (fun w => rule_ok ⟨f, t, i⟩ w)
  generalize ruleT ⟨f, t, i⟩ = x0 at c0 ⊢
  go_enter Tryd.func59, Tryd.ntmps59
  go_wp2_with fail
  refine (c0.out _).mono ?_
  rintro e w1 ⟨rfl, hb1⟩
  go_wp2_with fail
  go_ret
  exact ⟨rfl, hb0.trans (hb1.mono hb0.size)⟩
set_option maxHeartbeats 4000000 in
set_option maxRecDepth 100000 in
theorem index59_ok (A : Option Addr) (c : Nat) (l : List S49) (w : World) (hr : Kd.C k49 w A l.length l) (hl : l.length ≤ 1000000) :
    Calls Tryd.prog 79 #[.slice A l.length c, .func (.func 59) #[] #[]] w fun e w' => e = .returned (.int .i64 (firstI (fun r => !ruleT r) l 0)) ∧ Below w.heap.size w w' := by
  generalize hF : firstI (fun r => !ruleT r) l 0 = F
  replace hr := Lib.hid hr
  replace hF := Lib.hid hF
  go_enter Tryd.func79, Tryd.ntmps79
  go_wp2_with fail
  go_loopw [8] (fun v8 wr => ∃ i : Nat, i ≤ l.length ∧ v8 = .int .i64 i ∧ Aside (firstI (fun r => !ruleT r) (l.drop i) i = F) ∧ Below w.heap.size w wr) (fun v8 _ => l.length - (intOf v8).toNat)
  case atStart => exact ⟨0, Nat.zero_le _, rfl, hF.out, Below.refl _ _⟩
  case round =>
    obtain ⟨i, hi, rfl, hv, hbr⟩ := hrel
    by_cases hlt : i < l.length
    · have e3 : decide (i < l.length) = true := decide_eq_true hlt
      have hrr : Kd.C k49 _ A l.length l := Kd.C_below hr.out hbr
      obtain ⟨ad, rfl, d0, d1, d2⟩ := at_T49 hrr i (by omega) (by omega)
      rw [Int.toNat_natCast] at d0 d1 d2
      have hst := firstI_drop (fun r => !ruleT r) l i hlt
      rw [hv.out] at hst
      have hra : rd_T49 l i = l.getD i z49 := by simp [rd_T49]
      rw [hra] at d0 d1 d2
      generalize l.getD i z49 = r at d0 d1 d2 hst
      have c0 := Lib.hid (fun w => not_right_ok r w)
      obtain ⟨f, t, a⟩ := r
      dsimp only at hst c0
      replace c0 := Lib.hid (fun w => c0.out w)
      cases hR : ruleT ⟨f, t, a⟩ with
      | true =>
        rw [hR] at hst
        replace c0 := Lib.hid (fun w => by have := c0.out w; rw [hR] at this; exact this)
        replace hst := Lib.hid hst
        clear hrr hra
        go_wp2_with fail
        refine (c0.out _).mono ?_
        rintro e w1 ⟨rfl, hb1⟩
        go_wp2_with fail
        go_roundw
        case rel => exact ⟨i + 1, by omega, by go_num, by have := hst.out; simp at this; exact this.symm, hbr.trans (hb1.mono hbr.size)⟩
        case measure => simp [intOf]; omega
      | false =>
        rw [hR] at hst
        replace c0 := Lib.hid (fun w => by have := c0.out w; rw [hR] at this; exact this)
        replace hst := Lib.hid hst
        clear hrr hra
        go_wp2_with fail
        refine (c0.out _).mono ?_
        rintro e w1 ⟨rfl, hb1⟩
        go_wp2_with fail
        go_ret
        exact ⟨by have := hst.out; simp at this; rw [this]; rfl, hbr.trans (hb1.mono hbr.size)⟩
    · have e3 : decide (i < l.length) = false := decide_eq_false hlt
      obtain rfl : i = l.length := by omega
      have hv' := hv.out
      rw [List.drop_length] at hv'
      replace hv' := Lib.hid hv'
      go_wp2_with fail
      go_ret
      exact ⟨by rw [← hv'.out]; rfl, hbr⟩
/-- Are rules valid. -/
def rulesT (l : List S49) : Bool := decide (l.length ≤ 32) && !decide (0 ≤ firstI (fun r => !ruleT r) l 0)
theorem rulesT_iff (l : List S49) : rulesT l = true ↔ l.length ≤ 32 ∧ ∀ r ∈ l, ruleT r = true := by
  unfold rulesT
  simp only [Bool.and_eq_true, decide_eq_true_eq, Bool.not_eq_true', decide_eq_false_iff_not]
  constructor
  · rintro ⟨h1, h2⟩
    refine ⟨h1, fun r hr => ?_⟩
    cases hR : ruleT r with
    | true => rfl
    | false => exact absurd (firstI_some (fun r => !ruleT r) l 0 ⟨r, hr, by rw [hR]; rfl⟩) h2
  · rintro ⟨h1, h2⟩
    refine ⟨h1, ?_⟩
    rw [firstI_none _ l 0 (fun x hx => by rw [h2 x hx]; rfl)]
    decide
set_option maxHeartbeats 4000000 in
theorem contains58_ok (A : Option Addr) (c : Nat) (l : List S49) (w : World) (hr : Kd.C k49 w A l.length l) (hl : l.length ≤ 1000000) :
    Calls Tryd.prog 58 #[.slice A l.length c, .func (.func 59) #[] #[]] w fun e w' => e = .returned (.bool (decide (0 ≤ firstI (fun r => !ruleT r) l 0))) ∧ Below w.heap.size w w' := by
  have ci := Lib.hid (index59_ok A c l w hr hl)
  replace hr := Lib.hid hr
  generalize firstI (fun r => !ruleT r) l 0 = z at ci ⊢
  go_enter Tryd.func58, Tryd.ntmps58
  go_wp2_with fail
  refine ci.out.mono ?_
  rintro e w1 ⟨rfl, hb1⟩
  go_wp2_with fail
  go_ret
  exact ⟨rfl, hb1⟩
set_option maxHeartbeats 4000000 in
theorem rules_valid_ok (A : Option Addr) (c : Nat) (l : List S49) (w : World) (hr : Kd.C k49 w A l.length l) :
    Calls Tryd.prog 33 #[.slice A l.length c] w fun e w' => e = .returned (.bool (rulesT l)) ∧ Below w.heap.size w w' := by
  unfold rulesT
  by_cases h : l.length ≤ 32
  · have ci := Lib.hid (contains58_ok A c l w hr (by omega))
    have e1 : decide (l.length ≤ 32) = true := decide_eq_true h
    have e2 : decide ((l.length : Int) ≤ 32) = true := decide_eq_true (by omega)
    have h' : (l.length : Int) ≤ 32 := by omega
    replace hr := Lib.hid hr
    generalize decide (0 ≤ firstI (fun r => !ruleT r) l 0) = z at ci ⊢
    go_enter Tryd.func33, Tryd.ntmps33
    go_wp2_with fail
    refine ci.out.mono ?_
    rintro e w1 ⟨rfl, hb1⟩
    go_wp2_with fail
    go_ret
    exact ⟨ret_bool (by first | rfl | (rw [e1]; simp; done) | simp), hb1⟩
  · have e1 : decide (l.length ≤ 32) = false := decide_eq_false h
    have e2 : decide ((l.length : Int) ≤ 32) = false := decide_eq_false (by omega)
    have h' : ¬ (l.length : Int) ≤ 32 := by omega
    replace hr := Lib.hid hr
    go_enter Tryd.func33, Tryd.ntmps33
    go_wp2_with fail
    go_ret
    exact ⟨ret_bool (by first | rfl | (rw [e1]; rfl)), Below.refl _ _⟩
#print axioms rules_valid_ok
end Go.Proofs.YtpejnnnkamodbaaDoor
/- The package rewrite: at. -/
namespace Go.Proofs.YtpejnnnkamodbaaDoor
open Go Go.RowKit Go.Lib Go.Proofs.YtpejnnnkamodbaaDoorW.PrintWords Go.Proofs.YtpejnnnkamodbaaDoorW.PrintLast
open PCanonEqual (S49 k49 z49 rd_T49 at_T49 k49_open k49_mk k49_openM k49_mkM)
/-- Does a rule match at place i. -/
def atT (r : S49) (s : ByteArray) (i : Nat) : Bool :=
  Lib.hasPrefix (s.extract i s.size).data.toList r.f0.data.toList &&
    (if r.f2 = 0 then true else if r.f2 = 1 then decide (i = 0) else if r.f2 = 2 then decide (i + r.f0.size = s.size)
     else if r.f2 = 3 then (decide (i = 0) || s.data.toList.getD (i - 1) 0 == 32) && (decide (i + r.f0.size = s.size) || s.data.toList.getD (i + r.f0.size) 0 == 32) else false)
theorem prefix_len (s f : ByteArray) (i : Nat) (hi : i ≤ s.size) (h : Lib.hasPrefix (s.extract i s.size).data.toList f.data.toList = true) : i + f.size ≤ s.size := by
  unfold Lib.hasPrefix at h
  have h1 := (List.isPrefixOf_iff_prefix.1 h).length_le
  have h2 : (s.extract i s.size).data.toList.length = s.size - i := by
    have := ByteArray.size_extract (a := s) (b := i) (e := s.size)
    have e : (s.extract i s.size).data.toList.length = (s.extract i s.size).size := by simp
    rw [e, this]
    omega
  have h3 : f.data.toList.length = f.size := by simp
  omega
theorem byte32 (x : UInt8) : ((x.toNat : Int) = 32) ↔ x = 32 := by
  constructor
  · intro h
    have h' : x.toNat = (32 : UInt8).toNat := by
      have : (32 : UInt8).toNat = 32 := rfl
      omega
    exact UInt8.toNat_inj.1 h'
  · rintro rfl; rfl
theorem byte32' (x : UInt8) : (((x.toNat : Int)) == 32) = (x == 32) := by
  rw [Bool.eq_iff_iff, beq_iff_eq, beq_iff_eq]
  exact byte32 x
theorem int_beq (a b : Nat) : ((a : Int) == (b : Int)) = decide (a = b) := by
  rw [Bool.eq_iff_iff, beq_iff_eq, decide_eq_true_eq]
  omega
theorem int_beq2 (a b c : Nat) : ((a : Int) + (b : Int) == (c : Int)) = decide (a + b = c) := by
  rw [Bool.eq_iff_iff, beq_iff_eq, decide_eq_true_eq]
  omega
theorem getD_byte (s : ByteArray) (j : Nat) (h : j < s.size) : s.data.toList.getD j 0 = s[j] := by
  have h' : j < s.data.toList.length := by simpa using h
  rw [List.getD_eq_getElem?_getD, List.getElem?_eq_getElem h']
  simp
  rfl
theorem at_no {r : S49} {s : ByteArray} {i : Nat} (h : Lib.hasPrefix (s.extract i s.size).data.toList r.f0.data.toList = false) : atT r s i = false := by
  unfold atT
  rw [h]
  rfl
theorem at_word {f t : ByteArray} {s : ByteArray} {i : Nat} (h : Lib.hasPrefix (s.extract i s.size).data.toList f.data.toList = true) :
    atT ⟨f, t, 3⟩ s i = ((decide (i = 0) || s.data.toList.getD (i - 1) 0 == 32) && (decide (i + f.size = s.size) || s.data.toList.getD (i + f.size) 0 == 32)) := by
  unfold atT
  simp only [h, Bool.true_and]
  rfl
set_option maxHeartbeats 4000000 in
set_option maxRecDepth 100000 in
set_option linter.unusedSimpArgs false in
theorem at_ok (r : S49) (s : ByteArray) (i : Nat) (w : World) (hi : i ≤ s.size) (hs : s.size ≤ 1000000) (hf : r.f0.size ≤ 1000000) : Calls Tryd.prog 90 #[.agg #[.string r.f0, .string r.f1, .int .i64 r.f2], .string s, .int .i64 i] w fun e w' => e = .returned (.bool (atT r s i)) ∧ Below w.heap.size w w' := by
  obtain ⟨f, t, a⟩ := r
  simp only at hf ⊢
  generalize hX : atT ⟨f, t, a⟩ s i = X
  replace hX := Lib.hid hX
  have hi' : (i : Int) ≤ (s.size : Int) := by omega
  have hi0 : (0 : Int) ≤ (i : Int) := by omega
  have hb0 : Below w.heap.size w (w.alloc (Obj.cells #[Value.string f, Value.string t, Value.int IntKind.i64 a] 49)) := (Below.refl _ _).alloc (Nat.le_refl _) _
  have hk0 := heap_alloc_new w (Obj.cells #[Value.string f, Value.string t, Value.int IntKind.i64 a] 49)
  have ch := Lib.hid (fun w => Tryd.strings_HasPrefix (s.extract i s.size) f w)
  generalize hhp : Lib.hasPrefix (s.extract i s.size).data.toList f.data.toList = hp at ch
  replace hhp := Lib.hid hhp
  go_enter Tryd.func90, Tryd.ntmps90
  go_wp2_with fail
  generalize w.alloc (Obj.cells #[Value.string f, Value.string t, Value.int IntKind.i64 a] 49) = w0 at hb0 hk0 ⊢
  refine start_ (n := 7) (S := fun w' => w'.cell? ⟨w.heap.size, 0, none⟩ = some (.string f) ∧ w'.cell? ⟨w.heap.size, 2, none⟩ = some (.int .i64 a)) (ds := []) #[false, false, false, false, false, false, false] (by kernel_rfl) rfl rfl ⟨(cell_row hk0 0).trans rfl, (cell_row hk0 2).trans rfl⟩ (fun hHeld => ?_)
  refine pure_ (i := 0) (N := some 8) (v := ?_) (a' := ?_) #[true, false, false, false, false, false, false] rfl rfl (by kernel_rfl) (fun _ _ _ h => h) (Or.inl ⟨by rfl, ?_⟩) ?_ ?_
  rotate_left
  · intro w'
    go_simp
    with_reducible rfl
  rotate_left
  · simp only [Act.put, List.setIfInBounds_toArray, List.set_cons_zero, List.set_cons_succ, i64_w, i32_w]
    rfl
  refine pure_ (i := 1) (N := some 9) (v := ?_) (a' := ?_) #[true, true, false, false, false, false, false] rfl rfl (by kernel_rfl) (fun _ _ _ h => h) (Or.inl ⟨by rfl, ?_⟩) ?_ ?_
  rotate_left
  · intro w'
    go_simp
    with_reducible rfl
  rotate_left
  · simp only [Act.put, List.setIfInBounds_toArray, List.set_cons_zero, List.set_cons_succ, i64_w, i32_w]
    rfl
  refine pure_ (i := 2) (N := some 10) (v := ?_) (a' := ?_) #[true, true, true, false, false, false, false] rfl rfl (by kernel_rfl) (fun _ _ _ h => h) (Or.inl ⟨by rfl, ?_⟩) ?_ ?_
  rotate_left
  · intro w'
    go_simp
    with_reducible rfl
  rotate_left
  · simp only [Act.put, List.setIfInBounds_toArray, List.set_cons_zero, List.set_cons_succ, i64_w, i32_w]
    rfl
  refine pure_ (i := 3) (N := some 11) (v := ?_) (a' := ?_) #[true, true, true, true, false, false, false] rfl rfl (by kernel_rfl) (fun _ _ _ h => h) (Or.inl ⟨by rfl, ?_⟩) ?_ ?_
  rotate_left
  · intro w'
    go_simp
    with_reducible rfl
  rotate_left
  · simp only [Act.put, List.setIfInBounds_toArray, List.set_cons_zero, List.set_cons_succ, i64_w, i32_w]
    rfl
  refine take_ (i := 4) (N := some 12) (v := ?_) (a' := ?_) #[true, true, true, true, true, false, false] rfl rfl (by kernel_rfl) (fun _ _ _ h => h) (Or.inl ⟨by rfl, ?_⟩) hHeld ?_ ?_
  rotate_left
  · rintro w' ⟨s0, s1⟩
    go_simp
    with_reducible rfl
  rotate_left
  · simp only [Act.put, List.setIfInBounds_toArray, List.set_cons_zero, List.set_cons_succ, i64_w, i32_w]
    rfl
  refine one_ (i := 5) (N := some 13) #[true, true, true, true, true, true, false] rfl rfl (by kernel_rfl) (by decide) (fun K hK => ?_)
  refine goes_ Tryd.func109 (by kernel_rfl) rfl #[.string (s.extract i s.size), .string f] (by rfl) rfl rfl (by simp only [List.map_toArray, List.map_cons, List.map_nil]; rfl) ?_
  with_reducible refine (ch.out _).mono ?_
  rintro e w3 ⟨rfl, rfl⟩
  refine ⟨_, rfl, ?_⟩
  refine hK.out _ _ ⟨hHeld.1, hHeld.2⟩ (fun hHeld => ?_)
  clear hK K
  refine norm_ (a' := ?_) ?_ ?_
  rotate_left
  · show Act.put _ (some 13) _ = _
    simp only [Act.put, List.setIfInBounds_toArray, List.set_cons_zero, List.set_cons_succ, i64_w, i32_w]
    rfl
  refine pure_ (i := 6) (N := some 14) (v := ?_) (a' := ?_) #[true, true, true, true, true, true, true] rfl rfl (by kernel_rfl) (fun _ _ _ h => h) (Or.inl ⟨by rfl, ?_⟩) ?_ ?_
  rotate_left
  · intro w'
    go_simp
    with_reducible rfl
  rotate_left
  · simp only [Act.put, List.setIfInBounds_toArray, List.set_cons_zero, List.set_cons_succ, i64_w, i32_w]
    rfl
  refine done_ (by kernel_rfl) ?_
  have hbd : Below w.heap.size w w0.drew := hb0.drew
  have q0 := hHeld.1
  have q2 := hHeld.2
  clear hHeld ch
  cases hp
  · go_wp2_with fail
    go_ret
    exact ⟨ret_bool (by rw [← hX.out]; exact (at_no hhp.out).symm), hbd⟩
  · have hlen : i + f.size ≤ s.size := prefix_len s f i hi hhp.out
    clear hk0 hb0
    by_cases h0 : a = 0
    · subst h0
      go_wp2_with fail
      go_ret
      exact ⟨ret_bool (by rw [← hX.out]; unfold atT; rw [hhp.out]; rfl), hbd⟩
    · by_cases h1 : a = 1
      · subst h1
        clear h0
        go_wp2_with fail
        go_ret
        exact ⟨ret_bool (by rw [← hX.out]; unfold atT; rw [hhp.out]; by_cases h : i = 0 <;> simp [h]), hbd⟩
      · by_cases h2 : a = 2
        · subst h2
          clear h0 h1
          go_wp2_with fail
          go_ret
          exact ⟨ret_bool (by rw [← hX.out]; unfold atT; rw [hhp.out]; by_cases h : i + f.size = s.size <;> simp [h] <;> omega), hbd⟩
        · by_cases h3 : a = 3
          · subst h3
            clear h0 h1 h2
            have hw := hX.out
            rw [at_word hhp.out] at hw
            replace hw := Lib.hid hw
            go_wp2_with fail
            all_goals
              go_ret
              refine ⟨ret_bool ?_, hbd⟩
              rw [← hw.out]
              try (rw [getD_byte s (i - 1) (by omega)])
              try (rw [getD_byte s (i + f.size) (by omega)])
              try simp only [byte32, byte32'] at *
              try simp_all
              try omega
              all_goals (first | rw [int_beq2] | rw [int_beq])
          · have e0 : (a == 0) = false := beq_eq_false_iff_ne.mpr h0
            have e1 : (a == 1) = false := beq_eq_false_iff_ne.mpr h1
            have e2 : (a == 2) = false := beq_eq_false_iff_ne.mpr h2
            have e3 : (a == 3) = false := beq_eq_false_iff_ne.mpr h3
            have hfin : X = false := by
              rw [← hX.out]
              unfold atT
              rw [hhp.out]
              simp only
              rw [if_neg h0, if_neg h1, if_neg h2, if_neg h3]
              rfl
            replace hfin := Lib.hid hfin
            clear h0 h1 h2 h3
            go_wp2_with fail
            go_ret
            exact ⟨ret_bool hfin.out.symm, hbd⟩
#print axioms at_ok
end Go.Proofs.YtpejnnnkamodbaaDoor
/- The package rewrite: IndexFunc under Once. -/
namespace Go.Proofs.YtpejnnnkamodbaaDoor
open Go Go.RowKit Go.Lib Go.Proofs.YtpejnnnkamodbaaDoorW.PrintWords Go.Proofs.YtpejnnnkamodbaaDoorW.PrintLast
open PCanonEqual (S49 k49 z49 rd_T49 at_T49 k49_open k49_mk k49_openM k49_mkM)
set_option maxHeartbeats 4000000 in
theorem once1_ok (r : S49) (s : ByteArray) (n : Nat) (w : World) (ps pi : Nat) (hs1 : w.cell? ⟨ps, 0, none⟩ = some (.string s)) (hs2 : w.cell? ⟨pi, 0, none⟩ = some (.int .i64 n)) (hn : n ≤ s.size) (hss : s.size ≤ 1000000) (hf : r.f0.size ≤ 1000000) :
    Calls Tryd.prog 89 #[.agg #[.string r.f0, .string r.f1, .int .i64 r.f2], .pointer (some ⟨ps, 0, none⟩), .pointer (some ⟨pi, 0, none⟩)] w fun e w' => e = .returned (.bool (atT r s n)) ∧ Below w.heap.size w w' := by
  have hb0 : Below w.heap.size w (w.alloc (Obj.cells #[Value.string r.f0, Value.string r.f1, Value.int IntKind.i64 r.f2] 49)) := (Below.refl _ _).alloc (Nat.le_refl _) _
  have c0 := Lib.hid (fun w => at_ok r s n w hn hss hf)
  have k1 := pw_cell_below hb0 hs1
  have k2 := pw_cell_below hb0 hs2
  obtain ⟨f, t, i⟩ := r
  simp only at hf hb0 c0 k1 k2 ⊢
  generalize atT ⟨f, t, i⟩ s n = x0 at c0 ⊢
  go_enter Tryd.func89, Tryd.ntmps89
  go_wp2_with fail
  refine (c0.out _).mono ?_
  rintro e w1 ⟨rfl, hb1⟩
  go_wp2_with fail
  go_ret
  exact ⟨rfl, hb0.trans (hb1.mono hb0.size)⟩
set_option maxHeartbeats 4000000 in
set_option maxRecDepth 100000 in
theorem index89_ok (A : Option Addr) (c : Nat) (l : List S49) (w : World) (hr : Kd.C k49 w A l.length l) (hl : l.length ≤ 1000000) (s : ByteArray) (n : Nat) (ps pi : Nat) (hs1 : w.cell? ⟨ps, 0, none⟩ = some (.string s)) (hs2 : w.cell? ⟨pi, 0, none⟩ = some (.int .i64 n)) (hn : n ≤ s.size) (hss : s.size ≤ 1000000) (hrs : ∀ r ∈ l, r.f0.size ≤ 1000000) :
    Calls Tryd.prog 79 #[.slice A l.length c, .func (.func 89) #[] #[.pointer (some ⟨ps, 0, none⟩), .pointer (some ⟨pi, 0, none⟩)]] w fun e w' => e = .returned (.int .i64 (firstI (fun r => atT r s n) l 0)) ∧ Below w.heap.size w w' := by
  generalize hF : firstI (fun r => atT r s n) l 0 = F
  replace hr := Lib.hid hr
  replace hs1 := Lib.hid hs1
  replace hs2 := Lib.hid hs2
  replace hrs := Lib.hid hrs
  replace hF := Lib.hid hF
  go_enter Tryd.func79, Tryd.ntmps79
  go_wp2_with fail
  go_loopw [8] (fun v8 wr => ∃ i : Nat, i ≤ l.length ∧ v8 = .int .i64 i ∧ Aside (firstI (fun r => atT r s n) (l.drop i) i = F) ∧ Below w.heap.size w wr) (fun v8 _ => l.length - (intOf v8).toNat)
  case atStart => exact ⟨0, Nat.zero_le _, rfl, hF.out, Below.refl _ _⟩
  case round =>
    obtain ⟨i, hi, rfl, hv, hbr⟩ := hrel
    by_cases hlt : i < l.length
    · have e3 : decide (i < l.length) = true := decide_eq_true hlt
      have hrr : Kd.C k49 _ A l.length l := Kd.C_below hr.out hbr
      obtain ⟨ad, rfl, d0, d1, d2⟩ := at_T49 hrr i (by omega) (by omega)
      rw [Int.toNat_natCast] at d0 d1 d2
      have hst := firstI_drop (fun r => atT r s n) l i hlt
      rw [hv.out] at hst
      have hra : rd_T49 l i = l.getD i z49 := by simp [rd_T49]
      rw [hra] at d0 d1 d2
      have hrf := hrs.out (l.getD i z49) (by rw [List.getD_eq_getElem?_getD, List.getElem?_eq_getElem hlt]; exact List.getElem_mem hlt)
      generalize l.getD i z49 = r at d0 d1 d2 hst hrf
      have c0 := Lib.hid (once1_ok r s n wr ps pi (pw_cell_below hbr hs1.out) (pw_cell_below hbr hs2.out) hn hss hrf)
      obtain ⟨f, t, a⟩ := r
      dsimp only at hst c0 hrf
      cases hR : atT ⟨f, t, a⟩ s n with
      | false =>
        rw [hR] at hst
        replace c0 := Lib.hid (by have := c0.out; rw [hR] at this; exact this)
        replace hst := Lib.hid hst
        clear hrr hra
        go_wp2_with fail
        refine c0.out.mono ?_
        rintro e w1 ⟨rfl, hb1⟩
        go_wp2_with fail
        go_roundw
        case rel => exact ⟨i + 1, by omega, by go_num, by have := hst.out; simp at this; exact this.symm, hbr.trans (hb1.mono hbr.size)⟩
        case measure => simp [intOf]; omega
      | true =>
        rw [hR] at hst
        replace c0 := Lib.hid (by have := c0.out; rw [hR] at this; exact this)
        replace hst := Lib.hid hst
        clear hrr hra
        go_wp2_with fail
        refine c0.out.mono ?_
        rintro e w1 ⟨rfl, hb1⟩
        go_wp2_with fail
        go_ret
        exact ⟨by have := hst.out; simp at this; rw [this]; rfl, hbr.trans (hb1.mono hbr.size)⟩
    · have e3 : decide (i < l.length) = false := decide_eq_false hlt
      obtain rfl : i = l.length := by omega
      have hv' := hv.out
      rw [List.drop_length] at hv'
      replace hv' := Lib.hid hv'
      go_wp2_with fail
      go_ret
      exact ⟨by rw [← hv'.out]; rfl, hbr⟩
#print axioms index89_ok
end Go.Proofs.YtpejnnnkamodbaaDoor
/- The package rewrite: Once. -/
namespace Go.Proofs.YtpejnnnkamodbaaDoor
open Go Go.RowKit Go.Lib Go.Proofs.YtpejnnnkamodbaaDoorW.PrintWords Go.Proofs.YtpejnnnkamodbaaDoorW.PrintLast
open PCanonEqual (S49 k49 z49 rd_T49 at_T49 k49_open k49_mk k49_openM k49_mkM)
/-- What stands behind a match. -/
def replT (r : S49) (s : ByteArray) (i : Nat) : ByteArray := s.extract 0 i ++ r.f1 ++ s.extract (i + r.f0.size) s.size
def onceFrom (l : List S49) (s : ByteArray) : Nat → Nat → ByteArray × Int
  | 0, _ => (s, -1)
  | m + 1, i => if 0 ≤ firstI (fun r => atT r s i) l 0 then (replT (l.getD (firstI (fun r => atT r s i) l 0).toNat z49) s i, firstI (fun r => atT r s i) l 0) else onceFrom l s m (i + 1)
def onceT (l : List S49) (s : ByteArray) : ByteArray × Int := onceFrom l s (s.size + 1) 0
theorem firstI_lt (p : S49 → Bool) : ∀ (l : List S49) (i : Nat), firstI p l i < i + l.length
  | [], i => by simp only [firstI, List.length_nil]; omega
  | x :: l, i => by
    simp only [firstI]
    by_cases hp : p x = true
    · rw [if_pos hp, List.length_cons]; omega
    · rw [if_neg hp, List.length_cons]
      have := firstI_lt p l (i + 1)
      omega
theorem firstI_at (p : S49 → Bool) : ∀ (l : List S49) (i : Nat), 0 ≤ firstI p l i → p (l.getD (firstI p l i - i).toNat z49) = true
  | [], i, h => by simp [firstI] at h
  | x :: l, i, h => by
    simp only [firstI] at h ⊢
    by_cases hp : p x = true
    · rw [if_pos hp]
      simp [hp]
    · rw [if_neg hp] at h ⊢
      have h1 := firstI_at p l (i + 1) h
      by_cases hn : ∃ y ∈ l, p y = true
      · have h2 := firstI_some p l (i + 1) hn
        have e : (firstI p l (i + 1) - i).toNat = (firstI p l (i + 1) - (i + 1 : Nat)).toNat + 1 := by omega
        rw [e, List.getD_cons_succ]
        exact h1
      · rw [firstI_none p l (i + 1) (fun y hy => by
          cases hy' : p y with
          | false => rfl
          | true => exact absurd ⟨y, hy, hy'⟩ hn)] at h
        omega
theorem repl_ok (r : S49) (s : ByteArray) (i : Nat) (w : World) (h : i + r.f0.size ≤ s.size) (hs : s.size ≤ 1000000) (ht : r.f1.size ≤ 1000000) :
    Calls Tryd.prog 91 #[.agg #[.string r.f0, .string r.f1, .int .i64 r.f2], .string s, .int .i64 i] w fun e w' => e = .returned (.string (replT r s i)) ∧ Below w.heap.size w w' := by
  refine PCanonEqual.rewrite_replace.calls r.f0 r.f1 r.f2 s i (replT r s i) w ?_
  unfold PCanonEqual.rewrite_replace.f replT
  have e1 : wrap64 ((i : Int) + (r.f0.size : Int)) = ((i + r.f0.size : Nat) : Int) := by unfold wrap64; omega
  have z1 : (s.extract 0 i).size ≤ s.size := by rw [ByteArray.size_extract]; omega
  have z2 : (s.extract (i + r.f0.size) s.size).size ≤ s.size := by rw [ByteArray.size_extract]; omega
  rw [e1, if_pos (by omega), if_pos (by omega), Int.toNat_natCast, if_pos (by omega), if_pos (by omega), if_pos (by omega), Int.toNat_natCast, if_pos (by rw [ByteArray.size_append]; omega)]
theorem atT_len {r : S49} {s : ByteArray} {i : Nat} (hi : i ≤ s.size) (h : atT r s i = true) : i + r.f0.size ≤ s.size := by
  unfold atT at h
  simp only [Bool.and_eq_true] at h
  exact prefix_len s r.f0 i hi h.1
end Go.Proofs.YtpejnnnkamodbaaDoor
/- The package rewrite: Once. -/
namespace Go.Proofs.YtpejnnnkamodbaaDoor
open Go Go.RowKit Go.Lib Go.Proofs.YtpejnnnkamodbaaDoorW.PrintWords Go.Proofs.YtpejnnnkamodbaaDoorW.PrintLast
open PCanonEqual (S49 k49 z49 rd_T49 at_T49 k49_open k49_mk k49_openM k49_mkM)
set_option maxHeartbeats 4000000 in
set_option maxRecDepth 100000 in
set_option linter.unusedSimpArgs false in
theorem once_ok (A : Option Addr) (c : Nat) (l : List S49) (s : ByteArray) (w : World) (hr : Kd.C k49 w A l.length l) (hl : l.length ≤ 1000000) (hs : s.size ≤ 1000000) (hrs : ∀ r ∈ l, r.f0.size ≤ 1000000 ∧ r.f1.size ≤ 1000000) :
    Calls Tryd.prog 78 #[.slice A l.length c, .string s] w fun e w' => e = .returned (.tuple #[.string (onceT l s).1, .int .i64 (onceT l s).2]) ∧ Below w.heap.size w w' := by
  generalize hF : onceT l s = F
  have hbB : Below w.heap.size w (w.alloc (Obj.cells #[Value.string s] 9)) := (Below.refl _ _).alloc (Nat.le_refl _) _
  have hkB := heap_alloc_new w (Obj.cells #[Value.string s] 9)
  have hrB := Lib.hid (Kd.C_below hr hbB)
  replace hF := Lib.hid hF
  replace hrs := Lib.hid hrs
  replace hr := Lib.hid hr
  go_enter Tryd.func78, Tryd.ntmps78
  go_wp2_with fail
  generalize w.alloc (Obj.cells #[Value.string s] 9) = wB at hbB hkB hrB ⊢
  generalize hB : w.heap.size = B at hkB ⊢
  have hsB : wB.cell? ⟨B, 0, none⟩ = some (.string s) := (cell_row hkB 0).trans rfl
  replace hsB := Lib.hid hsB
  replace hB := Lib.hid hB
  clear hkB
  go_wp2_with fail
  go_loopw [11] (fun v11 wr => ∃ i : Nat, i ≤ s.size + 1 ∧ v11 = .int .i64 i ∧ Aside (onceFrom l s (s.size + 1 - i) i = F) ∧ Below wB.heap.size wB wr) (fun v11 _ => s.size + 1 - (intOf v11).toNat)
  case atStart => exact ⟨0, Nat.zero_le _, rfl, hF.out, Below.refl _ _⟩
  case round =>
    obtain ⟨i, hi, rfl, hv, hbr⟩ := hrel
    have hbw := hbB.trans (hbr.mono hbB.size)
    by_cases hlt : i < s.size + 1
    · have e3 : decide (i < s.size + 1) = true := decide_eq_true hlt
      have e3' : decide ((i : Int) < (s.size : Int) + 1) = true := decide_eq_true (by omega)
      have hst := hv.out
      obtain ⟨m, hm⟩ : ∃ m, s.size + 1 - i = m + 1 := ⟨s.size - i, by omega⟩
      rw [hm] at hst
      simp only [onceFrom] at hst
      have hm' : s.size + 1 - (i + 1) = m := by omega
      have hz1 := firstI_lt (fun r => atT r s i) l 0
      have hz2 := firstI_at (fun r => atT r s i) l 0
      have hbq : Below wr.heap.size wr (wr.alloc (Obj.cells #[Value.int IntKind.i64 i] 3)) := (Below.refl _ _).alloc (Nat.le_refl _) _
      have hkG := heap_alloc_new wr (Obj.cells #[Value.int IntKind.i64 i] 3)
      have hkq : (wr.alloc (Obj.cells #[Value.int IntKind.i64 i] 3)).cell? ⟨wr.heap.size, 0, none⟩ = some (.int .i64 i) := (cell_row hkG 0).trans rfl
      have hsq := pw_cell_below hbq (pw_cell_below hbr hsB.out)
      have hrq := Kd.C_below (Kd.C_below hrB.out hbr) hbq
      have ci := index89_ok A c l _ hrq hl s i B wr.heap.size hsq hkq (by omega) hs (fun r hr => (hrs.out r hr).1)
      generalize firstI (fun r => atT r s i) l 0 = z at hst hz1 hz2 ci
      replace ci := Lib.hid ci
      replace hst := Lib.hid hst
      replace hz2 := Lib.hid hz2
      replace hm := Lib.hid hm
      replace hm' := Lib.hid hm'
      clear hkG
      go_wp2_with fail
      refine ci.out.mono ?_
      rintro e w1 ⟨rfl, hb1⟩
      have hbq1 := hbq.trans (hb1.mono hbq.size)
      have hbw1 := hbw.trans (hbq1.mono hbw.size)
      by_cases hz : 0 ≤ z
      · have e4 : decide (0 ≤ z) = true := decide_eq_true hz
        have hzl : z < (l.length : Int) := by omega
        have hat := hz2.out hz
        rw [Int.natCast_zero, Int.sub_zero] at hat
        have hr1 := Kd.C_below hrq hb1
        obtain ⟨ad, rfl, d0, d1, d2⟩ := at_T49 hr1 z hz hzl
        have hra : rd_T49 l z = l.getD z.toNat z49 := rfl
        have hmem : l.getD z.toNat z49 ∈ l := by
          have hzn : z.toNat < l.length := by omega
          rw [List.getD_eq_getElem?_getD, List.getElem?_eq_getElem hzn]
          exact List.getElem_mem hzn
        rw [hra] at d0 d1 d2
        have hst' := hst.out
        rw [if_pos hz] at hst'
        have hsz := hrs.out _ hmem
        generalize l.getD z.toNat z49 = r at d0 d1 d2 hat hst' hsz
        have cr := Lib.hid (fun w => repl_ok r s i w (atT_len (by omega) hat) hs hsz.2)
        obtain ⟨f, t, a⟩ := r
        simp only at cr d0 d1 d2
        have p3 := pw_cell_below hb1 hsq
        have p4 := pw_cell_below hb1 hkq
        replace hst' := Lib.hid hst'
        clear hrq hr1 hra hmem hsq hkq hat hsz ci
        generalize wr.heap.size = G at p4 ⊢
        go_wp2_with fail
        have p0 := d0
        have p1 := d1
        have p2 := d2
        refine start_ (n := 10) (S := fun w' => w'.cell? (ad.add (z.toNat * 3)) = some (.string f) ∧ w'.cell? ⟨(ad.add (z.toNat * 3)).block, (ad.add (z.toNat * 3)).off + 1, none⟩ = some (.string t) ∧ w'.cell? ⟨(ad.add (z.toNat * 3)).block, (ad.add (z.toNat * 3)).off + 2, none⟩ = some (.int .i64 a) ∧ w'.cell? ⟨B, 0, none⟩ = some (.string s) ∧ w'.cell? ⟨G, 0, none⟩ = some (.int .i64 i)) (ds := []) #[false, false, false, false, false, false, false, false, false, false] (by kernel_rfl) rfl rfl ⟨p0, p1, p2, p3, p4⟩ (fun hHeld => ?_)
        refine pure_ (i := 0) (N := some 19) (v := ?_) (a' := ?_) #[true, false, false, false, false, false, false, false, false, false] rfl rfl (by kernel_rfl) (fun _ _ _ h => h) (Or.inl ⟨by rfl, ?_⟩) ?_ ?_
        rotate_left
        · intro w'
          go_simp
          with_reducible rfl
        rotate_left
        · simp only [Act.put, List.setIfInBounds_toArray, List.set_cons_zero, List.set_cons_succ, i64_w, i32_w]
          rfl
        refine pure_ (i := 1) (N := some 20) (v := ?_) (a' := ?_) #[true, true, false, false, false, false, false, false, false, false] rfl rfl (by kernel_rfl) (fun _ _ _ h => h) (Or.inl ⟨by rfl, ?_⟩) ?_ ?_
        rotate_left
        · intro w'
          go_simp
          with_reducible rfl
        rotate_left
        · simp only [Act.put, List.setIfInBounds_toArray, List.set_cons_zero, List.set_cons_succ, i64_w, i32_w]
          rfl
        refine pure_ (i := 2) (N := some 21) (v := ?_) (a' := ?_) #[true, true, true, false, false, false, false, false, false, false] rfl rfl (by kernel_rfl) (fun _ _ _ h => h) (Or.inl ⟨by rfl, ?_⟩) ?_ ?_
        rotate_left
        · intro w'
          go_simp
          with_reducible rfl
        rotate_left
        · simp only [Act.put, List.setIfInBounds_toArray, List.set_cons_zero, List.set_cons_succ, i64_w, i32_w]
          rfl
        refine pure_ (i := 7) (N := some 26) (v := ?_) (a' := ?_) #[true, true, true, false, false, false, false, true, false, false] rfl rfl (by kernel_rfl) (fun _ _ _ h => h) (Or.inl ⟨by rfl, ?_⟩) ?_ ?_
        rotate_left
        · intro w'
          go_simp
          with_reducible rfl
        rotate_left
        · simp only [Act.put, List.setIfInBounds_toArray, List.set_cons_zero, List.set_cons_succ, i64_w, i32_w]
          rfl
        refine take_ (i := 3) (N := some 22) (v := ?_) (a' := ?_) #[true, true, true, true, false, false, false, true, false, false] rfl rfl (by kernel_rfl) (fun _ _ _ h => h) (Or.inl ⟨by rfl, ?_⟩) hHeld ?_ ?_
        rotate_left
        · rintro w' ⟨s0, s1, s2, s3, s4⟩
          go_simp
          with_reducible rfl
        rotate_left
        · simp only [Act.put, List.setIfInBounds_toArray, List.set_cons_zero, List.set_cons_succ, i64_w, i32_w]
          rfl
        refine take_ (i := 4) (N := some 23) (v := ?_) (a' := ?_) #[true, true, true, true, true, false, false, true, false, false] rfl rfl (by kernel_rfl) (fun _ _ _ h => h) (Or.inl ⟨by rfl, ?_⟩) hHeld ?_ ?_
        rotate_left
        · rintro w' ⟨s0, s1, s2, s3, s4⟩
          go_simp
          with_reducible rfl
        rotate_left
        · simp only [Act.put, List.setIfInBounds_toArray, List.set_cons_zero, List.set_cons_succ, i64_w, i32_w]
          rfl
        refine take_ (i := 5) (N := some 24) (v := ?_) (a' := ?_) #[true, true, true, true, true, true, false, true, false, false] rfl rfl (by kernel_rfl) (fun _ _ _ h => h) (Or.inl ⟨by rfl, ?_⟩) hHeld ?_ ?_
        rotate_left
        · rintro w' ⟨s0, s1, s2, s3, s4⟩
          go_simp
          with_reducible rfl
        rotate_left
        · simp only [Act.put, List.setIfInBounds_toArray, List.set_cons_zero, List.set_cons_succ, i64_w, i32_w]
          rfl
        refine one_ (i := 6) (N := some 25) #[true, true, true, true, true, true, true, true, false, false] rfl rfl (by kernel_rfl) (by decide) (fun K hK => ?_)
        refine goes_ Tryd.func91 (by kernel_rfl) rfl #[.agg #[.string f, .string t, .int .i64 a], .string s, .int .i64 i] (by rfl) rfl rfl (by simp only [List.map_toArray, List.map_cons, List.map_nil]; rfl) ?_
        with_reducible refine (cr.out _).mono ?_
        rintro e w9 ⟨rfl, hb9⟩
        refine ⟨_, rfl, ?_⟩
        refine hK.out _ _ ⟨pw_cell_below hb9 hHeld.1, pw_cell_below hb9 hHeld.2.1, pw_cell_below hb9 hHeld.2.2.1, pw_cell_below hb9 hHeld.2.2.2.1, pw_cell_below hb9 hHeld.2.2.2.2⟩ (fun hHeld => ?_)
        clear hK K
        refine norm_ (a' := ?_) ?_ ?_
        rotate_left
        · show Act.put _ (some 25) _ = _
          simp only [Act.put, List.setIfInBounds_toArray, List.set_cons_zero, List.set_cons_succ, i64_w, i32_w]
          rfl
        refine pure_ (i := 8) (N := some 4) (v := ?_) (a' := ?_) #[true, true, true, true, true, true, true, true, true, false] rfl rfl (by kernel_rfl) (fun _ _ _ h => h) (Or.inl ⟨by rfl, ?_⟩) ?_ ?_
        rotate_left
        · intro w'
          go_simp
          with_reducible rfl
        rotate_left
        · simp only [Act.put, List.setIfInBounds_toArray, List.set_cons_zero, List.set_cons_succ, i64_w, i32_w]
          rfl
        refine pure_ (i := 9) (N := some 5) (v := ?_) (a' := ?_) #[true, true, true, true, true, true, true, true, true, true] rfl rfl (by kernel_rfl) (fun _ _ _ h => h) (Or.inl ⟨by rfl, ?_⟩) ?_ ?_
        rotate_left
        · intro w'
          go_simp
          with_reducible rfl
        rotate_left
        · simp only [Act.put, List.setIfInBounds_toArray, List.set_cons_zero, List.set_cons_succ, i64_w, i32_w]
          rfl
        refine done_ (by kernel_rfl) ?_
        have hb9' : Below w.heap.size w w9 := hbw1.trans ((Below.refl _ _).drew.trans (hb9.mono (Nat.le_refl _)) |>.mono hbw1.size)
        go_wp2
        go_ret2
        have hfin := hst'.out
        exact ⟨by rw [← hfin]; rfl, hb9'⟩
      · have e4 : decide (0 ≤ z) = false := decide_eq_false hz
        have hst' := hst.out
        rw [if_neg hz] at hst'
        replace hst' := Lib.hid hst'
        clear hrq hsq hkq ci
        go_wp2_with fail
        go_roundw
        case rel => exact ⟨i + 1, by omega, by go_num, by rw [hm'.out]; exact hst'.out, hbr.trans (hbq1.mono hbr.size)⟩
        case measure => simp [intOf]; omega
    · have e3 : decide (i < s.size + 1) = false := decide_eq_false hlt
      have e3' : decide ((i : Int) < (s.size : Int) + 1) = false := decide_eq_false (by omega)
      have hst := hv.out
      rw [show s.size + 1 - i = 0 from by omega] at hst
      simp only [onceFrom] at hst
      subst hst
      have hsr := pw_cell_below hbr hsB.out
      go_wp2_with fail
      go_ret2
      exact ⟨rfl, hbw⟩
#print axioms once_ok
end Go.Proofs.YtpejnnnkamodbaaDoor
