/- Merged texts: WRwP, WRwM, WRwQ, WRwR, WReduce, WApply, WNeat, WAwake12. -/
import Derived.Test.YtpejnnnkamodbaaDoorWRwA
import Derived.Test.YtpejnnnkamodbaaDoorWWordsA
/- Plain facts about the texts of right rules: letters and spaces alone. -/
namespace Go.Proofs.YtpejnnnkamodbaaDoor
open Go Go.Lib
open PCanonEqual (S49 z49)

theorem decode_small (n b0 b1 b2 b3 : Nat) (h : (decodeN n b0 b1 b2 b3).1 < 128) : decodeN n b0 b1 b2 b3 = (b0, 1) ∧ b0 < 128 := by
  unfold decodeN at h ⊢
  by_cases hb : b0 < 128
  · rw [if_pos hb]; exact ⟨rfl, hb⟩
  · rw [if_neg hb] at h
    exfalso
    repeat' split at h
    all_goals (simp only at h; omega)
theorem strange_not {r : Nat} (h : strangeR r = false) : r = 32 ∨ letterN r = true := by
  unfold strangeR at h
  by_cases h1 : r = 32
  · exact Or.inl h1
  · right
    have e : (r != 32) = true := by simpa using h1
    rw [e, Bool.true_and, Bool.or_eq_false_iff] at h
    simpa using h.2
/-- Letters and spaces alone. -/
def LSs (s : ByteArray) : Prop := ∀ j, j < s.size → LS (s.get! j)
theorem text_from (s : ByteArray) : ∀ (f pos : Nat), s.size ≤ pos + f → idxFuncFrom strangeR true s f pos = -1 → ∀ j, pos ≤ j → j < s.size → LS (s.get! j)
  | 0, pos, hf, _, j, h1, h2 => by omega
  | f + 1, pos, hf, h, j, h1, h2 => by
    unfold idxFuncFrom at h
    rw [if_pos (by omega)] at h
    by_cases hp : strangeR (Utf8.decode s pos).1 = true
    · rw [if_pos hp] at h
      omega
    · rw [if_neg hp] at h
      have hs := strange_not (by simpa using hp)
      have hlt : (Utf8.decode s pos).1 < 128 := by
        rcases hs with hs | hs
        · omega
        · simp only [letterN, Bool.or_eq_true, decide_eq_true_eq] at hs
          omega
      rw [decode_at] at hlt hs h
      obtain ⟨e, hb⟩ := decode_small _ _ _ _ _ hlt
      rw [e] at hs h
      by_cases hj : j = pos
      · subst hj
        rcases hs with hs | hs
        · right
          exact UInt8.toNat_inj.1 (by simpa using hs)
        · exact Or.inl hs
      · exact text_from s f (pos + 1) (by omega) h j (by omega) h2
theorem text_LS {s : ByteArray} (h : textT s = true) : LSs s := by
  unfold textT at h
  simp only [Bool.and_eq_true, decide_eq_true_eq, Bool.not_eq_true', decide_eq_false_iff_not] at h
  have h2 : idxFunc strangeR true s = -1 := by
    rcases idxFuncFrom_range strangeR true s s.size 0 with h3 | h3
    · exact h3
    · exact absurd (by unfold idxFunc; omega) h.2
  exact fun j hj => text_from s s.size 0 (by omega) h2 j (Nat.zero_le _) hj
#print axioms text_LS
end Go.Proofs.YtpejnnnkamodbaaDoor
/- Plain facts: what Fold does to a text of letters and spaces: no longer, and the same letters. -/
namespace Go.Proofs.YtpejnnnkamodbaaDoor
open Go Go.Lib

def wt (b : UInt8) : Nat := if b = 32 then 0 else b.toNat
def nsum : List UInt8 → Nat
  | [] => 0
  | b :: l => wt b + nsum l
theorem nsum_append : ∀ a b : List UInt8, nsum (a ++ b) = nsum a + nsum b
  | [], b => by simp [nsum]
  | x :: a, b => by simp only [List.cons_append, nsum, nsum_append a b]; omega
def nsums : List (List UInt8) → Nat
  | [] => 0
  | w :: r => nsum w + nsums r
theorem nsum_fieldsGo : ∀ (l cur : List UInt8), (∀ b ∈ l, LS b) → nsums (fieldsGo cur l) = nsum cur + nsum l
  | [], cur, _ => by
    unfold fieldsGo
    cases cur with
    | nil => rfl
    | cons x c => simp [nsums, nsum]
  | b :: l, cur, h => by
    have hl := fun c => nsum_fieldsGo l c (fun x hx => h x (List.mem_cons_of_mem _ hx))
    unfold fieldsGo
    rcases h b List.mem_cons_self with hb | hb
    · rw [isSp_let hb, if_neg (by simp), hl, nsum_append]
      simp only [nsum]
      omega
    · subst hb
      rw [isSp_32, if_pos rfl]
      cases cur with
      | nil =>
        simp only [List.isEmpty_nil, if_true]
        rw [hl]
        simp [nsum, wt]
      | cons x c =>
        simp only [List.isEmpty_cons, Bool.false_eq_true, if_false, nsums]
        rw [hl]
        simp [nsum, wt]
theorem nsum_join : ∀ ws : List (List UInt8), nsum (join ws [32]) = nsums ws
  | [] => rfl
  | [w] => by simp [join, nsums]
  | w :: v :: r => by
    rw [join_cons2, nsum_append]
    simp only [nsum, nsums]
    rw [nsum_join (v :: r)]
    simp [nsums, wt]
theorem nsum_fold {l : List UInt8} (h : ∀ b ∈ l, LS b) : nsum (foldT l) = nsum l := by
  unfold foldT splitT fields
  rw [raw_id l h, nsum_join, nsum_fieldsGo l [] h]
  simp [nsum]
theorem len_fold {l : List UInt8} (h : ∀ b ∈ l, LS b) : (foldT l).length ≤ l.length := by
  have h1 := join_len (splitT l)
  have h2 := fieldsGo_len (raw l) []
  have e : splitT l = fieldsGo [] (raw l) := rfl
  rw [← e, raw_id l h, List.length_nil] at h2
  unfold foldT
  cases hs : splitT l with
  | nil => simp [join]
  | cons w r =>
    rw [hs] at h1 h2
    simp only [List.length_cons] at h1 h2
    omega
theorem nsum_le : ∀ l : List UInt8, nsum l ≤ 255 * l.length
  | [] => by simp [nsum]
  | b :: l => by
    have := nsum_le l
    have hb : b.toNat ≤ 255 := by have := b.toNat_lt; omega
    simp only [nsum, wt, List.length_cons]
    split <;> omega
#print axioms len_fold
end Go.Proofs.YtpejnnnkamodbaaDoor
/- Plain facts: a step of a right rule makes a text of letters and spaces less. -/
namespace Go.Proofs.YtpejnnnkamodbaaDoor
open Go Go.Lib
open PCanonEqual (S49 z49)
theorem ext_list (s : ByteArray) (i j : Nat) : (s.extract i j).data.toList = (s.data.toList.drop i).take (j - i) := by
  rw [ByteArray.data_extract]
  simp
theorem repl_parts {r : S49} {s : ByteArray} {i : Nat} (h : atT r s i = true) :
    ∃ u v : List UInt8, s.data.toList = u ++ r.f0.data.toList ++ v ∧ (replT r s i).data.toList = u ++ r.f1.data.toList ++ v := by
  unfold atT at h
  simp only [Bool.and_eq_true] at h
  have hp := h.1
  unfold Lib.hasPrefix at hp
  obtain ⟨v, hv⟩ := List.isPrefixOf_iff_prefix.1 hp
  have e1 : (s.extract i s.size).data.toList = s.data.toList.drop i := by
    rw [ext_list]
    have e : s.size = s.data.toList.length := by simp
    rw [e, ← List.length_drop, List.take_length]
  rw [e1] at hv
  refine ⟨s.data.toList.take i, v, ?_, ?_⟩
  · rw [List.append_assoc, hv, List.take_append_drop]
  · unfold replT
    have e2 : v = s.data.toList.drop (i + r.f0.size) := by
      have : s.data.toList.drop (i + r.f0.size) = (s.data.toList.drop i).drop r.f0.size := by rw [List.drop_drop]
      rw [this, ← hv]
      have e3 : r.f0.size = r.f0.data.toList.length := by simp
      rw [e3, List.drop_left]
    rw [e2]
    have e4 : (s.extract (i + r.f0.size) s.size).data.toList = s.data.toList.drop (i + r.f0.size) := by
      rw [ext_list]
      have e : s.size = s.data.toList.length := by simp
      rw [e, ← List.length_drop, List.take_length]
    rw [ByteArray.data_append, ByteArray.data_append, Array.toList_append, Array.toList_append, e4, ext_list, List.drop_zero, Nat.sub_zero]
#print axioms repl_parts
end Go.Proofs.YtpejnnnkamodbaaDoor
/- Plain facts: a step of a right rule makes a text of letters and spaces less, by length, or by the sum of its letters. -/
namespace Go.Proofs.YtpejnnnkamodbaaDoor
open Go Go.Lib
open PCanonEqual (S49 z49)
theorem LSs_list {s : ByteArray} (h : LSs s) : ∀ b ∈ s.data.toList, LS b := by
  intro b hb
  obtain ⟨j, hj, rfl⟩ := List.mem_iff_getElem.1 hb
  have hj' : j < s.size := by simpa using hj
  have := h j hj'
  rw [ByteArray.get!] at this
  rw [getElem!_pos s.data j (by simpa using hj)] at this
  simpa using this
/-- The measure of a text. -/
def meas (l : List UInt8) : Nat := l.length * 1000000 + nsum l
theorem step_LS {r : S49} {s : ByteArray} {i : Nat} (hr : ruleT r = true) (hs : ∀ b ∈ s.data.toList, LS b) (h : atT r s i = true) : ∀ b ∈ (replT r s i).data.toList, LS b := by
  obtain ⟨u, v, h1, h2⟩ := repl_parts h
  simp only [ruleT, Bool.and_eq_true] at hr
  have ht := LSs_list (text_LS hr.1.1.1.2)
  intro b hb
  rw [h2, List.mem_append, List.mem_append] at hb
  rw [h1] at hs
  rcases hb with (hb | hb) | hb
  · exact hs b (List.mem_append_left _ (List.mem_append_left _ hb))
  · exact ht b hb
  · exact hs b (List.mem_append_right _ hb)
theorem step_len {r : S49} {s : ByteArray} {i : Nat} (hr : ruleT r = true) (h : atT r s i = true) : (replT r s i).data.toList.length ≤ s.data.toList.length := by
  obtain ⟨u, v, h1, h2⟩ := repl_parts h
  simp only [ruleT, shortT, Bool.and_eq_true, Bool.or_eq_true, decide_eq_true_eq] at hr
  have e0 : r.f0.data.toList.length = r.f0.size := by simp
  have e1 : r.f1.data.toList.length = r.f1.size := by simp
  rw [h1, h2]
  simp only [List.length_append]
  rcases hr.2 with h3 | h3 <;> omega
theorem one_byte {b : ByteArray} (h : b.size = 1) : ∃ x, b.data.toList = [x] := by
  have e : b.data.toList.length = 1 := by simpa using h
  match hb : b.data.toList, e with
  | [x], _ => exact ⟨x, rfl⟩
theorem step_meas {r : S49} {s : ByteArray} {i : Nat} (hr : ruleT r = true) (hs : ∀ b ∈ s.data.toList, LS b) (hl : s.data.toList.length ≤ 1000) (h : atT r s i = true) : meas (foldT (replT r s i).data.toList) < meas s.data.toList := by
  have hn := step_LS hr hs h
  have hlen := step_len hr h
  have h1 := len_fold hn
  have h2 := nsum_fold hn
  have h3 := nsum_le (replT r s i).data.toList
  obtain ⟨u, v, e1, e2⟩ := repl_parts h
  simp only [ruleT, shortT, Bool.and_eq_true, Bool.or_eq_true, decide_eq_true_eq] at hr
  have z0 : r.f0.data.toList.length = r.f0.size := by simp
  have z1 : r.f1.data.toList.length = r.f1.size := by simp
  unfold meas
  rw [h2]
  rcases hr.2 with h4 | ⟨h4, h5, h6⟩
  · have : (replT r s i).data.toList.length < s.data.toList.length := by
      rw [e1, e2]
      simp only [List.length_append]
      omega
    omega
  · obtain ⟨x, hx⟩ := one_byte h4
    obtain ⟨y, hy⟩ := one_byte h5
    have hxL := LSs_list (text_LS hr.1.1.1.2) x (by rw [hx]; simp)
    rw [ByteArray.toList_eq, ByteArray.toList_eq, hx, hy] at h6
    have hlt : x.toNat < y.toNat := by
      simp [Op.bytesLess] at h6
      have := UInt8.lt_iff_toNat_lt.1 h6
      exact this
    have hx32 : 32 ≤ x.toNat := by
      rcases hxL with hxL | hxL
      · simp only [letB, letterN, Bool.or_eq_true, decide_eq_true_eq] at hxL
        omega
      · subst hxL; decide
    have hw : wt x < wt y := by
      unfold wt
      have hy32 : ¬ y = 32 := by
        rintro rfl
        have : (32 : UInt8).toNat = 32 := rfl
        omega
      rw [if_neg hy32]
      split <;> omega
    have e3 : nsum (replT r s i).data.toList < nsum s.data.toList := by
      rw [e1, e2, hx, hy]
      simp only [nsum_append, nsum]
      omega
    omega
#print axioms step_meas
end Go.Proofs.YtpejnnnkamodbaaDoor
/- The package rewrite: reduce. -/
namespace Go.Proofs.YtpejnnnkamodbaaDoor
open Go Go.RowKit Go.Lib Go.Proofs.YtpejnnnkamodbaaDoorW.PrintWords Go.Proofs.YtpejnnnkamodbaaDoorW.PrintLast
open PCanonEqual (S49 k49 z49)
def foldB (s : ByteArray) : ByteArray := ⟨(foldT s.data.toList).toArray⟩
def reduceFrom (l : List S49) : Nat → ByteArray → ByteArray
  | 0, s => s
  | m + 1, s => if (onceT l s).2 < 0 then s else reduceFrom l m (foldB (onceT l s).1)
def reduceT (l : List S49) (s : ByteArray) : ByteArray := reduceFrom l (meas (foldB s).data.toList + 1) (foldB s)
theorem once_cases (l : List S49) (s : ByteArray) : ∀ m i, (onceFrom l s m i).2 = -1 ∨ ∃ r ∈ l, ∃ j, atT r s j = true ∧ (onceFrom l s m i).1 = replT r s j ∧ 0 ≤ (onceFrom l s m i).2
  | 0, i => Or.inl rfl
  | m + 1, i => by
    simp only [onceFrom]
    by_cases h : 0 ≤ firstI (fun r => atT r s i) l 0
    · rw [if_pos h]
      right
      have h1 := firstI_at (fun r => atT r s i) l 0 h
      have h2 := firstI_lt (fun r => atT r s i) l 0
      rw [Int.natCast_zero, Int.sub_zero] at h1
      have hn : (firstI (fun r => atT r s i) l 0).toNat < l.length := by omega
      refine ⟨_, ?_, i, h1, rfl, h⟩
      rw [List.getD_eq_getElem?_getD, List.getElem?_eq_getElem hn]
      exact List.getElem_mem hn
    · rw [if_neg h]
      exact once_cases l s m (i + 1)
theorem foldB_list (s : ByteArray) : (foldB s).data.toList = foldT s.data.toList := by simp [foldB]
set_option maxHeartbeats 4000000 in
set_option maxRecDepth 100000 in
theorem reduce_ok (A : Option Addr) (c : Nat) (l : List S49) (s : ByteArray) (w : World) (hT : Tabs w) (hr : Kd.C k49 w A l.length l) (hl : l.length ≤ 1000000) (hs : s.size ≤ 256) (hrs : ∀ r ∈ l, ruleT r = true) (hrz : ∀ r ∈ l, r.f0.size ≤ 1000000 ∧ r.f1.size ≤ 1000000) :
    Calls Tryd.prog 57 #[.slice A l.length c, .string s] w fun e w' => e = .returned (.string (reduceT l s)) ∧ Below w.heap.size w w' := by
  generalize hF : reduceT l s = F
  unfold reduceT at hF
  have cf := Lib.hid (foldtext_any s w (by omega) hT)
  have h1 := fold_len s.data.toList
  have h2 : s.data.toList.length = s.size := by simp
  have h3 := fold_LS s.data.toList
  rw [← foldB_list] at h1 h3
  have hlen : (foldB s).data.toList.length ≤ 1000 := by omega
  change Hid (Calls Tryd.prog 18 #[.string s] w fun e w' => e = .returned (.string (foldB s)) ∧ Below w.heap.size w w') at cf
  generalize foldB s = q at hF hlen h3 cf
  replace hF := Lib.hid hF
  replace hr := Lib.hid hr
  replace hrs := Lib.hid hrs
  replace hrz := Lib.hid hrz
  replace h3 := Lib.hid h3
  clear h1 h2
  go_enter Tryd.func57, Tryd.ntmps57
  go_wp2_with fail
  refine cf.out.mono ?_
  rintro e w1 ⟨rfl, hb1⟩
  go_wp2_with fail
  go_loopg [1] (meas q.data.toList + 1) (fun gk v wr => ∃ cur : ByteArray, v = .string cur ∧ Aside (reduceFrom l gk cur = F) ∧ Aside (meas cur.data.toList < gk) ∧ Aside (∀ b ∈ cur.data.toList, LS b) ∧ Aside (cur.data.toList.length ≤ 1000) ∧ Below w.heap.size w wr)
  case atStart => exact ⟨q, rfl, hF.out, Nat.lt_succ_self _, h3.out, hlen, hb1⟩
  case round =>
    obtain ⟨cur, rfl, hv, hm, hLS, hcl, hbr⟩ := hrel
    have hcs : cur.size ≤ 1000 := by have := hcl.out; simpa using this
    obtain ⟨m, rfl⟩ : ∃ m, gk = m + 1 := ⟨gk - 1, by have := hm.out; omega⟩
    have co := once_ok A c l cur wr (Kd.C_below hr.out hbr) hl (by omega) hrz.out
    have hc := once_cases l cur (cur.size + 1) 0
    have hst := hv.out
    simp only [reduceFrom] at hst
    change (onceT l cur).2 = -1 ∨ ∃ r ∈ l, ∃ j, atT r cur j = true ∧ (onceT l cur).1 = replT r cur j ∧ 0 ≤ (onceT l cur).2 at hc
    generalize onceT l cur = o at co hc hst
    obtain ⟨n, k⟩ := o
    simp only at co hc hst
    rcases hc with rfl | ⟨r, hrm, j, hat, rfl, hk⟩
    · rw [if_pos (by decide)] at hst
      replace hst := Lib.hid hst
      replace co := Lib.hid co
      go_wp2_with fail
      refine co.out.mono ?_
      rintro e w2 ⟨rfl, hb2⟩
      go_wp2_with fail
      go_ret
      exact ⟨by rw [← hst.out]; rfl, hbr.trans (hb2.mono hbr.size)⟩
    · rw [if_neg (by omega)] at hst
      have hrr := hrs.out r hrm
      have s1 := step_meas hrr hLS.out hcl.out hat
      have s2 := step_len hrr hat
      have s3 := fold_LS (replT r cur j).data.toList
      have s4 := len_fold (step_LS hrr hLS.out hat)
      have hm1 := hm.out
      have hcl1 := hcl.out
      have e0 : decide (k < 0) = false := decide_eq_false (by omega)
      rw [← foldB_list] at s1 s3 s4
      have hns : (replT r cur j).size ≤ 1000 := by
        have e : (replT r cur j).data.toList.length = (replT r cur j).size := by simp
        omega
      have cF := fun w2 hT2 => foldtext_any (replT r cur j) w2 (by omega) hT2
      change ∀ (w2 : World), Tabs w2 → Calls Tryd.prog 18 #[.string (replT r cur j)] w2 fun e w' => e = .returned (.string (foldB (replT r cur j))) ∧ Below w2.heap.size w2 w' at cF
      have hm2 : meas (foldB (replT r cur j)).data.toList < m := by omega
      have hl2 : (foldB (replT r cur j)).data.toList.length ≤ 1000 := by omega
      generalize foldB (replT r cur j) = q2 at hst s1 s3 s4 cF hm2 hl2
      generalize replT r cur j = n at co cF
      replace hst := Lib.hid hst
      replace co := Lib.hid co
      replace cF := Lib.hid cF
      replace s3 := Lib.hid s3
      clear s1 s2 s4 hm1 hcl1 hns hk hat hrr
      go_wp2_with fail
      refine co.out.mono ?_
      rintro e w2 ⟨rfl, hb2⟩
      have hb2' := hbr.trans (hb2.mono hbr.size)
      go_wp2_with fail
      refine (cF.out w2 (hT.below hb2' hT.six)).mono ?_
      rintro e w3 ⟨rfl, hb3⟩
      go_wp2_with fail
      go_roundg m
      case measure => omega
      case rel => exact ⟨q2, rfl, hst.out, hm2, s3.out, hl2, hb2'.trans (hb3.mono hb2'.size)⟩
#print axioms reduce_ok
end Go.Proofs.YtpejnnnkamodbaaDoor
/- The package rewrite: Apply. -/
namespace Go.Proofs.YtpejnnnkamodbaaDoor
open Go Go.RowKit Go.Lib Go.Proofs.YtpejnnnkamodbaaDoorW.PrintWords Go.Proofs.YtpejnnnkamodbaaDoorW.PrintLast
open PCanonEqual (S49 k49 z49)
/-- What Apply tells: 0 OK, 1 invalid, 3 the limit. -/
def applyT (l : List S49) (s : ByteArray) : ByteArray × Int := if rulesT l = true then (if s.size ≤ 256 then (reduceT l s, 0) else (⟨#[]⟩, 3)) else (⟨#[]⟩, 1)
theorem text_size {s : ByteArray} (h : textT s = true) : s.size ≤ 256 := by
  unfold textT at h
  simp only [Bool.and_eq_true, decide_eq_true_eq] at h
  exact h.1
theorem rule_sizes {r : S49} (h : ruleT r = true) : r.f0.size ≤ 256 ∧ r.f1.size ≤ 256 := by
  simp only [ruleT, Bool.and_eq_true] at h
  exact ⟨text_size h.1.1.1.1.2, text_size h.1.1.1.2⟩
set_option maxHeartbeats 4000000 in
theorem apply_ok (A : Option Addr) (c : Nat) (l : List S49) (s : ByteArray) (w : World) (hT : Tabs w) (hr : Kd.C k49 w A l.length l) :
    Calls Tryd.prog 32 #[.slice A l.length c, .string s] w fun e w' => e = .returned (.tuple #[.string (applyT l s).1, .int .i64 (applyT l s).2]) ∧ Below w.heap.size w w' := by
  have cv := rules_valid_ok A c l w hr
  unfold applyT
  cases hv : rulesT l with
  | false =>
    rw [hv] at cv
    rw [if_neg (by decide)]
    replace cv := Lib.hid cv
    replace hr := Lib.hid hr
    go_enter Tryd.func32, Tryd.ntmps32
    go_wp2_with fail
    refine cv.out.mono ?_
    rintro e w1 ⟨rfl, hb1⟩
    go_wp2_with fail
    go_ret2
    exact ⟨rfl, hb1⟩
  | true =>
    rw [hv] at cv
    rw [if_pos rfl]
    have hm := (rulesT_iff l).1 hv
    by_cases hs : s.size ≤ 256
    · rw [if_pos hs]
      have cr := Lib.hid (fun w1 (hb : Below w.heap.size w w1) => reduce_ok A c l s w1 (hT.below hb hT.six) (Kd.C_below hr hb) (by omega) hs hm.2 (fun r h => ⟨Nat.le_trans (rule_sizes (hm.2 r h)).1 (by decide), Nat.le_trans (rule_sizes (hm.2 r h)).2 (by decide)⟩))
      have e0 : decide ((256 : Int) < (s.size : Int)) = false := decide_eq_false (by omega)
      generalize reduceT l s = R at cr ⊢
      replace cv := Lib.hid cv
      replace hr := Lib.hid hr
      replace hm := Lib.hid hm
      go_enter Tryd.func32, Tryd.ntmps32
      go_wp2_with fail
      refine cv.out.mono ?_
      rintro e w1 ⟨rfl, hb1⟩
      go_wp2_with fail
      refine (cr.out w1 hb1).mono ?_
      rintro e w2 ⟨rfl, hb2⟩
      go_wp2_with fail
      go_ret2
      exact ⟨rfl, hb1.trans (hb2.mono hb1.size)⟩
    · rw [if_neg hs]
      have e0 : decide ((256 : Int) < (s.size : Int)) = true := decide_eq_true (by omega)
      replace cv := Lib.hid cv
      replace hr := Lib.hid hr
      replace hm := Lib.hid hm
      go_enter Tryd.func32, Tryd.ntmps32
      go_wp2_with fail
      refine cv.out.mono ?_
      rintro e w1 ⟨rfl, hb1⟩
      go_wp2_with fail
      go_ret2
      exact ⟨rfl, hb1⟩
#print axioms apply_ok
end Go.Proofs.YtpejnnnkamodbaaDoor
/- Plain facts: texts without a space at the ends, or beside another one, are folded to themselves; a step of a rule whose texts are words keeps them so. -/
namespace Go.Proofs.YtpejnnnkamodbaaDoor
open Go Go.Lib
open PCanonEqual (S49 z49)

def okN : Bool → List UInt8 → Bool
  | sp, [] => !sp
  | sp, b :: l => if b = 32 then !sp && okN true l else okN false l
theorem okN_let {b : UInt8} (h : letB b = true) (sp : Bool) (l : List UInt8) : okN sp (b :: l) = okN false l := by
  have hb : b ≠ 32 := by rintro rfl; revert h; decide
  simp [okN, hb]
theorem okN_word : ∀ (w : List UInt8) (sp : Bool) (v : List UInt8), w ≠ [] → (∀ b ∈ w, letB b = true) → okN sp (w ++ v) = okN false v
  | [], _, _, h, _ => absurd rfl h
  | [b], sp, v, _, h => okN_let (h b (by simp)) sp v
  | b :: c :: w, sp, v, _, h => by
    rw [List.cons_append, okN_let (h b (by simp))]
    exact okN_word (c :: w) false v (by simp) (fun x hx => h x (List.mem_cons_of_mem _ hx))
theorem okN_congr {x y : List UInt8} (h : ∀ sp, okN sp x = okN sp y) : ∀ (u : List UInt8) (sp : Bool), okN sp (u ++ x) = okN sp (u ++ y)
  | [], sp => h sp
  | b :: u, sp => by
    rw [List.cons_append, List.cons_append]
    unfold okN
    rw [okN_congr h u true, okN_congr h u false]
theorem okN_step {f t : List UInt8} (hf : Word f) (ht : Word t) (u v : List UInt8) (sp : Bool) (h : okN sp (u ++ f ++ v) = true) : okN sp (u ++ t ++ v) = true := by
  rw [List.append_assoc] at h ⊢
  rw [← h]
  exact okN_congr (fun sp => by rw [okN_word t sp v ht.1 ht.2, okN_word f sp v hf.1 hf.2]) u sp
theorem okN_join : ∀ ws : List (List UInt8), ws ≠ [] → (∀ w ∈ ws, Word w) → okN true (join ws [32]) = true
  | [], h, _ => absurd rfl h
  | [w], _, h => by
    have hw := h w (by simp)
    have := okN_word w true [] hw.1 hw.2
    rw [List.append_nil] at this
    rw [join_one, this]
    rfl
  | w :: v :: r, _, h => by
    have hw := h w (by simp)
    rw [join_cons2, okN_word w true _ hw.1 hw.2]
    show (!false && okN true (join (v :: r) [32])) = true
    rw [okN_join (v :: r) (by simp) (fun x hx => h x (List.mem_cons_of_mem _ hx))]
    rfl
theorem join_okN : ∀ l : List UInt8, (∀ b ∈ l, LS b) →
    (∀ cur, cur ≠ [] → okN false l = true → join (fieldsGo cur l) [32] = cur ++ l) ∧ (okN true l = true → join (fieldsGo [] l) [32] = l ∧ fieldsGo [] l ≠ [])
  | [], _ => by
    refine ⟨fun cur hc _ => ?_, fun h => by cases h⟩
    have := fieldsGo_word [] cur (by simp) (by simpa using hc)
    rw [this, join_one]
  | b :: l, h => by
    have ih := join_okN l (fun c hc => h c (List.mem_cons_of_mem _ hc))
    rcases h b (by simp) with hb | hb
    · refine ⟨fun cur hc ho => ?_, fun ho => ?_⟩
      · rw [okN_let hb] at ho
        rw [fieldsGo_more cur b l (isSp_let hb), ih.1 (cur ++ [b]) (by simp) ho]
        simp
      · rw [okN_let hb] at ho
        rw [fieldsGo_more [] b l (isSp_let hb)]
        have h1 := ih.1 ([] ++ [b]) (by simp) ho
        refine ⟨by rw [h1]; simp, fun he => ?_⟩
        rw [he] at h1
        simp [join_nil] at h1
    · subst hb
      refine ⟨fun cur hc ho => ?_, fun ho => by simp [okN] at ho⟩
      have ho' : okN true l = true := by simpa [okN] using ho
      obtain ⟨h1, h2⟩ := ih.2 ho'
      rw [fieldsGo_end cur 32 l isSp_32 hc]
      cases hg : fieldsGo [] l with
      | nil => exact absurd hg h2
      | cons v r => rw [join_cons2, ← hg, h1]
theorem neat_fold {l : List UInt8} (h : ∀ b ∈ l, LS b) (hn : l = [] ∨ okN true l = true) : foldT l = l := by
  rcases hn with rfl | hn
  · rfl
  · unfold foldT splitT fields
    rw [raw_id l h]
    exact ((join_okN l h).2 hn).1
theorem fold_neat (l : List UInt8) : foldT l = [] ∨ okN true (foldT l) = true := by
  unfold foldT
  by_cases h : splitT l = []
  · left
    rw [h]
    exact join_nil [32]
  · exact Or.inr (okN_join _ h (split_words l))

/-! ### where rules match, in lists -/
def condL (k : Int) (u v : List UInt8) : Prop := k = 0 ∨ (k = 2 ∧ v = []) ∨ (k = 3 ∧ (u = [] ∨ u.getLast? = some 32) ∧ (v = [] ∨ v.head? = some 32))
theorem at_parts {r : S49} {s : ByteArray} {i : Nat} (hi : i ≤ s.size) (hk : r.f2 = 0 ∨ r.f2 = 2 ∨ r.f2 = 3) (h : atT r s i = true) :
    ∃ u v : List UInt8, s.data.toList = u ++ r.f0.data.toList ++ v ∧ (replT r s i).data.toList = u ++ r.f1.data.toList ++ v ∧ condL r.f2 u v := by
  have hlen := atT_len hi h
  have z : s.data.toList.length = s.size := by simp
  have hp : s.data.toList.drop i = r.f0.data.toList ++ s.data.toList.drop (i + r.f0.size) := by
    have h1 := h
    unfold atT at h1
    simp only [Bool.and_eq_true] at h1
    have h2 := h1.1
    unfold Lib.hasPrefix at h2
    obtain ⟨v, hv⟩ := List.isPrefixOf_iff_prefix.1 h2
    have e1 : (s.extract i s.size).data.toList = s.data.toList.drop i := by
      rw [ext_list, ← z, ← List.length_drop, List.take_length]
    rw [e1] at hv
    have e2 : s.data.toList.drop (i + r.f0.size) = (s.data.toList.drop i).drop r.f0.size := by rw [List.drop_drop]
    have e3 : r.f0.size = r.f0.data.toList.length := by simp
    rw [e2, ← hv, e3, List.drop_left]
  refine ⟨s.data.toList.take i, s.data.toList.drop (i + r.f0.size), ?_, ?_, ?_⟩
  · rw [List.append_assoc, ← hp, List.take_append_drop]
  · unfold replT
    have e4 : (s.extract (i + r.f0.size) s.size).data.toList = s.data.toList.drop (i + r.f0.size) := by
      rw [ext_list, ← z, ← List.length_drop, List.take_length]
    rw [ByteArray.data_append, ByteArray.data_append, Array.toList_append, Array.toList_append, e4, ext_list, List.drop_zero, Nat.sub_zero]
  · unfold atT at h
    simp only [Bool.and_eq_true] at h
    have h2 := h.2
    rcases hk with hk | hk | hk
    · exact Or.inl hk
    · rw [hk] at h2
      right; left
      refine ⟨hk, ?_⟩
      have : i + r.f0.size = s.size := by simpa using h2
      rw [this, ← z, List.drop_length]
    · rw [hk] at h2
      right; right
      refine ⟨hk, ?_, ?_⟩
      · have h3 : i = 0 ∨ s.data.toList.getD (i - 1) 0 = 32 := by simp at h2; simpa using h2.1
        rcases h3 with rfl | h3
        · left; simp
        · by_cases h0 : i = 0
          · subst h0; left; simp
          · right
            rw [List.getLast?_eq_getElem?, List.length_take, Nat.min_eq_left (by omega), List.getElem?_take, if_pos (by omega)]
            rw [List.getD_eq_getElem?_getD] at h3
            cases hg : s.data.toList[i - 1]? with
            | none => rw [hg] at h3; exact absurd h3 (by decide)
            | some x => rw [hg] at h3; rw [show x = 32 from h3]
      · have h3 : i + r.f0.size = s.size ∨ s.data.toList.getD (i + r.f0.size) 0 = 32 := by simp at h2; simpa using h2.2
        rcases h3 with h3 | h3
        · left; rw [h3, ← z, List.drop_length]
        · right
          rw [List.head?_drop]
          rw [List.getD_eq_getElem?_getD] at h3
          cases hg : s.data.toList[i + r.f0.size]? with
          | none => rw [hg] at h3; exact absurd h3 (by decide)
          | some x => rw [hg] at h3; rw [show x = 32 from h3]
theorem parts_at {r : S49} {s : ByteArray} {u v : List UInt8} (hs : s.data.toList = u ++ r.f0.data.toList ++ v) (hc : condL r.f2 u v) : atT r s u.length = true := by
  have z : s.data.toList.length = s.size := by simp
  have z0 : r.f0.data.toList.length = r.f0.size := by simp
  have zs : s.size = u.length + r.f0.size + v.length := by rw [← z, hs]; simp; omega
  unfold atT
  have e1 : (s.extract u.length s.size).data.toList = r.f0.data.toList ++ v := by
    rw [ext_list, ← z, ← List.length_drop, List.take_length, hs, List.append_assoc, List.drop_left]
  have hpre : Lib.hasPrefix (s.extract u.length s.size).data.toList r.f0.data.toList = true := by
    unfold Lib.hasPrefix
    rw [e1]
    exact List.isPrefixOf_iff_prefix.2 ⟨v, rfl⟩
  rw [hpre, Bool.true_and]
  rcases hc with hc | ⟨hc, rfl⟩ | ⟨hc, hu, hv⟩
  · rw [if_pos hc]
  · rw [hc]
    simp only [List.length_nil, Nat.add_zero] at zs
    simp [zs]
  · rw [hc]
    have g1 : (decide (u.length = 0) || s.data.toList.getD (u.length - 1) 0 == 32) = true := by
      rcases hu with rfl | hu
      · rfl
      · by_cases h0 : u.length = 0
        · rw [decide_eq_true h0]; rfl
        · rw [List.getLast?_eq_getElem?] at hu
          have : s.data.toList[u.length - 1]? = some 32 := by
            rw [hs, List.append_assoc, List.getElem?_append_left (by omega)]
            exact hu
          rw [List.getD_eq_getElem?_getD, this]
          simp
    have g2 : (decide (u.length + r.f0.size = s.size) || s.data.toList.getD (u.length + r.f0.size) 0 == 32) = true := by
      rcases hv with rfl | hv
      · rw [decide_eq_true (by simp only [List.length_nil, Nat.add_zero] at zs; omega)]; rfl
      · have : s.data.toList[u.length + r.f0.size]? = some 32 := by
          rw [hs, List.getElem?_append_right (by simp), List.length_append, z0, Nat.sub_self, ← List.head?_eq_getElem?]
          exact hv
        rw [List.getD_eq_getElem?_getD, this]
        simp
    simp only [show ¬ (3 : Int) = 0 from by decide, show ¬ (3 : Int) = 1 from by decide, show ¬ (3 : Int) = 2 from by decide, if_false, if_true, g1, g2]
    rfl
theorem once_none (l : List S49) (s : ByteArray) : ∀ m i, (onceFrom l s m i).2 = -1 → ∀ j, i ≤ j → j < i + m → ∀ r ∈ l, atT r s j = false
  | 0, i, _, j, h1, h2, _, _ => by omega
  | m + 1, i, h, j, h1, h2, r, hr => by
    simp only [onceFrom] at h
    by_cases h0 : 0 ≤ firstI (fun r => atT r s i) l 0
    · rw [if_pos h0] at h
      simp only at h
      omega
    · rw [if_neg h0] at h
      by_cases hj : j = i
      · subst hj
        cases hx : atT r s j with
        | false => rfl
        | true => exact absurd (firstI_some (fun r => atT r s j) l 0 ⟨r, hr, hx⟩) h0
      · exact once_none l s m (i + 1) h j (by omega) (by omega) r hr
theorem once_cases2 (l : List S49) (s : ByteArray) : ∀ m i, (onceFrom l s m i).2 = -1 ∨ ∃ r ∈ l, ∃ j, j < i + m ∧ atT r s j = true ∧ (onceFrom l s m i).1 = replT r s j ∧ 0 ≤ (onceFrom l s m i).2
  | 0, i => Or.inl rfl
  | m + 1, i => by
    simp only [onceFrom]
    by_cases h : 0 ≤ firstI (fun r => atT r s i) l 0
    · rw [if_pos h]
      right
      have h1 := firstI_at (fun r => atT r s i) l 0 h
      have h2 := firstI_lt (fun r => atT r s i) l 0
      rw [Int.natCast_zero, Int.sub_zero] at h1
      have hn : (firstI (fun r => atT r s i) l 0).toNat < l.length := by omega
      refine ⟨_, ?_, i, by omega, h1, rfl, h⟩
      rw [List.getD_eq_getElem?_getD, List.getElem?_eq_getElem hn]
      exact List.getElem_mem hn
    · rw [if_neg h]
      rcases once_cases2 l s m (i + 1) with h2 | ⟨r, hr, j, hj, h3⟩
      · exact Or.inl h2
      · exact Or.inr ⟨r, hr, j, by omega, h3⟩
theorem foldB_neat {q : ByteArray} (h : ∀ b ∈ q.data.toList, LS b) (hn : q.data.toList = [] ∨ okN true q.data.toList = true) : foldB q = q := by
  unfold foldB
  rw [neat_fold h hn]
/-- What reduce makes of a text, if a function of lists is kept by each step and is the identity where no rule matches. -/
theorem reduce_nf (l : List S49) (nf : List UInt8 → List UInt8) (hr : ∀ r ∈ l, ruleT r = true) (hw : ∀ r ∈ l, Word r.f0.data.toList ∧ Word r.f1.data.toList) (hk : ∀ r ∈ l, r.f2 = 0 ∨ r.f2 = 2 ∨ r.f2 = 3)
    (hstep : ∀ r ∈ l, ∀ u v, condL r.f2 u v → nf (u ++ r.f1.data.toList ++ v) = nf (u ++ r.f0.data.toList ++ v))
    (hfix : ∀ s : List UInt8, (∀ r ∈ l, ∀ u v, condL r.f2 u v → s ≠ u ++ r.f0.data.toList ++ v) → nf s = s) :
    ∀ (m : Nat) (q : ByteArray), meas q.data.toList < m → (∀ b ∈ q.data.toList, LS b) → (q.data.toList = [] ∨ okN true q.data.toList = true) → q.data.toList.length ≤ 1000 → (reduceFrom l m q).data.toList = nf q.data.toList := by
  intro m
  induction m with
  | zero =>
    intro q h _ _ _
    generalize meas q.data.toList = k at h
    omega
  | succ m ih =>
    intro q hm hLS hn hl
    unfold reduceFrom
    have hc := once_cases2 l q (q.size + 1) 0
    change (onceT l q).2 = -1 ∨ ∃ r ∈ l, ∃ j, j < 0 + (q.size + 1) ∧ atT r q j = true ∧ (onceT l q).1 = replT r q j ∧ 0 ≤ (onceT l q).2 at hc
    rcases hc with hc | ⟨r, hrm, j, hj, hat, e1, e2⟩
    · rw [if_pos (by omega)]
      refine (hfix _ fun r hrm u v hcd he => ?_).symm
      have h1 := once_none l q (q.size + 1) 0 hc u.length (Nat.zero_le _) (by
        have : q.data.toList.length = q.size := by simp
        rw [he] at this
        simp at this
        omega) r hrm
      rw [parts_at he hcd] at h1
      cases h1
    · rw [if_neg (by omega), e1]
      obtain ⟨u, v, h1, h2, h3⟩ := at_parts (by omega) (hk r hrm) hat
      have s1 := step_meas (hr r hrm) hLS hl hat
      have s2 := step_LS (hr r hrm) hLS hat
      have s3 := step_len (hr r hrm) hat
      have s4 : (replT r q j).data.toList = [] ∨ okN true (replT r q j).data.toList = true := by
        right
        rw [h2]
        rcases hn with hn | hn
        · exfalso
          rw [hn] at h1
          have := (hw r hrm).1.1
          simp at h1
          exact this (by simp [h1.2.1])
        · rw [h1] at hn
          exact okN_step (hw r hrm).1 (hw r hrm).2 u v true hn
      rw [foldB_neat s2 s4]
      have s5 := neat_fold s2 s4
      rw [s5] at s1
      rw [ih _ (by omega) s2 s4 (by omega), h2, hstep r hrm u v h3, h1]
#print axioms reduce_nf
end Go.Proofs.YtpejnnnkamodbaaDoor
/- reportescrowlaw12.awake: true. -/
namespace Go.Proofs.YtpejnnnkamodbaaDoor
open Go Go.RowKit Go.Lib Go.Proofs.YtpejnnnkamodbaaDoorW.PrintWords Go.Proofs.YtpejnnnkamodbaaDoorW.PrintLast
open PCanonEqual (S49 k49 z49 k49_mk k49_mkM k49_open)

def cells49 (a : S49) : List Value := [.string a.f0, .string a.f1, .int .i64 a.f2]
theorem flat49_get : ∀ (l : List S49) (j i : Nat) (p : S49), l[j]? = some p → i < 3 → (l.flatMap cells49)[j * 3 + i]? = (cells49 p)[i]?
  | [], j, i, p, h, _ => by simp at h
  | a :: l, 0, i, p, h, hi => by
    simp only [List.getElem?_cons_zero, Option.some.injEq] at h
    subst h
    rw [List.flatMap_cons, List.getElem?_append_left (by simp [cells49]; omega)]
    simp
  | a :: l, j + 1, i, p, h, hi => by
    rw [List.flatMap_cons, List.getElem?_append_right (by simp [cells49]; omega)]
    have e : (j + 1) * 3 + i - (cells49 a).length = j * 3 + i := by simp [cells49]; omega
    rw [e]
    exact flat49_get l j i p (by simpa using h) hi
/-- A block that holds rules is a row that is read. -/
theorem C49_block {w : World} {b : Nat} {l : List S49} {cs : Array Value} (h : w.heap[b]? = some (.cells cs 49 (0, 0))) (hcs : cs.toList = l.flatMap cells49) (hl : l.length ≤ 1000) : Kd.C k49 w (some ⟨b, 0, none⟩) l.length l := by
  refine ⟨rfl, by omega, fun _ => ⟨_, rfl, fun j p hj => ⟨cells49 p, rfl, k49_mk w p, fun i u hi => ?_⟩⟩⟩
  have hi3 : i < 3 := by have := (List.getElem?_eq_some_iff.1 hi).1; simpa [cells49] using this
  have e : (⟨b, 0, none⟩ : Addr).add (j * k49.sz + i) = ⟨b, j * 3 + i, none⟩ := by
    show (⟨b, 0, none⟩ : Addr).add (j * 3 + i) = _
    simp [Addr.add]; omega
  rw [e, cell_row h, ← Array.getElem?_toList, hcs, flat49_get l j i p hj hi3]
  exact hi
def exR : List S49 := [⟨⟨#[112, 104]⟩, ⟨#[102]⟩, 0⟩, ⟨⟨#[106, 114]⟩, ⟨#[]⟩, 3⟩]
theorem exR_apply : applyT exR ⟨#[74, 111, 115, 101, 112, 104, 32, 74, 114]⟩ = (⟨#[106, 111, 115, 101, 102]⟩, 0) := by decide +kernel
set_option maxHeartbeats 4000000 in
set_option maxRecDepth 100000 in
theorem awake12_ok (w : World) (hT : Tabs w) : Calls Tryd.prog 34 #[] w fun e w' => e = .returned (.bool true) ∧ Below w.heap.size w w' := by
  have hbA : Below w.heap.size w (w.alloc (Obj.cells #[Value.string ⟨#[112, 104]⟩, Value.string ⟨#[102]⟩, Value.int IntKind.i64 0, Value.string ⟨#[106, 114]⟩, Value.string ⟨#[]⟩, Value.int IntKind.i64 3] 49)) := (Below.refl _ _).alloc (Nat.le_refl _) _
  have c1 := apply_ok (some ⟨w.heap.size, 0, none⟩) 2 exR ⟨#[74, 111, 115, 101, 112, 104, 32, 74, 114]⟩ _ (hT.below hbA hT.six) (C49_block (heap_alloc_new w _) rfl (by decide))
  rw [exR_apply] at c1
  replace c1 := Lib.hid c1
  go_enter Tryd.func34, Tryd.ntmps34
  go_wp2_with fail
  refine c1.out.mono ?_
  rintro e w1 ⟨rfl, hb1⟩
  have hb1' := hbA.trans (hb1.mono hbA.size)
  go_wp2_with fail
  go_ret
  exact ⟨rfl, hb1'⟩
#print axioms awake12_ok
end Go.Proofs.YtpejnnnkamodbaaDoor
