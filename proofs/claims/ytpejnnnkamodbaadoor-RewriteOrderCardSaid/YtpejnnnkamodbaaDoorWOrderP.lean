/- Plain law of RewriteOrder: two rules without common letters give one text, in any order. -/
import Derived.Test.YtpejnnnkamodbaaDoorWRwB
namespace Go.Proofs.YtpejnnnkamodbaaDoor
open Go Go.Lib
open PCanonEqual (S49 z49)

def ruleA : Nat → S49
  | 0 => ⟨⟨#[112, 104]⟩, ⟨#[104]⟩, 0⟩
  | 1 => ⟨⟨#[112, 112]⟩, ⟨#[112]⟩, 0⟩
  | _ => ⟨⟨#[104, 112]⟩, ⟨#[112]⟩, 2⟩
def ruleB : Nat → S49
  | 0 => ⟨⟨#[122, 122]⟩, ⟨#[122]⟩, 0⟩
  | 1 => ⟨⟨#[115, 122]⟩, ⟨#[115]⟩, 3⟩
  | _ => ⟨⟨#[122]⟩, ⟨#[115]⟩, 0⟩
def finN (ib : Nat) (r : List UInt8) : List UInt8 := if ib = 1 ∧ r.take 2 = [115, 122] ∧ (r.drop 2 = [] ∨ (r.drop 2).head? = some 32) then 115 :: r.drop 2 else r
def consN (ia ib : Nat) (x : UInt8) (r : List UInt8) : List UInt8 :=
  if x = 112 then (if ia = 0 ∧ r.head? = some 104 then r else if ia = 1 ∧ r.head? = some 112 then r else 112 :: r)
  else if x = 104 then (if ia = 2 ∧ r = [112] then r else 104 :: r)
  else if x = 122 then (if ib = 0 ∧ r.head? = some 122 then r else if ib = 2 then 115 :: r else 122 :: r)
  else if x = 32 then 32 :: finN ib r
  else x :: r
def nfN (ia ib : Nat) (l : List UInt8) : List UInt8 := finN ib (l.foldr (consN ia ib) [])
theorem cons_112 (ia ib : Nat) (r : List UInt8) : consN ia ib 112 r = (if ia = 0 ∧ r.head? = some 104 then r else if ia = 1 ∧ r.head? = some 112 then r else 112 :: r) := by unfold consN; rw [if_pos rfl]
theorem cons_104 (ia ib : Nat) (r : List UInt8) : consN ia ib 104 r = (if ia = 2 ∧ r = [112] then r else 104 :: r) := by unfold consN; rw [if_neg (by decide), if_pos rfl]
theorem cons_122 (ia ib : Nat) (r : List UInt8) : consN ia ib 122 r = (if ib = 0 ∧ r.head? = some 122 then r else if ib = 2 then 115 :: r else 122 :: r) := by unfold consN; rw [if_neg (by decide), if_neg (by decide), if_pos rfl]
theorem cons_32 (ia ib : Nat) (r : List UInt8) : consN ia ib 32 r = 32 :: finN ib r := by unfold consN; rw [if_neg (by decide), if_neg (by decide), if_neg (by decide), if_pos rfl]
theorem cons_115 (ia ib : Nat) (r : List UInt8) : consN ia ib 115 r = 115 :: r := by unfold consN; rw [if_neg (by decide), if_neg (by decide), if_neg (by decide), if_neg (by decide)]
theorem head_foldr (ia ib : Nat) (v : List UInt8) (h : v = [] ∨ v.head? = some 32) : v.foldr (consN ia ib) [] = [] ∨ (v.foldr (consN ia ib) []).head? = some 32 := by
  rcases h with rfl | h
  · exact Or.inl rfl
  · cases v with
    | nil => cases h
    | cons x v =>
      simp only [List.head?_cons, Option.some.injEq] at h
      subst h
      right
      rw [List.foldr_cons, cons_32]
      rfl
theorem fin_sz (v : List UInt8) (h : v = [] ∨ v.head? = some 32) : finN 1 (115 :: 122 :: v) = 115 :: v := by
  unfold finN
  rw [if_pos ⟨rfl, rfl, h⟩]
  rfl
theorem fin_s (v : List UInt8) (h : v = [] ∨ v.head? = some 32) : finN 1 (115 :: v) = 115 :: v := by
  unfold finN
  rw [if_neg]
  rintro ⟨-, h2, -⟩
  rcases h with rfl | h
  · simp at h2
  · cases v with
    | nil => simp at h2
    | cons x v =>
      simp only [List.head?_cons, Option.some.injEq] at h
      subst h
      simp at h2
theorem nf_congr {ia ib : Nat} {x y : List UInt8} (h : x.foldr (consN ia ib) [] = y.foldr (consN ia ib) []) (u : List UInt8) : nfN ia ib (u ++ x) = nfN ia ib (u ++ y) := by
  unfold nfN
  rw [List.foldr_append, List.foldr_append, h]
theorem nf_stepA (ia ib : Nat) (ha : ia ≤ 2) (u v : List UInt8) (h : condL (ruleA ia).f2 u v) : nfN ia ib (u ++ (ruleA ia).f1.data.toList ++ v) = nfN ia ib (u ++ (ruleA ia).f0.data.toList ++ v) := by
  rw [List.append_assoc, List.append_assoc]
  refine nf_congr ?_ u
  rw [List.foldr_append, List.foldr_append]
  rcases ia with _ | _ | ia
  · show consN 0 ib 104 (v.foldr (consN 0 ib) []) = consN 0 ib 112 (consN 0 ib 104 (v.foldr (consN 0 ib) []))
    generalize v.foldr (consN 0 ib) [] = r
    rw [cons_104, if_neg (by simp), cons_112, if_pos ⟨rfl, rfl⟩]
  · show consN 1 ib 112 (v.foldr (consN 1 ib) []) = consN 1 ib 112 (consN 1 ib 112 (v.foldr (consN 1 ib) []))
    generalize v.foldr (consN 1 ib) [] = r
    rw [cons_112 1 ib r, if_neg (by simp)]
    by_cases hr : r.head? = some 112
    · rw [if_pos ⟨rfl, hr⟩, cons_112, if_neg (by simp), if_pos ⟨rfl, hr⟩]
    · rw [if_neg (fun h => hr h.2), cons_112, if_neg (by simp), if_pos ⟨rfl, rfl⟩]
  · have hv : v = [] := by
      rcases h with h | h | h
      · exact absurd h (by show ¬ (2 : Int) = 0; decide)
      · exact h.2
      · exact absurd h.1 (by show ¬ (2 : Int) = 3; decide)
    subst hv
    show consN (ia + 2) ib 112 [] = consN (ia + 2) ib 104 (consN (ia + 2) ib 112 [])
    have e : consN (ia + 2) ib 112 [] = [112] := by rw [cons_112, if_neg (by simp), if_neg (by simp)]
    rw [e, cons_104]
    rw [if_pos ⟨by omega, rfl⟩]
theorem nf_stepB (ia ib : Nat) (hb : ib ≤ 2) (u v : List UInt8) (h : condL (ruleB ib).f2 u v) : nfN ia ib (u ++ (ruleB ib).f1.data.toList ++ v) = nfN ia ib (u ++ (ruleB ib).f0.data.toList ++ v) := by
  rcases ib with _ | _ | _ | ib
  · rw [List.append_assoc, List.append_assoc]
    refine nf_congr ?_ u
    rw [List.foldr_append, List.foldr_append]
    show consN ia 0 122 (v.foldr (consN ia 0) []) = consN ia 0 122 (consN ia 0 122 (v.foldr (consN ia 0) []))
    generalize v.foldr (consN ia 0) [] = r
    rw [cons_122 ia 0 r]
    by_cases hr : r.head? = some 122
    · rw [if_pos ⟨rfl, hr⟩, cons_122, if_pos ⟨rfl, hr⟩]
    · rw [if_neg (fun h => hr h.2), if_neg (by decide), cons_122, if_pos ⟨rfl, rfl⟩]
  · have hh : (u = [] ∨ u.getLast? = some 32) ∧ (v = [] ∨ v.head? = some 32) := by
      rcases h with h | h | h
      · exact absurd h (by show ¬ (3 : Int) = 0; decide)
      · exact absurd h.1 (by show ¬ (3 : Int) = 2; decide)
      · exact h.2
    obtain ⟨hu, hv⟩ := hh
    have hr := head_foldr ia 1 v hv
    show nfN ia 1 (u ++ [115] ++ v) = nfN ia 1 (u ++ [115, 122] ++ v)
    have e1 : ([115] ++ v).foldr (consN ia 1) [] = 115 :: v.foldr (consN ia 1) [] := by
      rw [List.foldr_append]
      show consN ia 1 115 (v.foldr (consN ia 1) []) = _
      rw [cons_115]
    have e2 : ([115, 122] ++ v).foldr (consN ia 1) [] = 115 :: 122 :: v.foldr (consN ia 1) [] := by
      rw [List.foldr_append]
      show consN ia 1 115 (consN ia 1 122 (v.foldr (consN ia 1) [])) = _
      rw [cons_115, cons_122, if_neg (by simp), if_neg (by decide)]
    rcases hu with rfl | hu
    · unfold nfN
      rw [List.nil_append, List.nil_append, e1, e2, fin_sz _ hr, fin_s _ hr]
    · obtain ⟨u', rfl⟩ := List.getLast?_eq_some_iff.1 hu
      have a1 : u' ++ [32] ++ [115] ++ v = u' ++ (32 :: ([115] ++ v)) := by simp
      have a2 : u' ++ [32] ++ [115, 122] ++ v = u' ++ (32 :: ([115, 122] ++ v)) := by simp
      rw [a1, a2]
      refine nf_congr ?_ u'
      rw [List.foldr_cons, List.foldr_cons, e1, e2, cons_32, cons_32, fin_sz _ hr, fin_s _ hr]
  · rw [List.append_assoc, List.append_assoc]
    refine nf_congr ?_ u
    rw [List.foldr_append, List.foldr_append]
    show consN ia 2 115 (v.foldr (consN ia 2) []) = consN ia 2 122 (v.foldr (consN ia 2) [])
    rw [cons_115, cons_122, if_neg (by simp), if_pos rfl]
  · omega
theorem nf_fix (ia ib : Nat) (ha : ia ≤ 2) (hb : ib ≤ 2) (s : List UInt8) (hA : ∀ u v, condL (ruleA ia).f2 u v → s ≠ u ++ (ruleA ia).f0.data.toList ++ v) (hB : ∀ u v, condL (ruleB ib).f2 u v → s ≠ u ++ (ruleB ib).f0.data.toList ++ v) : nfN ia ib s = s := by
  have hfin : ∀ u r, s = u ++ r → (u = [] ∨ u.getLast? = some 32) → finN ib r = r := by
    intro u r hs hu
    unfold finN
    rw [if_neg]
    rintro ⟨rfl, h2, h3⟩
    refine hB u (r.drop 2) (Or.inr (Or.inr ⟨rfl, hu, h3⟩)) ?_
    rw [hs, List.append_assoc]
    show u ++ r = u ++ ([115, 122] ++ r.drop 2)
    rw [← h2, List.take_append_drop]
  have hmain : ∀ r u, s = u ++ r → r.foldr (consN ia ib) [] = r := by
    intro r
    induction r with
    | nil => intro u _; rfl
    | cons x r ih =>
      intro u hs
      rw [List.foldr_cons, ih (u ++ [x]) (by simpa using hs)]
      unfold consN
      by_cases h1 : x = 112
      · subst h1
        rw [if_pos rfl, if_neg, if_neg]
        · rintro ⟨rfl, h2⟩
          cases r with
          | nil => cases h2
          | cons y r =>
            simp only [List.head?_cons, Option.some.injEq] at h2
            subst h2
            exact hA u r (Or.inl rfl) (by rw [hs]; simp [ruleA])
        · rintro ⟨rfl, h2⟩
          cases r with
          | nil => cases h2
          | cons y r =>
            simp only [List.head?_cons, Option.some.injEq] at h2
            subst h2
            exact hA u r (Or.inl rfl) (by rw [hs]; simp [ruleA])
      · rw [if_neg h1]
        by_cases h2 : x = 104
        · subst h2
          rw [if_pos rfl, if_neg]
          rintro ⟨rfl, rfl⟩
          exact hA u [] (Or.inr (Or.inl ⟨rfl, rfl⟩)) (by rw [hs]; simp [ruleA])
        · rw [if_neg h2]
          by_cases h3 : x = 122
          · subst h3
            rw [if_pos rfl, if_neg, if_neg]
            · rintro rfl
              exact hB u r (Or.inl rfl) (by rw [hs]; simp [ruleB])
            · rintro ⟨rfl, h4⟩
              cases r with
              | nil => cases h4
              | cons y r =>
                simp only [List.head?_cons, Option.some.injEq] at h4
                subst h4
                exact hB u r (Or.inl rfl) (by rw [hs]; simp [ruleB])
          · rw [if_neg h3]
            by_cases h4 : x = 32
            · subst h4
              rw [if_pos rfl, hfin (u ++ [32]) r (by simpa using hs) (Or.inr (by simp))]
            · rw [if_neg h4]
  unfold nfN
  rw [hmain s [] rfl]
  exact hfin [] s rfl (Or.inl rfl)
theorem ruleA_right : ∀ ia ≤ 2, ruleT (ruleA ia) = true := by decide +kernel
theorem ruleB_right : ∀ ib ≤ 2, ruleT (ruleB ib) = true := by decide +kernel
theorem word_dec {w : List UInt8} (h : (!w.isEmpty && w.all letB) = true) : Word w := by
  simp only [Bool.and_eq_true, List.all_eq_true] at h
  exact ⟨by rintro rfl; simp at h, h.2⟩
theorem rules_words (ia ib : Nat) (ha : ia ≤ 2) (hb : ib ≤ 2) : ∀ r, (r = ruleA ia ∨ r = ruleB ib) → Word r.f0.data.toList ∧ Word r.f1.data.toList := by
  have hA : ∀ ia ≤ 2, (!(ruleA ia).f0.data.toList.isEmpty && (ruleA ia).f0.data.toList.all letB) = true ∧ (!(ruleA ia).f1.data.toList.isEmpty && (ruleA ia).f1.data.toList.all letB) = true := by decide
  have hB : ∀ ib ≤ 2, (!(ruleB ib).f0.data.toList.isEmpty && (ruleB ib).f0.data.toList.all letB) = true ∧ (!(ruleB ib).f1.data.toList.isEmpty && (ruleB ib).f1.data.toList.all letB) = true := by decide
  rintro r (rfl | rfl)
  · exact ⟨word_dec (hA ia ha).1, word_dec (hA ia ha).2⟩
  · exact ⟨word_dec (hB ib hb).1, word_dec (hB ib hb).2⟩
theorem rules_kinds (ia ib : Nat) (ha : ia ≤ 2) (hb : ib ≤ 2) : ∀ r, (r = ruleA ia ∨ r = ruleB ib) → r.f2 = 0 ∨ r.f2 = 2 ∨ r.f2 = 3 := by
  have hA : ∀ ia ≤ 2, (ruleA ia).f2 = 0 ∨ (ruleA ia).f2 = 2 ∨ (ruleA ia).f2 = 3 := by decide
  have hB : ∀ ib ≤ 2, (ruleB ib).f2 = 0 ∨ (ruleB ib).f2 = 2 ∨ (ruleB ib).f2 = 3 := by decide
  rintro r (rfl | rfl)
  · exact hA ia ha
  · exact hB ib hb
theorem order_nf (ia ib : Nat) (ha : ia ≤ 2) (hb : ib ≤ 2) (l : List S49) (hl : ∀ r ∈ l, r = ruleA ia ∨ r = ruleB ib) (hA : ruleA ia ∈ l) (hB : ruleB ib ∈ l) (s : ByteArray) (hs : s.size ≤ 256) : (reduceT l s).data.toList = nfN ia ib (foldT s.data.toList) := by
  unfold reduceT
  rw [← foldB_list]
  have h1 := fold_LS s.data.toList
  have h2 := fold_neat s.data.toList
  have h3 := fold_len s.data.toList
  have h4 : s.data.toList.length = s.size := by simp
  rw [← foldB_list] at h1 h2 h3
  refine reduce_nf l (nfN ia ib) (fun r hr => ?_) (fun r hr => rules_words ia ib ha hb r (hl r hr)) (fun r hr => rules_kinds ia ib ha hb r (hl r hr)) (fun r hr u v hc => ?_) (fun s hn => nf_fix ia ib ha hb s (fun u v hc => hn _ hA u v hc) (fun u v hc => hn _ hB u v hc)) _ _ (Nat.lt_succ_self _) h1 h2 (by omega)
  · rcases hl r hr with rfl | rfl
    · exact ruleA_right ia ha
    · exact ruleB_right ib hb
  · rcases hl r hr with rfl | rfl
    · exact nf_stepA ia ib ha u v hc
    · exact nf_stepB ia ib hb u v hc
theorem order_same (ia ib : Nat) (ha : ia ≤ 2) (hb : ib ≤ 2) (s : ByteArray) (hs : s.size ≤ 256) : applyT [ruleB ib, ruleA ia] s = applyT [ruleA ia, ruleB ib] s ∧ (applyT [ruleA ia, ruleB ib] s).2 = 0 := by
  have r1 : rulesT [ruleA ia, ruleB ib] = true := (rulesT_iff _).2 ⟨by simp, fun r hr => by
    simp at hr
    rcases hr with rfl | rfl
    · exact ruleA_right ia ha
    · exact ruleB_right ib hb⟩
  have r2 : rulesT [ruleB ib, ruleA ia] = true := (rulesT_iff _).2 ⟨by simp, fun r hr => by
    simp at hr
    rcases hr with rfl | rfl
    · exact ruleB_right ib hb
    · exact ruleA_right ia ha⟩
  have n1 := order_nf ia ib ha hb [ruleA ia, ruleB ib] (by simp) (by simp) (by simp) s hs
  have n2 := order_nf ia ib ha hb [ruleB ib, ruleA ia] (by simp) (by simp) (by simp) s hs
  have e : reduceT [ruleB ib, ruleA ia] s = reduceT [ruleA ia, ruleB ib] s := ByteArray.ext (Array.toList_inj.1 (n2.trans n1.symm))
  have a1 : applyT [ruleA ia, ruleB ib] s = (reduceT [ruleA ia, ruleB ib] s, 0) := by unfold applyT; rw [if_pos r1, if_pos hs]
  have a2 : applyT [ruleB ib, ruleA ia] s = (reduceT [ruleB ib, ruleA ia] s, 0) := by unfold applyT; rw [if_pos r2, if_pos hs]
  rw [a1, a2, e]
  exact ⟨rfl, rfl⟩
#print axioms order_same
end Go.Proofs.YtpejnnnkamodbaaDoor
