/- reportescrowlaw13.awake: true. -/
import Derived.Test.YtpejnnnkamodbaaDoorWGood
namespace Go.Proofs.YtpejnnnkamodbaaDoor
open Go Go.RowKit Go.Maps Go.WideMaps Go.Proofs.YtpejnnnkamodbaaDoorW.PrintWords Go.Proofs.YtpejnnnkamodbaaDoorW.PrintLast
open PCanonEqual (S40 k40 z40)

theorem name_word (l : List UInt8) (h : Word l) (hl : l.length ≤ 256) : nameT ⟨l.toArray⟩ = true := by
  unfold nameT plainT
  rw [ByteArray.toList_eq]
  have h1 : (⟨l.toArray⟩ : ByteArray).data.toList = l := by simp
  have h2 : (⟨l.toArray⟩ : ByteArray).size = l.length := by show l.toArray.size = _; simp
  rw [h1, h2, fold_word l h]
  have h3 : l.isEmpty = false := by
    cases l with
    | nil => exact absurd rfl h.1
    | cons _ _ => rfl
  simp [h3, hl]
theorem right_words (l1 l2 : List UInt8) (t : Int) (g : Bool) (h1 : Word l1) (h2 : Word l2) (hl1 : l1.length ≤ 256) (hl2 : l2.length ≤ 256) (hne : (l1 == l2) = false) (h0 : 0 ≤ t) (hm : t ≤ 1099511627776) : rightT ⟨⟨l1.toArray⟩, ⟨l2.toArray⟩, t, g⟩ = true := by
  unfold rightT
  simp only
  rw [name_word l1 h1 hl1, name_word l2 h2 hl2, ByteArray.toList_eq, ByteArray.toList_eq]
  simp [h0, hm]
  simpa using hne
theorem add_val {l : List S40} {a : S40} {n : Int} (h : AddT l a n) (hv : validT l = true) (hr : rightT a = true) (he : earlyT l a = false) (hl : l.length < 256) (hc : ¬ Loops (presT (l ++ [a]) a.f2) a.f0 ∨ a.f3 = true) : n = 0 := by
  rcases h with ⟨h | h, _⟩ | ⟨_, _, ⟨h, _⟩ | ⟨_, ⟨h, _⟩ | ⟨_, ⟨h, h2, _⟩ | ⟨_, h⟩⟩⟩⟩
  · rw [hv] at h; cases h
  · rw [hr] at h; cases h
  · rw [he] at h; cases h
  · omega
  · rcases hc with hc | hc
    · exact absurd h hc
    · rw [hc] at h2; cases h2
  · exact h
def bobB : ByteArray := ⟨#[98, 111, 98]⟩
def robertB : ByteArray := ⟨#[114, 111, 98, 101, 114, 116]⟩
def exA : S40 := ⟨⟨#[98, 111, 98]⟩, ⟨#[114, 111, 98, 101, 114, 116]⟩, 3, false⟩
def exB : S40 := ⟨⟨#[98, 111, 98]⟩, ⟨#[120]⟩, 9, true⟩
theorem exA_right : rightT exA = true := right_words [98, 111, 98] [114, 111, 98, 101, 114, 116] 3 false ⟨by decide, by decide⟩ ⟨by decide, by decide⟩ (by decide) (by decide) (by decide) (by decide) (by decide)
theorem exB_right : rightT exB = true := right_words [98, 111, 98] [120] 9 true ⟨by decide, by decide⟩ ⟨by decide, by decide⟩ (by decide) (by decide) (by decide) (by decide) (by decide)
theorem ne_rb : robertB ≠ bobB := by decide
theorem exA_leads (t : Int) (h : 3 ≤ t) : Leads (presT [exA] t) bobB robertB := by
  have e : ∀ s, presT [exA] t s = if s = bobB then some exA else none := fun s => by
    show layA t (fun _ => none) exA s = _
    unfold layA
    rw [if_neg (show ¬ exA.f2 > t by show ¬ (3 : Int) > t; omega)]
    rfl
  refine .step (a := exA) (by rw [e, if_pos rfl]) (.done ?_)
  rw [e, if_neg]
  exact ne_rb
theorem ex_add1 {n : Int} (h : AddT [] exA n) : n = 0 := add_val h rfl exA_right rfl (by decide) (Or.inl fun h => h ⟨_, exA_leads 3 (by decide)⟩)
theorem ex_valid1 : validT [exA] = true := valid_add (l := []) rfl exA_right rfl (by decide)
theorem ex_add2 {n : Int} (h : AddT [exA] exB n) : n = 0 := add_val h ex_valid1 exB_right rfl (by decide) (Or.inr rfl)
theorem ex_good1 : Sound40 [exA] := add_good (l := []) good_nil (Or.inr ⟨rfl, exA_right, Or.inr ⟨rfl, Or.inr ⟨by decide, Or.inr ⟨Or.inl fun h => h ⟨_, exA_leads 3 (by decide)⟩, rfl⟩⟩⟩⟩)
theorem ex_good2 : Sound40 [exA, exB] := add_good (l := [exA]) ex_good1 (Or.inr ⟨ex_valid1, exB_right, Or.inr ⟨rfl, Or.inr ⟨by decide, Or.inr ⟨Or.inr rfl, rfl⟩⟩⟩⟩)
theorem ex_f5 {r : ByteArray} {e : Int} (h : FollowT [exA, exB] bobB 5 r e) : e = 0 ∧ r = robertB := by
  obtain ⟨h1, h2⟩ := follow_good ex_good2 h
  refine ⟨h1, leads_det h2 ?_⟩
  have e5 : presT [exA, exB] 5 = presT [exA] 5 := by
    rw [show [exA, exB] = [exA] ++ [exB] from rfl, presT_add]
    unfold layA
    rw [if_pos (show exB.f2 > 5 by decide)]
  rw [e5]
  exact exA_leads 5 (by decide)
theorem ex_f9 {r : ByteArray} {e : Int} (h : FollowT [exA, exB] bobB 9 r e) : e = 0 ∧ r = bobB := by
  obtain ⟨h1, h2⟩ := follow_good ex_good2 h
  refine ⟨h1, leads_det h2 (.done ?_)⟩
  rw [show [exA, exB] = [exA] ++ [exB] from rfl, presT_add]
  unfold layA
  rw [if_neg (show ¬ exB.f2 > 9 by decide)]
  rfl
set_option maxHeartbeats 4000000 in
set_option maxRecDepth 100000 in
theorem awake13_ok (w : World) (hT : Tabs w) : Calls Tryd.prog 26 #[] w fun e w' => e = .returned (.bool true) ∧ Below w.heap.size w w' := by
  have c1 := Lib.hid (add_ok none 0 [] exA w hT ⟨rfl, by decide, fun h => absurd h (by simp)⟩)
  go_enter Tryd.func26, Tryd.ntmps26
  go_wp2_with fail
  refine c1.out.mono ?_
  rintro e w1 ⟨⟨v1, n1, hadd1, rfl, hv1⟩, hb1⟩
  obtain rfl := ex_add1 hadd1
  have hR1 : Kd.R k40 40 w1 w.heap.size (fun _ => True) v1 ([] ++ [exA]) := by
    rcases hv1 with ⟨h, _⟩ | ⟨_, h⟩
    · exact absurd rfl h
    · exact h
  obtain ⟨A1, k1, rfl, hk1, hC1⟩ := Kd.R_reads hR1
  clear hv1 hadd1 hR1 hk1 c1
  have c2 := Lib.hid (add_ok A1 k1 [exA] exB w1 (hT.below hb1 hT.six) hC1)
  replace hC1 := Lib.hid hC1
  go_wp2_with fail
  refine c2.out.mono ?_
  rintro e w2 ⟨⟨v2, n2, hadd2, rfl, hv2⟩, hb2⟩
  obtain rfl := ex_add2 hadd2
  have hb2' := hb1.trans (hb2.mono hb1.size)
  have hR2 : Kd.R k40 40 w2 w1.heap.size (fun _ => True) v2 ([exA] ++ [exB]) := by
    rcases hv2 with ⟨h, _⟩ | ⟨_, h⟩
    · exact absurd rfl h
    · exact h
  obtain ⟨A2, k2, rfl, hk2, hC2⟩ := Kd.R_reads hR2
  clear hv2 hadd2 hR2 hk2 c2 hC1
  have c3 := Lib.hid (followAll_ok A2 k2 [exA, exB] bobB 5 w2 (hT.below hb2' hT.six) hC2 (by decide))
  have c4 := Lib.hid (fun w3 (hb : Below w2.heap.size w2 w3) => followAll_ok A2 k2 [exA, exB] bobB 9 w3 (hT.below (hb2'.trans (hb.mono hb2'.size)) hT.six) (Kd.C_below hC2 hb) (by decide))
  replace hC2 := Lib.hid hC2
  go_wp2_with fail
  refine c3.out.mono ?_
  rintro e w3 ⟨⟨r3, n3, hf3, rfl⟩, hb3⟩
  obtain ⟨rfl, rfl⟩ := ex_f5 hf3
  clear hf3 c3
  go_wp2_with fail
  refine (c4.out w3 hb3).mono ?_
  rintro e w4 ⟨⟨r4, n4, hf4, rfl⟩, hb4⟩
  obtain ⟨rfl, rfl⟩ := ex_f9 hf4
  clear hf4 c4
  have tr : (robertB.toList = [114, 111, 98, 101, 114, 116]) = True := by rw [ByteArray.toList_eq]; exact eq_true rfl
  have tr2 : (robertB.toList == [114, 111, 98, 101, 114, 116]) = true := by rw [ByteArray.toList_eq]; rfl
  have tb : (bobB.toList == [98, 111, 98]) = true := by rw [ByteArray.toList_eq]; rfl
  have hb4' := hb2'.trans ((hb3.trans (hb4.mono hb3.size)).mono hb2'.size)
  go_wp2_with fail
  go_ret
  exact ⟨rfl, hb4'⟩
#print axioms awake13_ok
end Go.Proofs.YtpejnnnkamodbaaDoor
