/- The kit's rules: some list of at most three; a list of rules that is read stays what it is while the dice are rolled. -/
import Derived.Test.YtpejnnnkamodbaaDoorWAliasB
namespace Go.Proofs.YtpejnnnkamodbaaDoor
open Go Go.RowKit Go.Proofs.YtpejnnnkamodbaaDoorW.PrintWords
open PCanonEqual (S49 k49 z49 rd_T49 at_T49 k49_open k49_mk IsS80)

def allR : List S49 := [(⟨(⟨#[112, 104]⟩ : ByteArray), (⟨#[102]⟩ : ByteArray), 0⟩ : S49), (⟨(⟨#[106, 114]⟩ : ByteArray), (⟨#[]⟩ : ByteArray), 3⟩ : S49), (⟨(⟨#[100, 114, 32]⟩ : ByteArray), (⟨#[]⟩ : ByteArray), 1⟩ : S49), (⟨(⟨#[97, 97]⟩ : ByteArray), (⟨#[97]⟩ : ByteArray), 0⟩ : S49), (⟨(⟨#[109, 117, 101, 108, 108, 101, 114]⟩ : ByteArray), (⟨#[109, 117, 108, 108, 101, 114]⟩ : ByteArray), 2⟩ : S49), (⟨(⟨#[122]⟩ : ByteArray), (⟨#[115]⟩ : ByteArray), 0⟩ : S49), (⟨(⟨#[97, 98]⟩ : ByteArray), (⟨#[98]⟩ : ByteArray), 0⟩ : S49), (⟨(⟨#[97, 32, 98]⟩ : ByteArray), (⟨#[99]⟩ : ByteArray), 0⟩ : S49), (⟨(⟨#[]⟩ : ByteArray), (⟨#[]⟩ : ByteArray), 0⟩ : S49), (⟨(⟨#[97]⟩ : ByteArray), (⟨#[97, 97]⟩ : ByteArray), 0⟩ : S49), (⟨(⟨#[65]⟩ : ByteArray), (⟨#[]⟩ : ByteArray), 0⟩ : S49), (⟨(⟨#[102]⟩ : ByteArray), (⟨#[112, 104]⟩ : ByteArray), 4⟩ : S49)]
theorem allR_len : allR.length = 12 := rfl
theorem l0_eq (k : Nat) (x3 : List S49) (x5 x6 : Int) (l : List Int) (a : Int) : PCanonEqual.reportescrowkit_Rules.l0 (k + 1) x3 x5 x6 l a = if x6 < x5 then ((some allR).bind fun y156 => ((PCanonEqual.reportescrowkit_Dice_Next.f l a 2).bind fun bt159 => ((PCanonEqual.reportescrowkit_Dice_Next.f l bt159.2 (wrap64 (8 + (wrap64 (bt159.1 * 4))))).bind fun bt161 => (if 0 ≤ bt161.1 then (if bt161.1 < (y156.length : Int) then (if x3.length < 3518437208883 then (PCanonEqual.reportescrowkit_Rules.l0 k (x3 ++ [(⟨(rd_T49 y156 bt161.1).f0, (rd_T49 y156 bt161.1).f1, (rd_T49 y156 bt161.1).f2⟩ : S49)]) x5 (wrap64 (x6 + 1)) l bt161.2) else (none)) else (none)) else (none))))) else (some (x3, a)) := rfl
theorem rules_step (k : Nat) (x3 : List S49) (x5 x6 : Int) (l : List Int) (a a1 a2 k1 k2 : Int) (h0 : x6 < x5) (h1 : PCanonEqual.reportescrowkit_Dice_Next.f l a 2 = some (k1, a1)) (h2 : PCanonEqual.reportescrowkit_Dice_Next.f l a1 (wrap64 (8 + wrap64 (k1 * 4))) = some (k2, a2)) (h3 : 0 ≤ k2) (h4 : k2 < 12) (h5 : x3.length ≤ 3) :
    ∃ r, PCanonEqual.reportescrowkit_Rules.l0 (k + 1) x3 x5 x6 l a = PCanonEqual.reportescrowkit_Rules.l0 k (x3 ++ [r]) x5 (wrap64 (x6 + 1)) l a2 := by
  rw [l0_eq]
  have hL := allR_len
  generalize allR = L at hL
  rw [if_pos h0, Option.bind_some, h1, Option.bind_some]
  simp only []
  rw [h2, Option.bind_some]
  simp only []
  rw [if_pos h3, if_pos (by rw [hL]; exact h4), if_pos (by omega)]
  exact ⟨_, rfl⟩
theorem rules_done (k : Nat) (x3 : List S49) (x5 x6 : Int) (l : List Int) (a : Int) (h0 : ¬ x6 < x5) : PCanonEqual.reportescrowkit_Rules.l0 (k + 1) x3 x5 x6 l a = some (x3, a) := by
  rw [l0_eq, if_neg h0]
theorem wrap_k1 (k : Nat) (h : k < 2) : wrap64 (8 + wrap64 ((k : Int) * 4)) = 8 + (k : Int) * 4 := by unfold wrap64; omega
theorem wrap_i1 (i : Nat) (h : i < 3) : wrap64 ((i : Int) + 1) = ((i + 1 : Nat) : Int) := by unfold wrap64; omega
theorem rules_l0 (l : List Int) (hl : l.length ≤ 500) : ∀ (d i K at' : Nat) (x3 : List S49), i + d = K → K ≤ 3 → at' ≤ l.length → x3.length + d ≤ 3 →
    ∃ (r1 : List S49) (at2 : Nat), at2 ≤ l.length ∧ r1.length ≤ x3.length + d ∧ PCanonEqual.reportescrowkit_Rules.l0 (d + 1) x3 (K : Int) (i : Int) l (at' : Int) = some (r1, (at2 : Int)) := by
  intro d
  induction d with
  | zero =>
    intro i K at' x3 h1 h2 h4 h5
    exact ⟨x3, at', h4, by omega, rules_done _ _ _ _ _ _ (by omega)⟩
  | succ d ih =>
    intro i K at' x3 h1 h2 h4 h5
    obtain ⟨k1, a1, e1, e2, e3⟩ := next_f l at' 2 hl h4 (by decide) (by decide)
    obtain ⟨k2, a2, f1, f2, f3⟩ := next_f l a1 (8 + (k1 : Int) * 4) hl e2 (by omega) (by omega)
    have g0 : (i : Int) < (K : Int) := by omega
    have g1 : (0 : Int) ≤ (k2 : Int) := by omega
    have g2 : (k2 : Int) < 12 := by omega
    have g3 : x3.length ≤ 3 := by omega
    have g4 : k1 < 2 := by omega
    have g5 : i < 3 := by omega
    rw [← wrap_k1 k1 g4] at f3
    obtain ⟨r, hr⟩ := rules_step (d + 1) x3 (K : Int) (i : Int) l (at' : Int) (a1 : Int) (a2 : Int) (k1 : Int) (k2 : Int) g0 e3 f3 g1 g2 g3
    rw [wrap_i1 i g5] at hr
    have hlen : (x3 ++ [r]).length = x3.length + 1 := by rw [List.length_append, List.length_singleton]
    clear g1 g2 g3
    obtain ⟨r1, at2, g1, g2, g3⟩ := ih (i + 1) K a2 (x3 ++ [r]) (by omega) h2 f2 (by omega)
    rw [hr]
    exact ⟨r1, at2, g1, by omega, g3⟩
theorem rules_any (w0 : World) (g : Nat) (w : World) (h : DiceOk w0 w g) :
    Calls Tryd.prog 62 #[.pointer (some ⟨g, 0, none⟩)] w fun e w' => ∃ A c rs, e = .returned (.slice A rs.length c) ∧ rs.length ≤ 3 ∧ rs.length ≤ c ∧ Kd.C k49 w' A rs.length rs ∧ DiceOk w0 w' g ∧ KeepBut w w' g none := by
  obtain ⟨l, at', h1, h2, h3, h4⟩ := h
  obtain ⟨k0, a0, e1, e2, e3⟩ := next_f l at' 4 h1 h2 (by decide) (by decide)
  obtain ⟨r1, at2, g1, g2, g3⟩ := rules_l0 l h1 k0 0 k0 a0 [] (by omega) (by omega) e2 (by simp only [List.length_nil]; omega)
  refine (PCanonEqual.reportescrowkit_Rules.calls (k0 + 1) g l at' r1 at2 w0 w h3 h4 ?_).mono ?_
  · unfold PCanonEqual.reportescrowkit_Rules.f
    rw [e3, Option.bind_some]
    exact g3
  · rintro e w' ⟨v, rfl, hR, hI, hb, hk⟩
    obtain ⟨A, c, rfl, hc, hC⟩ := Kd.R_reads hR
    exact ⟨A, c, r1, rfl, by simp only [List.length_nil] at g2; omega, hc, hC, ⟨l, at2, h1, g1, hI, hb⟩, hk⟩
theorem C49_ne_dice {w0 w : World} {g : Nat} {ad : Addr} {l : List S49} (hd : DiceOk w0 w g) (h : Kd.C k49 w (some ad) l.length l) (hl : 0 < l.length) : ad.block ≠ g := by
  obtain ⟨ad', e, d0, _⟩ := at_T49 h 0 (by decide) (by omega)
  cases e
  obtain ⟨li, at', _, _, ⟨A0, c0, hb, _⟩, _⟩ := hd
  intro hg
  have e2 : (ad.add ((0 : Int).toNat * 3)).block = g := by rw [addr_block']; exact hg
  generalize ad.add ((0 : Int).toNat * 3) = p at d0 e2
  unfold World.cell? at d0
  rw [e2, hb] at d0
  simp only at d0
  rcases hp : p.off with _ | _ | k <;> rw [hp] at d0 <;> simp at d0
theorem C49_keep {w0 w w' : World} {g : Nat} {A : Option Addr} {l : List S49} (hd : DiceOk w0 w g) (h : Kd.C k49 w A l.length l) (hk : KeepBut w w' g none) : Kd.C k49 w' A l.length l := by
  refine ⟨rfl, h.2.1, fun hl => ?_⟩
  obtain ⟨ad, rfl, hc⟩ := h.2.2 hl
  refine ⟨ad, rfl, fun j p hj => ?_⟩
  obtain ⟨c, h1, h2, h3⟩ := hc j p hj
  refine ⟨c, h1, by rw [k49_open h2]; exact k49_mk w' p, fun i u hi => keep_cell hk (h3 i u hi) (by rw [addr_block']; exact C49_ne_dice hd h hl)⟩
#print axioms rules_any
end Go.Proofs.YtpejnnnkamodbaaDoor
