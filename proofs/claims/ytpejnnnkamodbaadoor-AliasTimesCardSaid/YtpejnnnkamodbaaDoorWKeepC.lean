/- A list of aliases that is read stays what it is while the dice are rolled. -/
import Derived.Test.YtpejnnnkamodbaaDoorWGrown
namespace Go.Proofs.YtpejnnnkamodbaaDoor
open Go Go.RowKit Go.Proofs.YtpejnnnkamodbaaDoorW.PrintWords
open PCanonEqual (S40 k40 z40 rd_T40 at_T40 k40_open k40_mk)
theorem addr_block' (a : Addr) (j : Nat) : (a.add j).block = a.block := by unfold Addr.add; split <;> rfl
theorem C_ne_dice {w0 w : World} {g : Nat} {ad : Addr} {l : List S40} (hd : DiceOk w0 w g) (h : Kd.C k40 w (some ad) l.length l) (hl : 0 < l.length) : ad.block ≠ g := by
  obtain ⟨ad', e, d0, _⟩ := at_T40 h 0 (by decide) (by omega)
  cases e
  obtain ⟨li, at', _, _, ⟨A0, c0, hb, _⟩, _⟩ := hd
  intro hg
  have e2 : (ad.add ((0 : Int).toNat * 4)).block = g := by rw [addr_block']; exact hg
  generalize ad.add ((0 : Int).toNat * 4) = p at d0 e2
  unfold World.cell? at d0
  rw [e2, hb] at d0
  simp only at d0
  rcases hp : p.off with _ | _ | k <;> rw [hp] at d0 <;> simp at d0
theorem C_keep {w0 w w' : World} {g : Nat} {A : Option Addr} {l : List S40} (hd : DiceOk w0 w g) (h : Kd.C k40 w A l.length l) (hk : KeepBut w w' g none) : Kd.C k40 w' A l.length l := by
  refine ⟨rfl, h.2.1, fun hl => ?_⟩
  obtain ⟨ad, rfl, hc⟩ := h.2.2 hl
  refine ⟨ad, rfl, fun j p hj => ?_⟩
  obtain ⟨c, h1, h2, h3⟩ := hc j p hj
  refine ⟨c, h1, by rw [k40_open h2]; exact k40_mk w' p, fun i u hi => keep_cell hk (h3 i u hi) (by rw [addr_block']; exact C_ne_dice hd h hl)⟩
end Go.Proofs.YtpejnnnkamodbaaDoor
