/- A parameter []int, as a row's opening tells it, is a row of numbers that is read. -/
import Derived.Test.YtpejnnnkamodbaaDoorWDice
namespace Go.Proofs.YtpejnnnkamodbaaDoor
open Go Go.RowKit Go.Proofs.YtpejnnnkamodbaaDoorW.PrintWords

def IsRow (k : IntKind) (w : World) (a : Option Addr) (len cap : Nat) (zs : List Int) : Prop :=
  (a = none ∧ len = 0 ∧ cap = 0 ∧ zs = []) ∨
  ∃ x, a = some x ∧ len ≤ cap ∧ cap ≤ maxLen ∧ zs.length = cap ∧ (∀ i, i < zs.length → w.cell? (x.add i) = some (.int k (zs.getD i 0))) ∧ ∀ n ∈ zs, (Lit.int k n).wf = true
theorem IsRow.reads {k : IntKind} {w : World} {a : Option Addr} {len cap : Nat} {zs : List Int} (h : IsRow k w a len cap zs) :
    ∃ l : List Int, len = l.length ∧ l.length ≤ cap ∧ Kd.C (Kd.int k) w a l.length l := by
  rcases h with ⟨rfl, rfl, rfl, rfl⟩ | ⟨x, rfl, h1, h2, h3, h4, h5⟩
  · exact ⟨[], rfl, Nat.le_refl _, rfl, by decide, fun h => absurd h (by simp)⟩
  · have hl : (zs.take len).length = len := by rw [List.length_take]; omega
    refine ⟨zs.take len, hl.symm, by omega, rfl, by unfold maxLen at h2; omega, fun _ => ⟨x, rfl, fun j p hj => ?_⟩⟩
    have hjl := (List.getElem?_eq_some_iff.1 hj).1
    have hp : zs[j]? = some p := by
      rw [List.getElem?_take] at hj
      split at hj
      · exact hj
      · cases hj
    refine ⟨[.int k p], rfl, rfl, fun i u hi => ?_⟩
    have e := h4 j (by omega)
    rw [List.getD_eq_getElem?_getD, hp] at e
    rcases i with _ | i
    · simp only [List.getElem?_cons_zero, Option.some.injEq] at hi
      subst hi
      show w.cell? (x.add (j * 1 + 0)) = _
      simpa using e
    · simp at hi
end Go.Proofs.YtpejnnnkamodbaaDoor
