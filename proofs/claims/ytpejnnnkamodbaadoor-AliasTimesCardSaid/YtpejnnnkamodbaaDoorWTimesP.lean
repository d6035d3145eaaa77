/- Plain facts for AliasTimes: what an alias that is added does at earlier times, and at its own. -/
import Derived.Test.YtpejnnnkamodbaaDoorWAwake13
namespace Go.Proofs.YtpejnnnkamodbaaDoor
open Go
open PCanonEqual (S40 z40)

theorem pres_early (l : List S40) (a : S40) (t : Int) (h : t < a.f2) : presT (l ++ [a]) t = presT l t := by
  rw [presT_add]
  unfold layA
  rw [if_pos (by omega)]
theorem pres_own (l : List S40) (a : S40) : presT (l ++ [a]) a.f2 a.f0 = if a.f3 then none else some a := by
  rw [presT_add]
  unfold layA
  simp only [show ¬ a.f2 > a.f2 from by omega, if_false, if_true]
/-- What Add can tell of a right alias and a short good list. -/
theorem add_ends {l : List S40} {a : S40} {n : Int} (hg : Sound40 l) (hr : rightT a = true) (hl : l.length < 256) (h : AddT l a n) : n = 0 ∨ n = 11 ∨ n = 16 := by
  rcases h with ⟨h | h, _⟩ | ⟨_, _, ⟨_, h⟩ | ⟨_, ⟨h, _⟩ | ⟨_, ⟨_, _, h⟩ | ⟨_, h⟩⟩⟩⟩
  · rw [hg.1] at h; cases h
  · rw [hr] at h; cases h
  · exact Or.inr (Or.inr h)
  · omega
  · exact Or.inr (Or.inl h)
  · exact Or.inl h
def nameList : List ByteArray := [⟨#[98, 111, 98]⟩, ⟨#[97, 110, 110]⟩, ⟨#[110, 101, 119]⟩]
def goalList : List ByteArray := [⟨#[120]⟩, ⟨#[121]⟩, ⟨#[122]⟩]
theorem times_right (n o : ByteArray) (hn : n ∈ nameList) (ho : o ∈ goalList) (t : Int) (g : Bool) (h0 : 20 ≤ t) (h1 : t ≤ 30) : rightT ⟨n, o, t, g⟩ = true := by
  simp only [nameList, List.mem_cons, List.not_mem_nil, or_false] at hn
  simp only [goalList, List.mem_cons, List.not_mem_nil, or_false] at ho
  rcases hn with rfl | rfl | rfl <;> rcases ho with rfl | rfl | rfl
  · exact right_words [98, 111, 98] [120] t g ⟨by decide, by decide⟩ ⟨by decide, by decide⟩ (by decide) (by decide) (by decide) (by omega) (by omega)
  · exact right_words [98, 111, 98] [121] t g ⟨by decide, by decide⟩ ⟨by decide, by decide⟩ (by decide) (by decide) (by decide) (by omega) (by omega)
  · exact right_words [98, 111, 98] [122] t g ⟨by decide, by decide⟩ ⟨by decide, by decide⟩ (by decide) (by decide) (by decide) (by omega) (by omega)
  · exact right_words [97, 110, 110] [120] t g ⟨by decide, by decide⟩ ⟨by decide, by decide⟩ (by decide) (by decide) (by decide) (by omega) (by omega)
  · exact right_words [97, 110, 110] [121] t g ⟨by decide, by decide⟩ ⟨by decide, by decide⟩ (by decide) (by decide) (by decide) (by omega) (by omega)
  · exact right_words [97, 110, 110] [122] t g ⟨by decide, by decide⟩ ⟨by decide, by decide⟩ (by decide) (by decide) (by decide) (by omega) (by omega)
  · exact right_words [110, 101, 119] [120] t g ⟨by decide, by decide⟩ ⟨by decide, by decide⟩ (by decide) (by decide) (by decide) (by omega) (by omega)
  · exact right_words [110, 101, 119] [121] t g ⟨by decide, by decide⟩ ⟨by decide, by decide⟩ (by decide) (by decide) (by decide) (by omega) (by omega)
  · exact right_words [110, 101, 119] [122] t g ⟨by decide, by decide⟩ ⟨by decide, by decide⟩ (by decide) (by decide) (by decide) (by omega) (by omega)
/-- Where the added name leads at its own time. -/
theorem times_end {l : List S40} {a : S40} {x y : ByteArray} (hx : Leads (presT (l ++ [a]) a.f2) a.f0 x) (hy : Leads (presT (l ++ [a]) a.f2) a.f1 y) : (a.f3 = true ∧ x = a.f0) ∨ (a.f3 = false ∧ x = y) := by
  have h := pres_own l a
  cases hg : a.f3 with
  | true =>
    rw [hg] at h
    exact Or.inl ⟨rfl, leads_det hx (.done (by rw [h]; rfl))⟩
  | false =>
    rw [hg] at h
    have h' : presT (l ++ [a]) a.f2 a.f0 = some a := by rw [h]; rfl
    exact Or.inr ⟨rfl, leads_det ((leads_iff h').1 hx) hy⟩
#print axioms times_end
end Go.Proofs.YtpejnnnkamodbaaDoor
