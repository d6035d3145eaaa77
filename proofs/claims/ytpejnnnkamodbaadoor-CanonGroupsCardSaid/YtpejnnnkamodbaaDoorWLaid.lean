/- What the rows' condition on the listed variables gives the walks: the library's tables lie as their initialisers lay them. -/
import Derived.Test.YtpejnnnkamodbaaDoorRows
import Derived.Test.YtpejnnnkamodbaaDoorTie
import Derived.Test.YtpejnnnkamodbaaDoorWWordsA
import Derived.Lib.LaidU8
import Derived.Lay
import Derived.ProofKit
import Derived.SevenTiedAt
namespace Go.Proofs.YtpejnnnkamodbaaDoor
open Go Go.RowKit Go.Lib

def laidList : List (String × DataW Unit) := [("unicode/utf8.acceptRanges", Rows.laid_unicode_utf8_acceptRanges), ("unicode.White_Space", Rows.laid_unicode_White_Space), ("strings.asciiSpace", Rows.laid_strings_asciiSpace), ("unicode/utf8.first", Rows.laid_unicode_utf8_first)]
theorem first_eq : Rows.laid_unicode_utf8_first = Lib.firstData := by kernel_rfl
theorem accept_eq : (Rows.laid_unicode_utf8_acceptRanges : DataW Unit) = Lib.acceptData := by kernel_rfl
theorem ascii_eq : (Rows.laid_strings_asciiSpace : DataW Unit) = Lib.tabData .u8 Lib.asciiSpaceTab := by kernel_rfl
theorem u8x : U8Extra Tryd.prog Tryd.lays260_ren := ⟨by kernel_rfl, by kernel_rfl, by kernel_rfl, by kernel_rfl, by kernel_rfl, by kernel_rfl, by kernel_rfl⟩
theorem tabs_of_laid {W : World} (h0 : laidMetH Tryd.prog laidList W) : Tabs W := by
  have h : laidMet Tryd.prog laidList W := by rw [MakeChecks.laidMetH_plain _ _ _ (by kernel_rfl)] at h0; exact h0
  have r1 := Lib.laidMet.reads h (n := "unicode/utf8.first") (d := Rows.laid_unicode_utf8_first) (by simp [laidList])
  have r2 := Lib.laidMet.reads h (n := "unicode/utf8.acceptRanges") (d := Rows.laid_unicode_utf8_acceptRanges) (by simp [laidList])
  have r3 := Lib.laidMet.reads h (n := "strings.asciiSpace") (d := Rows.laid_strings_asciiSpace) (by simp [laidList])
  rw [first_eq] at r1
  rw [accept_eq] at r2
  rw [ascii_eq] at r3
  have t1 := utf8Tabs_of_reads Tryd.lays260 u8x r1 r2
  refine ⟨?_, t1, ?_⟩
  · obtain ⟨g, t, cs, fuel, p, hg, hty, hvar, hd⟩ := r3
    obtain rfl := Option.some.inj (gAscii.symm.trans hg)
    obtain rfl := Option.some.inj ((show (Tryd.prog.globals[0]?).map (·.type) = some 106 by kernel_rfl).symm.trans hty)
    unfold Lib.TabIs
    rw [hvar, ← Lib.cells_of_tab Tryd.underlying106 Tryd.underlying5 (show Tryd.prog.cellsOf 5 = 1 by kernel_rfl) (show Tryd.prog.cellsOf 106 = 256 by kernel_rfl) hd]
  · obtain ⟨_, h2⟩ := t1
    have h3 := (h2 0 (by omega)).1
    rcases Nat.lt_or_ge 2 W.heap.size with h4 | h4
    · exact h4
    · exfalso
      have h5 : W.heap[2]? = none := Array.getElem?_eq_none h4
      simp [World.cell?] at h3
      rw [show (Tryd.lays260_ren.g 4) = 2 from rfl] at h3
      rw [h5] at h3
      simp at h3
#print axioms tabs_of_laid
end Go.Proofs.YtpejnnnkamodbaaDoor
