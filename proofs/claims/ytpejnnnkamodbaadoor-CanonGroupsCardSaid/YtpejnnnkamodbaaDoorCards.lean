/-
  DERIVED. GIVEN WITH THE SEED: THE CARDS: each row of YtpejnnnkamodbaaDoorRows.lean that lists a variable, with what it lists TIED to the program's text (the seventh form; the later family's looks); each row that meets fmt, with fmt's text TOLD by the authors' own Lean function (tested against real Go, not proved from fmt's source: count such statements apart). THE CARD IS WHAT COUNTS. Prove the row's statement (the work); the ties are given (YtpejnnnkamodbaaDoorTie.lean); close each card by the builder's one call (the guide's Derived/Test/ToyasCard.lean, 'card_holds'). Laid BY PROGRAM, IN A SANDBOX (cutbox-door.mjs). By AI agents, Wed Nov 11 2026. No macro, syntax, notation, axiom, sorry.
-/
import Derived.Test.YtpejnnnkamodbaaDoorRows
import GoSem.ClaimSeven
namespace Go.Proofs.YtpejnnnkamodbaaDoor
namespace Rows

/-- THE TIED CARD OF 'reportescrowlaw11.WordsTwice'. -/
def wordsTwiceCard : Claim7 := { stood := { row := wordsTwiceRow, standIns := [], harness := (true, "9db6c9b079afdd40a5af23e46c1598bc310f6aeac39bec01613b9c975a06831f"), looks := false }, kinds := [], alts := [], laidByText := true, laidKinds := [.data, .listed, .data, .pinned], laidTests := true, laidLooks := .later }
def WordsTwiceCardSaid : Prop := Claim7.holds Tryd.pinned (.plain (OpenSpec.ofChange wordsTwiceSpec)) wordsTwiceCard

/-- THE TIED CARD OF 'reportescrowlaw11.WordsParts'. -/
def wordsPartsCard : Claim7 := { stood := { row := wordsPartsRow, standIns := [], harness := (true, "9db6c9b079afdd40a5af23e46c1598bc310f6aeac39bec01613b9c975a06831f"), looks := false }, kinds := [], alts := [], laidByText := true, laidKinds := [.data, .listed, .data, .pinned], laidTests := true, laidLooks := .later }
def WordsPartsCardSaid : Prop := Claim7.holds Tryd.pinned (.plain (OpenSpec.ofChange wordsPartsSpec)) wordsPartsCard

/-- THE TIED CARD OF 'reportescrowlaw11.WordsSpelled'. -/
def wordsSpelledCard : Claim7 := { stood := { row := wordsSpelledRow, standIns := [], harness := (true, "9db6c9b079afdd40a5af23e46c1598bc310f6aeac39bec01613b9c975a06831f"), looks := false }, kinds := [], alts := [], laidByText := true, laidKinds := [.data, .listed, .data, .pinned], laidTests := true, laidLooks := .later }
def WordsSpelledCardSaid : Prop := Claim7.holds Tryd.pinned (.plain (OpenSpec.ofChange wordsSpelledSpec)) wordsSpelledCard

/-- THE TIED CARD OF 'reportescrowlaw11.WordsLetters'. -/
def wordsLettersCard : Claim7 := { stood := { row := wordsLettersRow, standIns := [], harness := (true, "9db6c9b079afdd40a5af23e46c1598bc310f6aeac39bec01613b9c975a06831f"), looks := false }, kinds := [], alts := [], laidByText := true, laidKinds := [.data, .listed, .data, .pinned], laidTests := true, laidLooks := .later }
def WordsLettersCardSaid : Prop := Claim7.holds Tryd.pinned (.plain (OpenSpec.ofChange wordsLettersSpec)) wordsLettersCard

/-- THE TIED CARD OF 'reportescrowlaw13.AliasCircles'. -/
def aliasCirclesCard : Claim7 := { stood := { row := aliasCirclesRow, standIns := [], harness := (true, "9db6c9b079afdd40a5af23e46c1598bc310f6aeac39bec01613b9c975a06831f"), looks := false }, kinds := [], alts := [], laidByText := true, laidKinds := [.data, .listed, .data, .pinned], laidTests := true, laidLooks := .later }
def AliasCirclesCardSaid : Prop := Claim7.holds Tryd.pinned (.plain (OpenSpec.ofChange aliasCirclesSpec)) aliasCirclesCard

/-- THE TIED CARD OF 'reportescrowlaw13.AliasTimes'. -/
def aliasTimesCard : Claim7 := { stood := { row := aliasTimesRow, standIns := [], harness := (true, "9db6c9b079afdd40a5af23e46c1598bc310f6aeac39bec01613b9c975a06831f"), looks := false }, kinds := [], alts := [], laidByText := true, laidKinds := [.data, .listed, .data, .pinned], laidTests := true, laidLooks := .later }
def AliasTimesCardSaid : Prop := Claim7.holds Tryd.pinned (.plain (OpenSpec.ofChange aliasTimesSpec)) aliasTimesCard

/-- THE TIED CARD OF 'reportescrowlaw13.AliasLimit'. -/
def aliasLimitCard : Claim7 := { stood := { row := aliasLimitRow, standIns := [], harness := (true, "9db6c9b079afdd40a5af23e46c1598bc310f6aeac39bec01613b9c975a06831f"), looks := false }, kinds := [], alts := [], laidByText := true, laidKinds := [.data, .listed, .data, .pinned], laidTests := true, laidLooks := .later }
def AliasLimitCardSaid : Prop := Claim7.holds Tryd.pinned (.plain (OpenSpec.ofChange aliasLimitSpec)) aliasLimitCard

/-- THE TIED CARD OF 'reportescrowlaw12.RewriteLimits'. -/
def rewriteLimitsCard : Claim7 := { stood := { row := rewriteLimitsRow, standIns := [], harness := (true, "9db6c9b079afdd40a5af23e46c1598bc310f6aeac39bec01613b9c975a06831f"), looks := false }, kinds := [], alts := [], laidByText := true, laidKinds := [.data, .listed, .data, .pinned], laidTests := true, laidLooks := .later }
def RewriteLimitsCardSaid : Prop := Claim7.holds Tryd.pinned (.plain (OpenSpec.ofChange rewriteLimitsSpec)) rewriteLimitsCard

/-- THE TIED CARD OF 'reportescrowlaw12.RewriteOrder'. -/
def rewriteOrderCard : Claim7 := { stood := { row := rewriteOrderRow, standIns := [], harness := (true, "9db6c9b079afdd40a5af23e46c1598bc310f6aeac39bec01613b9c975a06831f"), looks := false }, kinds := [], alts := [], laidByText := true, laidKinds := [.data, .listed, .data, .pinned], laidTests := true, laidLooks := .later }
def RewriteOrderCardSaid : Prop := Claim7.holds Tryd.pinned (.plain (OpenSpec.ofChange rewriteOrderSpec)) rewriteOrderCard

/-- THE TIED CARD OF 'reportescrowlaw14.CanonEqual'. -/
def canonEqualCard : Claim7 := { stood := { row := canonEqualRow, standIns := [], harness := (true, "9db6c9b079afdd40a5af23e46c1598bc310f6aeac39bec01613b9c975a06831f"), looks := false }, kinds := [], alts := [], laidByText := true, laidKinds := [.data, .listed, .data, .pinned], laidTests := true, laidLooks := .later }
def CanonEqualCardSaid : Prop := Claim7.holds Tryd.pinned (.plain (OpenSpec.ofChange canonEqualSpec)) canonEqualCard

/-- THE TIED CARD OF 'reportescrowlaw14.CanonGroups'. -/
def canonGroupsCard : Claim7 := { stood := { row := canonGroupsRow, standIns := [], harness := (true, "9db6c9b079afdd40a5af23e46c1598bc310f6aeac39bec01613b9c975a06831f"), looks := false }, kinds := [], alts := [], laidByText := true, laidKinds := [.data, .listed, .data, .pinned], laidTests := true, laidLooks := .later }
def CanonGroupsCardSaid : Prop := Claim7.holds Tryd.pinned (.plain (OpenSpec.ofChange canonGroupsSpec)) canonGroupsCard

/-- THE TIED CARD OF 'reportescrowlaw14.CanonCorrects'. -/
def canonCorrectsCard : Claim7 := { stood := { row := canonCorrectsRow, standIns := [], harness := (true, "9db6c9b079afdd40a5af23e46c1598bc310f6aeac39bec01613b9c975a06831f"), looks := false }, kinds := [], alts := [], laidByText := true, laidKinds := [.data, .listed, .data, .pinned], laidTests := true, laidLooks := .later }
def CanonCorrectsCardSaid : Prop := Claim7.holds Tryd.pinned (.plain (OpenSpec.ofChange canonCorrectsSpec)) canonCorrectsCard

/-- THE TIED CARD OF 'reportescrowlaw13.AliasNow'. -/
def aliasNowCard : Claim7 := { stood := { row := aliasNowRow, standIns := [], harness := (true, "9db6c9b079afdd40a5af23e46c1598bc310f6aeac39bec01613b9c975a06831f"), looks := false }, kinds := [], alts := [], laidByText := true, laidKinds := [.data, .listed, .data, .pinned], laidTests := true, laidLooks := .later }
def AliasNowCardSaid : Prop := Claim7.holds Tryd.pinned (.plain (OpenSpec.ofChange aliasNowSpec)) aliasNowCard

/-- THE TIED CARD OF 'reportescrowlaw13.AliasClasses'. -/
def aliasClassesCard : Claim7 := { stood := { row := aliasClassesRow, standIns := [], harness := (true, "9db6c9b079afdd40a5af23e46c1598bc310f6aeac39bec01613b9c975a06831f"), looks := false }, kinds := [], alts := [], laidByText := true, laidKinds := [.data, .listed, .data, .pinned], laidTests := true, laidLooks := .later }
def AliasClassesCardSaid : Prop := Claim7.holds Tryd.pinned (.plain (OpenSpec.ofChange aliasClassesSpec)) aliasClassesCard

/-- THE SECOND FORM's CARD OF 'reportescrowlaw11.WordsTwice'. -/
def wordsTwiceUptoCard : Claim7 := { stood := { row := wordsTwiceUptoRow, standIns := [], harness := (true, "9db6c9b079afdd40a5af23e46c1598bc310f6aeac39bec01613b9c975a06831f"), looks := false }, kinds := [], alts := [], laidByText := true, laidKinds := [.data, .listed, .data, .pinned], laidTests := true, laidLooks := .later }
def WordsTwiceUptoCardSaid : Prop := Claim7.holds Tryd.pinned (.plain (OpenSpec.upto wordsTwiceSpec)) wordsTwiceUptoCard

/-- THE SECOND FORM's CARD OF 'reportescrowlaw11.WordsParts'. -/
def wordsPartsUptoCard : Claim7 := { stood := { row := wordsPartsUptoRow, standIns := [], harness := (true, "9db6c9b079afdd40a5af23e46c1598bc310f6aeac39bec01613b9c975a06831f"), looks := false }, kinds := [], alts := [], laidByText := true, laidKinds := [.data, .listed, .data, .pinned], laidTests := true, laidLooks := .later }
def WordsPartsUptoCardSaid : Prop := Claim7.holds Tryd.pinned (.plain (OpenSpec.upto wordsPartsSpec)) wordsPartsUptoCard

/-- THE SECOND FORM's CARD OF 'reportescrowlaw11.WordsSpelled'. -/
def wordsSpelledUptoCard : Claim7 := { stood := { row := wordsSpelledUptoRow, standIns := [], harness := (true, "9db6c9b079afdd40a5af23e46c1598bc310f6aeac39bec01613b9c975a06831f"), looks := false }, kinds := [], alts := [], laidByText := true, laidKinds := [.data, .listed, .data, .pinned], laidTests := true, laidLooks := .later }
def WordsSpelledUptoCardSaid : Prop := Claim7.holds Tryd.pinned (.plain (OpenSpec.upto wordsSpelledSpec)) wordsSpelledUptoCard

/-- THE SECOND FORM's CARD OF 'reportescrowlaw11.WordsLetters'. -/
def wordsLettersUptoCard : Claim7 := { stood := { row := wordsLettersUptoRow, standIns := [], harness := (true, "9db6c9b079afdd40a5af23e46c1598bc310f6aeac39bec01613b9c975a06831f"), looks := false }, kinds := [], alts := [], laidByText := true, laidKinds := [.data, .listed, .data, .pinned], laidTests := true, laidLooks := .later }
def WordsLettersUptoCardSaid : Prop := Claim7.holds Tryd.pinned (.plain (OpenSpec.upto wordsLettersSpec)) wordsLettersUptoCard

/-- THE SECOND FORM's CARD OF 'reportescrowlaw13.AliasCircles'. -/
def aliasCirclesUptoCard : Claim7 := { stood := { row := aliasCirclesUptoRow, standIns := [], harness := (true, "9db6c9b079afdd40a5af23e46c1598bc310f6aeac39bec01613b9c975a06831f"), looks := false }, kinds := [], alts := [], laidByText := true, laidKinds := [.data, .listed, .data, .pinned], laidTests := true, laidLooks := .later }
def AliasCirclesUptoCardSaid : Prop := Claim7.holds Tryd.pinned (.plain (OpenSpec.upto aliasCirclesSpec)) aliasCirclesUptoCard

/-- THE SECOND FORM's CARD OF 'reportescrowlaw13.AliasTimes'. -/
def aliasTimesUptoCard : Claim7 := { stood := { row := aliasTimesUptoRow, standIns := [], harness := (true, "9db6c9b079afdd40a5af23e46c1598bc310f6aeac39bec01613b9c975a06831f"), looks := false }, kinds := [], alts := [], laidByText := true, laidKinds := [.data, .listed, .data, .pinned], laidTests := true, laidLooks := .later }
def AliasTimesUptoCardSaid : Prop := Claim7.holds Tryd.pinned (.plain (OpenSpec.upto aliasTimesSpec)) aliasTimesUptoCard

/-- THE SECOND FORM's CARD OF 'reportescrowlaw13.AliasLimit'. -/
def aliasLimitUptoCard : Claim7 := { stood := { row := aliasLimitUptoRow, standIns := [], harness := (true, "9db6c9b079afdd40a5af23e46c1598bc310f6aeac39bec01613b9c975a06831f"), looks := false }, kinds := [], alts := [], laidByText := true, laidKinds := [.data, .listed, .data, .pinned], laidTests := true, laidLooks := .later }
def AliasLimitUptoCardSaid : Prop := Claim7.holds Tryd.pinned (.plain (OpenSpec.upto aliasLimitSpec)) aliasLimitUptoCard

/-- THE SECOND FORM's CARD OF 'reportescrowlaw12.RewriteLimits'. -/
def rewriteLimitsUptoCard : Claim7 := { stood := { row := rewriteLimitsUptoRow, standIns := [], harness := (true, "9db6c9b079afdd40a5af23e46c1598bc310f6aeac39bec01613b9c975a06831f"), looks := false }, kinds := [], alts := [], laidByText := true, laidKinds := [.data, .listed, .data, .pinned], laidTests := true, laidLooks := .later }
def RewriteLimitsUptoCardSaid : Prop := Claim7.holds Tryd.pinned (.plain (OpenSpec.upto rewriteLimitsSpec)) rewriteLimitsUptoCard

/-- THE SECOND FORM's CARD OF 'reportescrowlaw12.RewriteOrder'. -/
def rewriteOrderUptoCard : Claim7 := { stood := { row := rewriteOrderUptoRow, standIns := [], harness := (true, "9db6c9b079afdd40a5af23e46c1598bc310f6aeac39bec01613b9c975a06831f"), looks := false }, kinds := [], alts := [], laidByText := true, laidKinds := [.data, .listed, .data, .pinned], laidTests := true, laidLooks := .later }
def RewriteOrderUptoCardSaid : Prop := Claim7.holds Tryd.pinned (.plain (OpenSpec.upto rewriteOrderSpec)) rewriteOrderUptoCard

/-- THE SECOND FORM's CARD OF 'reportescrowlaw14.CanonEqual'. -/
def canonEqualUptoCard : Claim7 := { stood := { row := canonEqualUptoRow, standIns := [], harness := (true, "9db6c9b079afdd40a5af23e46c1598bc310f6aeac39bec01613b9c975a06831f"), looks := false }, kinds := [], alts := [], laidByText := true, laidKinds := [.data, .listed, .data, .pinned], laidTests := true, laidLooks := .later }
def CanonEqualUptoCardSaid : Prop := Claim7.holds Tryd.pinned (.plain (OpenSpec.upto canonEqualSpec)) canonEqualUptoCard

/-- THE SECOND FORM's CARD OF 'reportescrowlaw14.CanonGroups'. -/
def canonGroupsUptoCard : Claim7 := { stood := { row := canonGroupsUptoRow, standIns := [], harness := (true, "9db6c9b079afdd40a5af23e46c1598bc310f6aeac39bec01613b9c975a06831f"), looks := false }, kinds := [], alts := [], laidByText := true, laidKinds := [.data, .listed, .data, .pinned], laidTests := true, laidLooks := .later }
def CanonGroupsUptoCardSaid : Prop := Claim7.holds Tryd.pinned (.plain (OpenSpec.upto canonGroupsSpec)) canonGroupsUptoCard

/-- THE SECOND FORM's CARD OF 'reportescrowlaw14.CanonCorrects'. -/
def canonCorrectsUptoCard : Claim7 := { stood := { row := canonCorrectsUptoRow, standIns := [], harness := (true, "9db6c9b079afdd40a5af23e46c1598bc310f6aeac39bec01613b9c975a06831f"), looks := false }, kinds := [], alts := [], laidByText := true, laidKinds := [.data, .listed, .data, .pinned], laidTests := true, laidLooks := .later }
def CanonCorrectsUptoCardSaid : Prop := Claim7.holds Tryd.pinned (.plain (OpenSpec.upto canonCorrectsSpec)) canonCorrectsUptoCard

/-- THE SECOND FORM's CARD OF 'reportescrowlaw13.AliasNow'. -/
def aliasNowUptoCard : Claim7 := { stood := { row := aliasNowUptoRow, standIns := [], harness := (true, "9db6c9b079afdd40a5af23e46c1598bc310f6aeac39bec01613b9c975a06831f"), looks := false }, kinds := [], alts := [], laidByText := true, laidKinds := [.data, .listed, .data, .pinned], laidTests := true, laidLooks := .later }
def AliasNowUptoCardSaid : Prop := Claim7.holds Tryd.pinned (.plain (OpenSpec.upto aliasNowSpec)) aliasNowUptoCard

/-- THE SECOND FORM's CARD OF 'reportescrowlaw13.AliasClasses'. -/
def aliasClassesUptoCard : Claim7 := { stood := { row := aliasClassesUptoRow, standIns := [], harness := (true, "9db6c9b079afdd40a5af23e46c1598bc310f6aeac39bec01613b9c975a06831f"), looks := false }, kinds := [], alts := [], laidByText := true, laidKinds := [.data, .listed, .data, .pinned], laidTests := true, laidLooks := .later }
def AliasClassesUptoCardSaid : Prop := Claim7.holds Tryd.pinned (.plain (OpenSpec.upto aliasClassesSpec)) aliasClassesUptoCard
end Rows
end Go.Proofs.YtpejnnnkamodbaaDoor
