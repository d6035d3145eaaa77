/- Closed facts of this program that every row asks, each checked by the kernel once. -/
import Derived.Test.YtpejnnnkamodbaaDoorRows
import Derived.JoinedOf
namespace Go.Proofs.YtpejnnnkamodbaaDoor
open Go
theorem pf_laidOut : laidOutB Tryd.prog = true := by kernel_rfl
theorem pf_mapsRowed : mapsRowed Tryd.prog = true := by kernel_rfl
theorem pf_stops : (Tryd.prog.stops == []) = true := by kernel_rfl
theorem pf_stopKnobs : (Tryd.prog.stopKnobs == []) = true := by kernel_rfl
theorem pf_heard : Tryd.prog.stopsHeard = true := by kernel_rfl
theorem pf_mayEnter : Tryd.prog.mayEnter = true := by kernel_rfl
theorem pf_lifted : (Rows.wordsTwiceRow.lifted == Tryd.prog.liftsFinal) = true := by kernel_rfl
theorem pf_make : (Tryd.prog.make == some Rows.wordsTwiceRow.make) = true := by kernel_rfl
theorem pf_plainKeys : (Rows.wordsTwiceRow.plainKeys == Tryd.prog.plainKeys) = true := by kernel_rfl
end Go.Proofs.YtpejnnnkamodbaaDoor
