import Derived.Test.YtaffcoiomggpfaaVText
import Derived.Test.YtaffcoiomggpfaaProg
/- The program of the seat. -/
namespace Go.Proofs.Ytaffcoiomggpfaa
open Go.V
noncomputable abbrev Pr:Program:=Try.prog
theorem mixed:Pr.follows .mixedOrders=true:=by kernel_rfl
end Go.Proofs.Ytaffcoiomggpfaa
