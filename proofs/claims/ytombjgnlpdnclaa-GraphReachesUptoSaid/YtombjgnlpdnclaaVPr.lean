import Derived.Test.YtombjgnlpdnclaaVText
import Derived.Test.YtombjgnlpdnclaaProg
/- The program of the seat. -/
namespace Go.Proofs.Ytombjgnlpdnclaa
open Go.V
noncomputable abbrev Pr : Program := Try.prog
theorem mixed : Pr.follows .mixedOrders = true := by kernel_rfl
end Go.Proofs.Ytombjgnlpdnclaa
