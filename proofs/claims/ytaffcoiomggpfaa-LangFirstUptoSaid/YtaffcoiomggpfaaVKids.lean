/- Contract of jobmuxref08.Kids. -/
import Derived.Test.YtaffcoiomggpfaaVNode
import Derived.Test.YtaffcoiomggpfaaFr08
namespace Go.Proofs.Ytaffcoiomggpfaa
open Go.V
attribute [local irreducible] app
set_option linter.constructorNameAsVariable false
set_option linter.unusedVariables false

theorem Kids2_c {H : Heap} {k : Int} {Q : Value → Heap → Prop} {E : Chain → Heap → Prop} (hk : Q (.int .i64 (kids2 k)) H) : Does Pr 42 #[.int .i64 k] H Q E := by
  refine zqc_fn _ Q E H ?_
  unfold zqc zqc_16 zqc_12 zqc_10
  have k2 : (k = 3 ∨ k = 4) → zqc_3 Q E H := fun h => by
    unfold zqc_3; unfold kids2 at hk; rw [if_pos h] at hk; exact hk
  have k1 : ¬ (k = 3 ∨ k = 4) → (k = 5 ∨ k = 6 ∨ k = 7) → Q (.int .i64 1) H := fun h h' => by
    unfold kids2 at hk; rw [if_neg h, if_pos h'] at hk; exact hk
  have k0 : ¬ (k = 3 ∨ k = 4) → ¬ (k = 5 ∨ k = 6 ∨ k = 7) → zqc_1 Q E H := fun h h' => by
    unfold zqc_1; unfold kids2 at hk; rw [if_neg h, if_neg h'] at hk; exact hk
  unfold zqc_7 zqc_5
  repeat' (refine sel_beq (fun _ => ?_) (fun _ => ?_))
  all_goals first | exact k2 (by omega) | exact k1 (by omega) (by omega) | exact k0 (by omega) (by omega) | (exfalso; omega)
end Go.Proofs.Ytaffcoiomggpfaa
