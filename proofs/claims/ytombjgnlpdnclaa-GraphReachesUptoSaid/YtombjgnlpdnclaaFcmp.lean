import Derived.Test.YtombjgnlpdnclaaVPr
/- Printed by gen.py: the Go functions of package cmp over a heap view, and that the model does so. -/
namespace Go.Proofs.Ytombjgnlpdnclaa
open Go.V
set_option linter.unusedVariables false
set_option maxRecDepth 100000
variable (Q : QT) (E : ET)
/-! cmp.Less[int] -/
noncomputable def cmp_Less_int_q1 (Q : QT) (E : ET)  : XT := (retQ Pr (Try.f39).results.toList Q)

def cmp_Less_int (Q : QT) (E : ET) (a0 : Int) (a1 : Int) (H : Heap) : Prop :=
 Does Pr 49 #[(.int .i64 a0)] H (fun v1 H2 =>
 ∃ b3 : Bool, v1 = (.bool b3) ∧ sel b3
 (Does Pr 49 #[(.int .i64 a1)] H2 (fun v4 H5 =>
 ∃ b6 : Bool, v4 = (.bool b6) ∧ sel (!b6)
 (Q (.bool true) H5)
 (Q (.bool (decide ((a0 : Int) < a1))) H5)) E)
 (Q (.bool (decide ((a0 : Int) < a1))) H2)) E

theorem cmp_Less_int_fn (a0 : Int) (a1 : Int) (Q : QT) (E : ET) (H : Heap) (h : cmp_Less_int Q E a0 a1 H)   : Does Pr 39 #[(.int .i64 a0), (.int .i64 a1)] H Q E :=
  Fn_of_vc (fn := Try.f39) (c := (bodyOf Try.f39)) (args := [(.int .i64 a0), (.int .i64 a1)]) mixed (by kernel_rfl) (by kernel_rfl) (by kernel_rfl) (by kernel_rfl) (by kernel_rfl) ((conv (B := vc Pr (bodyOf Try.f39) (argT [(.int .i64 a0), (.int .i64 a1)]) (cmp_Less_int_q1 Q E) E H) (by kernel_rfl) h))

/-! cmp.isNaN[int] -/
noncomputable def cmp_isNaN_int_q1 (Q : QT) (E : ET)  : XT := (retQ Pr (Try.f49).results.toList Q)

def cmp_isNaN_int (Q : QT) (E : ET) (a0 : Int) (H : Heap) : Prop :=
 Q (.bool ((a0 : Int) != a0)) H

theorem cmp_isNaN_int_fn (a0 : Int) (Q : QT) (E : ET) (H : Heap) (h : cmp_isNaN_int Q E a0 H)   : Does Pr 49 #[(.int .i64 a0)] H Q E :=
  Fn_of_vc (fn := Try.f49) (c := (bodyOf Try.f49)) (args := [(.int .i64 a0)]) mixed (by kernel_rfl) (by kernel_rfl) (by kernel_rfl) (by kernel_rfl) (by kernel_rfl) ((conv (B := vc Pr (bodyOf Try.f49) (argT [(.int .i64 a0)]) (cmp_isNaN_int_q1 Q E) E H) (by kernel_rfl) h))

end Go.Proofs.Ytombjgnlpdnclaa
