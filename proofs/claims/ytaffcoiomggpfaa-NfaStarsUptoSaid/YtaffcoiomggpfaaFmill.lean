import Derived.Test.YtaffcoiomggpfaaVPr
/- Printed by gen.py: the Go functions of package mill over a heap view, and that the model does so. -/
namespace Go.Proofs.Ytaffcoiomggpfaa
open Go.V
set_option linter.unusedVariables false
set_option maxRecDepth 100000
variable (Q : QT) (E : ET)
/-! jobmux/jobmuxmill.Mod -/
noncomputable def zqi1_q1 (Q : QT) (E : ET)  : XT := (retQ Pr (Try.f22).results.toList Q)

noncomputable def zqi1_p1 : Code := sB (bodyOf Try.f22)

def zqi1_1 (Q : QT) (E : ET) (x5 : Int) (H : Heap) : Prop :=
 Q (.int .i64 x5) H

def zqi1_1_M  (τ : Tau) (H : Heap) : Prop := mI .i64 (τ 5) fun x5 => zqi1_1 Q E x5 H

theorem zqi1_2ok  : Ok Pr (zqi1_1_M Q E) (sB (sB zqi1_p1)) (zqi1_q1 Q E) E := fun τ H h =>
  wI 5 h (fun x5 h => (conv (by kernel_rfl) h))

noncomputable def zqi1_q2  : XT := (xthen (zqi1_1_M Q E) (zqi1_q1 Q E))

def zqi1_3 (Q : QT) (E : ET) (x1 x5 : Int) (H : Heap) : Prop :=
 sel (decide (x5 < 0))
 (zqi1_1 Q E (IntKind.wrap .i64 (x5 + x1)) H)
 (zqi1_1 Q E x5 H)

def zqi1_3_M  (τ : Tau) (H : Heap) : Prop := mI .i64 (τ 1) fun x1 => mI .i64 (τ 5) fun x5 => zqi1_3 Q E x1 x5 H

theorem zqi1_4ok  : Ok Pr (zqi1_3_M Q E) (sA (sB zqi1_p1)) (zqi1_q2 Q E) E := fun τ H h =>
  wI 1 h (fun x1 h => wI 5 h (fun x5 h => (conv (by kernel_rfl) h)))

theorem zqi1_5ok  : Ok Pr (zqi1_3_M Q E) (sB zqi1_p1) (zqi1_q1 Q E) E := fun τ H h =>
  (conv (by kernel_rfl) (vc_seq (K := (zqi1_1_M Q E)) (zqi1_4ok Q E τ H h) (zqi1_2ok Q E)))

noncomputable def zqi1_q3  : XT := (xthen (zqi1_3_M Q E) (zqi1_q1 Q E))

def zqi1_6 (Q : QT) (E : ET) (x0 x1 : Int) (H : Heap) : Prop :=
 (x1 : Int) ≠ 0 ∧ zqi1_3 Q E x1 (Int.tmod x0 x1) H

def zqi1_6_M  (τ : Tau) (H : Heap) : Prop := mI .i64 (τ 0) fun x0 => mI .i64 (τ 1) fun x1 => zqi1_6 Q E x0 x1 H

theorem zqi1_7ok  : Ok Pr (zqi1_6_M Q E) (sA zqi1_p1) (zqi1_q3 Q E) E := fun τ H h =>
  wI 0 h (fun x0 h => wI 1 h (fun x1 h => (conv (by kernel_rfl) h)))

theorem zqi1_8ok  : Ok Pr (zqi1_6_M Q E) zqi1_p1 (zqi1_q1 Q E) E := fun τ H h =>
  (conv (by kernel_rfl) (vc_seq (K := (zqi1_3_M Q E)) (zqi1_7ok Q E τ H h) (zqi1_5ok Q E)))

def zqi1 (Q : QT) (E : ET) (a0 : Int) (a1 : Int) (H : Heap) : Prop :=
 zqi1_6 Q E a0 a1 H

theorem zqi1_fn (a0 : Int) (a1 : Int) (Q : QT) (E : ET) (H : Heap) (h : zqi1 Q E a0 a1 H)   : Does Pr 22 #[(.int .i64 a0), (.int .i64 a1)] H Q E :=
  Fn_of_vc (fn := Try.f22) (c := (bodyOf Try.f22)) (args := [(.int .i64 a0), (.int .i64 a1)]) mixed (by kernel_rfl) (by kernel_rfl) (by kernel_rfl) (by kernel_rfl) (by kernel_rfl) ((conv (B := vc Pr (bodyOf Try.f22) (argT [(.int .i64 a0), (.int .i64 a1)]) (zqi1_q1 Q E) E H) (by kernel_rfl) (vc_seq (K := (zqi1_6_M Q E)) (conv (B := vc Pr (sA (bodyOf Try.f22)) (argT [(.int .i64 a0), (.int .i64 a1)]) (xthen (zqi1_6_M Q E) (zqi1_q1 Q E)) E H) (by kernel_rfl) h) (zqi1_8ok Q E))))

end Go.Proofs.Ytaffcoiomggpfaa
