import Derived.Test.YtaffcoiomggpfaaVPr
/- Printed by gen.py: the Go functions of package nfa over a heap view, and that the model does so. -/
namespace Go.Proofs.Ytaffcoiomggpfaa
open Go.V
set_option linter.unusedVariables false
set_option maxRecDepth 100000
/-! jobmux/nfa.Compile -/
@[reducible] noncomputable def uo1_q1 (Q : QT) (E : ET) : Exit → Tau → Heap → Prop := (retQ Pr (Try.f33).results.toList Q)

@[reducible] noncomputable def uo1_p0 : Code := bodyOf Try.f33

@[reducible] noncomputable def uo1_p1 : Code := sB uo1_p0

@[reducible] noncomputable def uo1_p2 : Code := sB uo1_p1

def uo1_1 (Q : QT) (E : ET) (x0 : OA) (l0 : Nat) (c0 : Nat) (H : Heap) : Prop :=
 Does Pr 51 #[(.slice x0 l0 c0)] H (fun v4 H5 =>
 ∃ (p6 : OA) (l7 c8 : Nat), v4 = (.slice p6 l7 c8) ∧ Q (.tuple #[(.slice p6 l7 c8), (.int .i64 0)]) H5) E

def uo1_1_M (Q : QT) (E : ET) (τ : Tau) (H : Heap) : Prop := mSl (τ 0) fun x0 l0 c0 => uo1_1 Q E x0 l0 c0 H

theorem uo1_2ok (Q : QT) (E : ET) (τ : Tau) (H : Heap) (h : uo1_1_M Q E τ H) : vc Pr uo1_p2 τ (uo1_q1 Q E) E H :=
  vSl (i := 0) h (fun x0 l0 c0 h => (conv (by kernel_rfl) h))

@[reducible] noncomputable def uo1_q2 (Q : QT) (E : ET) : Exit → Tau → Heap → Prop := (xthen (uo1_1_M Q E) (uo1_q1 Q E))

@[reducible] noncomputable def uo1_p3 : Code := sA uo1_p1

def uo1_3 (Q : QT) (E : ET) (x0 : OA) (l0 : Nat) (c0 : Nat) (H : Heap) : Prop :=
 Does Pr 40 #[(.slice x0 l0 c0)] H (fun v9 H10 =>
 ∃ b11 : Bool, v9 = (.bool b11) ∧ sel (!b11)
 (Q (.tuple #[(.slice none 0 0), (.int .i64 3)]) H10)
 (uo1_1 Q E x0 l0 c0 H10)) E

def uo1_3_M (Q : QT) (E : ET) (τ : Tau) (H : Heap) : Prop := mSl (τ 0) fun x0 l0 c0 => uo1_3 Q E x0 l0 c0 H

theorem uo1_4ok (Q : QT) (E : ET) (τ : Tau) (H : Heap) (h : uo1_3_M Q E τ H) : vc Pr uo1_p3 τ (uo1_q2 Q E) E H :=
  vSl (i := 0) h (fun x0 l0 c0 h => (conv (by kernel_rfl) h))

theorem uo1_5ok (Q : QT) (E : ET) (τ : Tau) (H : Heap) (h : uo1_3_M Q E τ H) : vc Pr uo1_p1 τ (uo1_q1 Q E) E H :=
  (conv (B := vc Pr uo1_p1 τ (uo1_q1 Q E) E H) (by kernel_rfl) (vc_seq (K := (uo1_1_M Q E)) (uo1_4ok Q E τ H h) (uo1_2ok Q E)))

@[reducible] noncomputable def uo1_q3 (Q : QT) (E : ET) : Exit → Tau → Heap → Prop := (xthen (uo1_3_M Q E) (uo1_q1 Q E))

@[reducible] noncomputable def uo1_p4 : Code := sA uo1_p0

def uo1 (Q : QT) (E : ET) (a0 : OA) (a0l : Nat) (a0c : Nat) (H : Heap) : Prop :=
 uo1_3 Q E a0 a0l a0c H

theorem uo1_fn (a0 : OA) (a0l : Nat) (a0c : Nat) (Q : QT) (E : ET) (H : Heap) (h : uo1 Q E a0 a0l a0c H)   : Does Pr 33 #[(.slice a0 a0l a0c)] H Q E :=
  Fn_of_vc (fn := Try.f33) (c := uo1_p0) (args := [(.slice a0 a0l a0c)]) mixed (by kernel_rfl) (by kernel_rfl) (by kernel_rfl) (by kernel_rfl) (by kernel_rfl) ((conv (B := vc Pr uo1_p0 (argT [(.slice a0 a0l a0c)]) (uo1_q1 Q E) E H) (by kernel_rfl) (vc_seq (K := (uo1_3_M Q E)) (conv (B := vc Pr uo1_p4 (argT [(.slice a0 a0l a0c)]) (uo1_q3 Q E) E H) (by kernel_rfl) h) (uo1_5ok Q E))))

end Go.Proofs.Ytaffcoiomggpfaa
