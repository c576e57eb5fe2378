import Derived.Test.YtaffcoiomggpfaaVPr
/- Printed by gen.py: the Go functions of package nfa over a heap view, and that the model does so. -/
namespace Go.Proofs.Ytaffcoiomggpfaa
open Go.V
set_option linter.unusedVariables false
set_option maxRecDepth 100000
/-! jobmux/nfa.Compile -/
@[reducible] noncomputable def ud2_q1 (Q : QT) (E : ET) : Exit → Tau → Heap → Prop := (retQ Pr (Try.f33).results.toList Q)

@[reducible] noncomputable def ud2_p0 : Code := bodyOf Try.f33

@[reducible] noncomputable def ud2_p1 : Code := sB ud2_p0

@[reducible] noncomputable def ud2_p2 : Code := sB ud2_p1

def ud2_1 (Q : QT) (E : ET) (x0 : OA) (l0 : Nat) (c0 : Nat) (H : Heap) : Prop :=
 Does Pr 51 #[(.slice x0 l0 c0)] H (fun v4 H5 =>
 ∃ (p6 : OA) (l7 c8 : Nat), v4 = (.slice p6 l7 c8) ∧ Q (.tuple #[(.slice p6 l7 c8), (.int .i64 0)]) H5) E

def ud2_1_M (Q : QT) (E : ET) (τ : Tau) (H : Heap) : Prop := mSl (τ 0) fun x0 l0 c0 => ud2_1 Q E x0 l0 c0 H

theorem ud2_2ok (Q : QT) (E : ET) (τ : Tau) (H : Heap) (h : ud2_1_M Q E τ H) : vc Pr ud2_p2 τ (ud2_q1 Q E) E H :=
  vSl (i := 0) h (fun x0 l0 c0 h => (conv (by kernel_rfl) h))

@[reducible] noncomputable def ud2_q2 (Q : QT) (E : ET) : Exit → Tau → Heap → Prop := (xthen (ud2_1_M Q E) (ud2_q1 Q E))

@[reducible] noncomputable def ud2_p3 : Code := sA ud2_p1

def ud2_3 (Q : QT) (E : ET) (x0 : OA) (l0 : Nat) (c0 : Nat) (H : Heap) : Prop :=
 Does Pr 40 #[(.slice x0 l0 c0)] H (fun v9 H10 =>
 ∃ b11 : Bool, v9 = (.bool b11) ∧ sel (!b11)
 (Q (.tuple #[(.slice none 0 0), (.int .i64 3)]) H10)
 (ud2_1 Q E x0 l0 c0 H10)) E

def ud2_3_M (Q : QT) (E : ET) (τ : Tau) (H : Heap) : Prop := mSl (τ 0) fun x0 l0 c0 => ud2_3 Q E x0 l0 c0 H

theorem ud2_4ok (Q : QT) (E : ET) (τ : Tau) (H : Heap) (h : ud2_3_M Q E τ H) : vc Pr ud2_p3 τ (ud2_q2 Q E) E H :=
  vSl (i := 0) h (fun x0 l0 c0 h => (conv (by kernel_rfl) h))

theorem ud2_5ok (Q : QT) (E : ET) (τ : Tau) (H : Heap) (h : ud2_3_M Q E τ H) : vc Pr ud2_p1 τ (ud2_q1 Q E) E H :=
  (conv (B := vc Pr ud2_p1 τ (ud2_q1 Q E) E H) (by kernel_rfl) (vc_seq (K := (ud2_1_M Q E)) (ud2_4ok Q E τ H h) (ud2_2ok Q E)))

@[reducible] noncomputable def ud2_q3 (Q : QT) (E : ET) : Exit → Tau → Heap → Prop := (xthen (ud2_3_M Q E) (ud2_q1 Q E))

@[reducible] noncomputable def ud2_p4 : Code := sA ud2_p0

def ud2 (Q : QT) (E : ET) (a0 : OA) (a0l : Nat) (a0c : Nat) (H : Heap) : Prop :=
 ud2_3 Q E a0 a0l a0c H

theorem ud2_fn (a0 : OA) (a0l : Nat) (a0c : Nat) (Q : QT) (E : ET) (H : Heap) (h : ud2 Q E a0 a0l a0c H)   : Does Pr 33 #[(.slice a0 a0l a0c)] H Q E :=
  Fn_of_vc (fn := Try.f33) (c := ud2_p0) (args := [(.slice a0 a0l a0c)]) mixed (by kernel_rfl) (by kernel_rfl) (by kernel_rfl) (by kernel_rfl) (by kernel_rfl) ((conv (B := vc Pr ud2_p0 (argT [(.slice a0 a0l a0c)]) (ud2_q1 Q E) E H) (by kernel_rfl) (vc_seq (K := (ud2_3_M Q E)) (conv (B := vc Pr ud2_p4 (argT [(.slice a0 a0l a0c)]) (ud2_q3 Q E) E H) (by kernel_rfl) h) (ud2_5ok Q E))))

end Go.Proofs.Ytaffcoiomggpfaa
