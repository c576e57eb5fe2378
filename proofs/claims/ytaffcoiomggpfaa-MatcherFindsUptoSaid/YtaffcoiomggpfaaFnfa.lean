import Derived.Test.YtaffcoiomggpfaaVPr
/- Printed by gen.py: the Go functions of package nfa over a heap view,and that the model does so. -/
namespace Go.Proofs.Ytaffcoiomggpfaa
open Go.V
set_option linter.unusedVariables false
set_option maxRecDepth 100000
variable (Q:QT) (E:ET) (τ:Tau) (H:Heap)
noncomputable def zqh2_q1 (Q:QT) (E:ET) :XT:=(retQ Pr (Try.f33).results.toList Q)
def zqh2_1 (Q:QT) (E:ET) (x0:OA) (l0 c0:Nat) (H:Heap):Prop :=
 Does Pr 51 #[(.slice x0 l0 c0)] H (fun v4 H5 =>
 ∃ (p6:OA) (l7 c8:Nat),v4=(.slice p6 l7 c8)∧Q (.tuple #[(.slice p6 l7 c8),(.int .i64 0)]) H5) E
def zqh2_1_M:Prop:=mSl (τ 0) fun x0 l0 c0=>zqh2_1 Q E x0 l0 c0 H
theorem zqh2_2ok :Ok Pr (zqh2_1_M Q E) (sB (sB (bodyOf Try.f33))) (zqh2_q1 Q E) E:=fun τ H h =>
  wSl 0 h (fun x0 l0 c0 h=>(conv (by kernel_rfl) h))
def zqh2_3 (Q:QT) (E:ET) (x0:OA) (l0 c0:Nat) (H:Heap):Prop :=
 Does Pr 40 #[(.slice x0 l0 c0)] H (fun v9 H10 =>
 ∃ b11:Bool,v9=(.bool b11)∧sel (!b11)
 (Q (.tuple #[(.slice none 0 0),(.int .i64 3)]) H10)
 (zqh2_1 Q E x0 l0 c0 H10)) E
def zqh2_3_M:Prop:=mSl (τ 0) fun x0 l0 c0=>zqh2_3 Q E x0 l0 c0 H
theorem zqh2_4ok :Ok Pr (zqh2_3_M Q E) (sA (sB (bodyOf Try.f33))) (xthen (zqh2_1_M Q E) (zqh2_q1 Q E)) E:=fun τ H h =>
  wSl 0 h (fun x0 l0 c0 h=>(conv (by kernel_rfl) h))
theorem zqh2_5ok :Ok Pr (zqh2_3_M Q E) (sB (bodyOf Try.f33)) (zqh2_q1 Q E) E:=fun τ H h =>
  (conv (by kernel_rfl) (vc_seq (K:=(zqh2_1_M Q E)) (zqh2_4ok Q E τ H h) (zqh2_2ok Q E)))
def zqh2 (Q:QT) (E:ET) (a0:OA) (a0l:Nat) (a0c:Nat) (H:Heap):Prop :=
 zqh2_3 Q E a0 a0l a0c H
theorem zqh2_fn (a0:OA) (a0l:Nat) (a0c:Nat) (Q:QT) (E:ET) (H:Heap) (h:zqh2 Q E a0 a0l a0c H)  :Does Pr 33 #[(.slice a0 a0l a0c)] H Q E :=
  Fn_of_vc (fn:=Try.f33) (c:=(bodyOf Try.f33)) (args:=[(.slice a0 a0l a0c)]) mixed (by kernel_rfl) (by kernel_rfl) (by kernel_rfl) (by kernel_rfl) (by kernel_rfl) ((conv (B:=vc Pr (bodyOf Try.f33) (argT [(.slice a0 a0l a0c)]) (zqh2_q1 Q E) E H) (by kernel_rfl) (vc_seq (K:=(zqh2_3_M Q E)) (conv (B:=vc Pr (sA (bodyOf Try.f33)) (argT [(.slice a0 a0l a0c)]) (xthen (zqh2_3_M Q E) (zqh2_q1 Q E)) E H) (by kernel_rfl) h) (zqh2_5ok Q E))))
end Go.Proofs.Ytaffcoiomggpfaa
