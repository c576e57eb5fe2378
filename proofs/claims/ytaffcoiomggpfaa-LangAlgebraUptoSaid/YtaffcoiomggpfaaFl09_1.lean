import Derived.Test.YtaffcoiomggpfaaVPr
/- Printed by gen.py: the Go functions of package l09 over a heap view, and that the model does so. -/
namespace Go.Proofs.Ytaffcoiomggpfaa
open Go.V
set_option linter.unusedVariables false
set_option maxRecDepth 100000
/-! jobmux/jobmuxlaw09.LangStays -/
@[reducible] noncomputable def l09_LangStays_q1 (Q : QT) (E : ET) : Exit → Tau → Heap → Prop := (retQ Pr (Try.f4).results.toList Q)

@[reducible] noncomputable def l09_LangStays_p0 : Code := bodyOf Try.f4

@[reducible] noncomputable def l09_LangStays_p1 : Code := sB l09_LangStays_p0

@[reducible] noncomputable def l09_LangStays_p2 : Code := sB l09_LangStays_p1

@[reducible] noncomputable def l09_LangStays_p3 : Code := sB l09_LangStays_p2

@[reducible] noncomputable def l09_LangStays_p4 : Code := sB l09_LangStays_p3

@[reducible] noncomputable def l09_LangStays_p5 : Code := sB l09_LangStays_p4

@[reducible] noncomputable def l09_LangStays_p6 : Code := sB l09_LangStays_p5

def l09_LangStays_1 (Q : QT) (E : ET) (x1 : OA) (l1 : Nat) (c1 : Nat) (x5 : OA) (l5 : Nat) (c5 : Nat) (x6 : OA) (l6 : Nat) (c6 : Nat) (x7 : Int) (H : Heap) : Prop :=
 sel (decide ((x7 : Int) < 0))
 (Q (.bool true) H)
 (nw (.cells #[] 5 (0, 0)) H fun i15 H16 =>
 app Pr 24 (some ⟨i15, 0, none⟩) 0 0 (.slice x6 l6 c6) H16 fun p17 l18 c19 H20 =>
 app Pr 24 p17 l18 c19 (.slice x1 l1 c1) H20 fun p21 l22 c23 H24 =>
 Does Pr 19 #[(.slice x5 l5 c5), (.slice p21 l22 c23)] H24 (fun v25 H26 =>
 ∃ n27 : Int, v25 = (.int .i64 n27) ∧ sel ((n27 : Int) == x7)
 ((0 ≤ (x7 : Int) ∧ (x7 : Int) ≤ ((c6 : Nat) : Int)) ∧ Does Pr 19 #[(.slice x5 l5 c5), (.slice (if c6 = 0 then x6 else Option.map (fun a => Addr.add a (0 * 1)) x6) ((x7 : Int).toNat - 0) (c6 - 0))] H26 (fun v28 H29 =>
 ∃ n30 : Int, v28 = (.int .i64 n30) ∧ Q (.bool ((n30 : Int) == x7)) H29) E)
 (Q (.bool false) H26)) E)

def l09_LangStays_1_M (Q : QT) (E : ET) (τ : Tau) (H : Heap) : Prop := mSl (τ 1) fun x1 l1 c1 => mSl (τ 5) fun x5 l5 c5 => mSl (τ 6) fun x6 l6 c6 => mI .i64 (τ 7) fun x7 => l09_LangStays_1 Q E x1 l1 c1 x5 l5 c5 x6 l6 c6 x7 H

theorem l09_LangStays_2ok (Q : QT) (E : ET) (τ : Tau) (H : Heap) (h : l09_LangStays_1_M Q E τ H) : vc Pr l09_LangStays_p6 τ (l09_LangStays_q1 Q E) E H :=
  vSl (i := 1) h (fun x1 l1 c1 h => vSl (i := 5) h (fun x5 l5 c5 h => vSl (i := 6) h (fun x6 l6 c6 h => vI (i := 7) h (fun x7 h => (conv (by kernel_rfl) h)))))

@[reducible] noncomputable def l09_LangStays_q2 (Q : QT) (E : ET) : Exit → Tau → Heap → Prop := (xthen (l09_LangStays_1_M Q E) (l09_LangStays_q1 Q E))

@[reducible] noncomputable def l09_LangStays_p7 : Code := sA l09_LangStays_p5

@[reducible] noncomputable def l09_LangStays_p8 : Code := sB l09_LangStays_p7

def l09_LangStays_3 (Q : QT) (E : ET) (x1 : OA) (l1 : Nat) (c1 : Nat) (x5 : OA) (l5 : Nat) (c5 : Nat) (x6 : OA) (l6 : Nat) (c6 : Nat) (x7 : Int) (x28 : Bool) (H : Heap) : Prop :=
 sel x28
 (Q (.bool false) H)
 (l09_LangStays_1 Q E x1 l1 c1 x5 l5 c5 x6 l6 c6 x7 H)

def l09_LangStays_3_M (Q : QT) (E : ET) (τ : Tau) (H : Heap) : Prop := mSl (τ 1) fun x1 l1 c1 => mSl (τ 5) fun x5 l5 c5 => mSl (τ 6) fun x6 l6 c6 => mI .i64 (τ 7) fun x7 => mB (τ 28) fun x28 => l09_LangStays_3 Q E x1 l1 c1 x5 l5 c5 x6 l6 c6 x7 x28 H

theorem l09_LangStays_4ok (Q : QT) (E : ET) (τ : Tau) (H : Heap) (h : l09_LangStays_3_M Q E τ H) : vc Pr l09_LangStays_p8 τ (l09_LangStays_q2 Q E) E H :=
  vSl (i := 1) h (fun x1 l1 c1 h => vSl (i := 5) h (fun x5 l5 c5 h => vSl (i := 6) h (fun x6 l6 c6 h => vI (i := 7) h (fun x7 h => vB (i := 28) h (fun x28 h => (conv (by kernel_rfl) h))))))

@[reducible] noncomputable def l09_LangStays_q3 (Q : QT) (E : ET) : Exit → Tau → Heap → Prop := (xthen (l09_LangStays_3_M Q E) (l09_LangStays_q2 Q E))

@[reducible] noncomputable def l09_LangStays_p9 : Code := sA l09_LangStays_p7

def l09_LangStays_5 (Q : QT) (E : ET) (x1 : OA) (l1 : Nat) (c1 : Nat) (x5 : OA) (l5 : Nat) (c5 : Nat) (x6 : OA) (l6 : Nat) (c6 : Nat) (x7 : Int) (H : Heap) : Prop :=
 sel (decide ((x7 : Int) > ((l6 : Nat) : Int)))
 (l09_LangStays_3 Q E x1 l1 c1 x5 l5 c5 x6 l6 c6 x7 true H)
 (l09_LangStays_3 Q E x1 l1 c1 x5 l5 c5 x6 l6 c6 x7 (decide ((x7 : Int) < (-1))) H)

def l09_LangStays_5_M (Q : QT) (E : ET) (τ : Tau) (H : Heap) : Prop := mSl (τ 1) fun x1 l1 c1 => mSl (τ 5) fun x5 l5 c5 => mSl (τ 6) fun x6 l6 c6 => mI .i64 (τ 7) fun x7 => l09_LangStays_5 Q E x1 l1 c1 x5 l5 c5 x6 l6 c6 x7 H

theorem l09_LangStays_6ok (Q : QT) (E : ET) (τ : Tau) (H : Heap) (h : l09_LangStays_5_M Q E τ H) : vc Pr l09_LangStays_p9 τ (l09_LangStays_q3 Q E) E H :=
  vSl (i := 1) h (fun x1 l1 c1 h => vSl (i := 5) h (fun x5 l5 c5 h => vSl (i := 6) h (fun x6 l6 c6 h => vI (i := 7) h (fun x7 h => (conv (by kernel_rfl) h)))))

theorem l09_LangStays_7ok (Q : QT) (E : ET) (τ : Tau) (H : Heap) (h : l09_LangStays_5_M Q E τ H) : vc Pr l09_LangStays_p7 τ (l09_LangStays_q2 Q E) E H :=
  (conv (B := vc Pr l09_LangStays_p7 τ (l09_LangStays_q2 Q E) E H) (by kernel_rfl) (vc_seq (K := (l09_LangStays_3_M Q E)) (l09_LangStays_6ok Q E τ H h) (l09_LangStays_4ok Q E)))

theorem l09_LangStays_8ok (Q : QT) (E : ET) (τ : Tau) (H : Heap) (h : l09_LangStays_5_M Q E τ H) : vc Pr l09_LangStays_p5 τ (l09_LangStays_q1 Q E) E H :=
  (conv (B := vc Pr l09_LangStays_p5 τ (l09_LangStays_q1 Q E) E H) (by kernel_rfl) (vc_seq (K := (l09_LangStays_1_M Q E)) (l09_LangStays_7ok Q E τ H h) (l09_LangStays_2ok Q E)))

@[reducible] noncomputable def l09_LangStays_q4 (Q : QT) (E : ET) : Exit → Tau → Heap → Prop := (xthen (l09_LangStays_5_M Q E) (l09_LangStays_q1 Q E))

@[reducible] noncomputable def l09_LangStays_p10 : Code := sA l09_LangStays_p4

def l09_LangStays_9 (Q : QT) (E : ET) (x1 : OA) (l1 : Nat) (c1 : Nat) (x5 : OA) (l5 : Nat) (c5 : Nat) (x6 : OA) (l6 : Nat) (c6 : Nat) (H : Heap) : Prop :=
 Does Pr 19 #[(.slice x5 l5 c5), (.slice x6 l6 c6)] H (fun v31 H32 =>
 ∃ n33 : Int, v31 = (.int .i64 n33) ∧ l09_LangStays_5 Q E x1 l1 c1 x5 l5 c5 x6 l6 c6 n33 H32) E

def l09_LangStays_9_M (Q : QT) (E : ET) (τ : Tau) (H : Heap) : Prop := mSl (τ 1) fun x1 l1 c1 => mSl (τ 5) fun x5 l5 c5 => mSl (τ 6) fun x6 l6 c6 => l09_LangStays_9 Q E x1 l1 c1 x5 l5 c5 x6 l6 c6 H

theorem l09_LangStays_10ok (Q : QT) (E : ET) (τ : Tau) (H : Heap) (h : l09_LangStays_9_M Q E τ H) : vc Pr l09_LangStays_p10 τ (l09_LangStays_q4 Q E) E H :=
  vSl (i := 1) h (fun x1 l1 c1 h => vSl (i := 5) h (fun x5 l5 c5 h => vSl (i := 6) h (fun x6 l6 c6 h => (conv (by kernel_rfl) h))))

theorem l09_LangStays_11ok (Q : QT) (E : ET) (τ : Tau) (H : Heap) (h : l09_LangStays_9_M Q E τ H) : vc Pr l09_LangStays_p4 τ (l09_LangStays_q1 Q E) E H :=
  (conv (B := vc Pr l09_LangStays_p4 τ (l09_LangStays_q1 Q E) E H) (by kernel_rfl) (vc_seq (K := (l09_LangStays_5_M Q E)) (l09_LangStays_10ok Q E τ H h) (l09_LangStays_8ok Q E)))

@[reducible] noncomputable def l09_LangStays_q5 (Q : QT) (E : ET) : Exit → Tau → Heap → Prop := (xthen (l09_LangStays_9_M Q E) (l09_LangStays_q1 Q E))

@[reducible] noncomputable def l09_LangStays_p11 : Code := sA l09_LangStays_p3

def l09_LangStays_12 (Q : QT) (E : ET) (x0 : OA) (l0 : Nat) (c0 : Nat) (x1 : OA) (l1 : Nat) (c1 : Nat) (H : Heap) : Prop :=
 Does Pr 18 #[(.slice x0 l0 c0)] H (fun v34 H35 =>
 ∃ (p36 : OA) (l37 c38 : Nat), ∃ (p39 : OA) (l40 c41 : Nat), v34 = (.tuple #[(.slice p36 l37 c38), (.slice p39 l40 c41)]) ∧ l09_LangStays_9 Q E x1 l1 c1 p36 l37 c38 p39 l40 c41 H35) E

def l09_LangStays_12_M (Q : QT) (E : ET) (τ : Tau) (H : Heap) : Prop := mSl (τ 0) fun x0 l0 c0 => mSl (τ 1) fun x1 l1 c1 => l09_LangStays_12 Q E x0 l0 c0 x1 l1 c1 H

theorem l09_LangStays_13ok (Q : QT) (E : ET) (τ : Tau) (H : Heap) (h : l09_LangStays_12_M Q E τ H) : vc Pr l09_LangStays_p11 τ (l09_LangStays_q5 Q E) E H :=
  vSl (i := 0) h (fun x0 l0 c0 h => vSl (i := 1) h (fun x1 l1 c1 h => (conv (by kernel_rfl) h)))

theorem l09_LangStays_14ok (Q : QT) (E : ET) (τ : Tau) (H : Heap) (h : l09_LangStays_12_M Q E τ H) : vc Pr l09_LangStays_p3 τ (l09_LangStays_q1 Q E) E H :=
  (conv (B := vc Pr l09_LangStays_p3 τ (l09_LangStays_q1 Q E) E H) (by kernel_rfl) (vc_seq (K := (l09_LangStays_9_M Q E)) (l09_LangStays_13ok Q E τ H h) (l09_LangStays_11ok Q E)))

@[reducible] noncomputable def l09_LangStays_q6 (Q : QT) (E : ET) : Exit → Tau → Heap → Prop := (xthen (l09_LangStays_12_M Q E) (l09_LangStays_q1 Q E))

@[reducible] noncomputable def l09_LangStays_p12 : Code := sA l09_LangStays_p2

def l09_LangStays_15 (Q : QT) (E : ET) (x0 : OA) (l0 : Nat) (c0 : Nat) (x1 : OA) (l1 : Nat) (c1 : Nat) (H : Heap) : Prop :=
 sel (decide ((((l1 : Nat) : Int) : Int) > 10))
 (Q (.bool true) H)
 (l09_LangStays_12 Q E x0 l0 c0 x1 l1 c1 H)

def l09_LangStays_15_M (Q : QT) (E : ET) (τ : Tau) (H : Heap) : Prop := mSl (τ 0) fun x0 l0 c0 => mSl (τ 1) fun x1 l1 c1 => l09_LangStays_15 Q E x0 l0 c0 x1 l1 c1 H

theorem l09_LangStays_16ok (Q : QT) (E : ET) (τ : Tau) (H : Heap) (h : l09_LangStays_15_M Q E τ H) : vc Pr l09_LangStays_p12 τ (l09_LangStays_q6 Q E) E H :=
  vSl (i := 0) h (fun x0 l0 c0 h => vSl (i := 1) h (fun x1 l1 c1 h => (conv (by kernel_rfl) h)))

theorem l09_LangStays_17ok (Q : QT) (E : ET) (τ : Tau) (H : Heap) (h : l09_LangStays_15_M Q E τ H) : vc Pr l09_LangStays_p2 τ (l09_LangStays_q1 Q E) E H :=
  (conv (B := vc Pr l09_LangStays_p2 τ (l09_LangStays_q1 Q E) E H) (by kernel_rfl) (vc_seq (K := (l09_LangStays_12_M Q E)) (l09_LangStays_16ok Q E τ H h) (l09_LangStays_14ok Q E)))

@[reducible] noncomputable def l09_LangStays_q7 (Q : QT) (E : ET) : Exit → Tau → Heap → Prop := (xthen (l09_LangStays_15_M Q E) (l09_LangStays_q1 Q E))

@[reducible] noncomputable def l09_LangStays_p13 : Code := sA l09_LangStays_p1

def l09_LangStays_18 (Q : QT) (E : ET) (x0 : OA) (l0 : Nat) (c0 : Nat) (x1 : OA) (l1 : Nat) (c1 : Nat) (H : Heap) : Prop :=
 Does Pr 17 #[] H (fun v42 H43 =>
 ∃ b44 : Bool, v42 = (.bool b44) ∧ sel (!b44)
 (Q (.bool false) H43)
 (l09_LangStays_15 Q E x0 l0 c0 x1 l1 c1 H43)) E

def l09_LangStays_18_M (Q : QT) (E : ET) (τ : Tau) (H : Heap) : Prop := mSl (τ 0) fun x0 l0 c0 => mSl (τ 1) fun x1 l1 c1 => l09_LangStays_18 Q E x0 l0 c0 x1 l1 c1 H

theorem l09_LangStays_19ok (Q : QT) (E : ET) (τ : Tau) (H : Heap) (h : l09_LangStays_18_M Q E τ H) : vc Pr l09_LangStays_p13 τ (l09_LangStays_q7 Q E) E H :=
  vSl (i := 0) h (fun x0 l0 c0 h => vSl (i := 1) h (fun x1 l1 c1 h => (conv (by kernel_rfl) h)))

theorem l09_LangStays_20ok (Q : QT) (E : ET) (τ : Tau) (H : Heap) (h : l09_LangStays_18_M Q E τ H) : vc Pr l09_LangStays_p1 τ (l09_LangStays_q1 Q E) E H :=
  (conv (B := vc Pr l09_LangStays_p1 τ (l09_LangStays_q1 Q E) E H) (by kernel_rfl) (vc_seq (K := (l09_LangStays_15_M Q E)) (l09_LangStays_19ok Q E τ H h) (l09_LangStays_17ok Q E)))

@[reducible] noncomputable def l09_LangStays_q8 (Q : QT) (E : ET) : Exit → Tau → Heap → Prop := (xthen (l09_LangStays_18_M Q E) (l09_LangStays_q1 Q E))

@[reducible] noncomputable def l09_LangStays_p14 : Code := sA l09_LangStays_p0

def l09_LangStays (Q : QT) (E : ET) (a0 : OA) (a0l : Nat) (a0c : Nat) (a1 : OA) (a1l : Nat) (a1c : Nat) (H : Heap) : Prop :=
 l09_LangStays_18 Q E a0 a0l a0c a1 a1l a1c H

theorem l09_LangStays_fn (a0 : OA) (a0l : Nat) (a0c : Nat) (a1 : OA) (a1l : Nat) (a1c : Nat) (Q : QT) (E : ET) (H : Heap) (h : l09_LangStays Q E a0 a0l a0c a1 a1l a1c H)   : Does Pr 4 #[(.slice a0 a0l a0c), (.slice a1 a1l a1c)] H Q E :=
  Fn_of_vc (fn := Try.f4) (c := l09_LangStays_p0) (args := [(.slice a0 a0l a0c), (.slice a1 a1l a1c)]) mixed (by kernel_rfl) (by kernel_rfl) (by kernel_rfl) (by kernel_rfl) (by kernel_rfl) ((conv (B := vc Pr l09_LangStays_p0 (argT [(.slice a0 a0l a0c), (.slice a1 a1l a1c)]) (l09_LangStays_q1 Q E) E H) (by kernel_rfl) (vc_seq (K := (l09_LangStays_18_M Q E)) (conv (B := vc Pr l09_LangStays_p14 (argT [(.slice a0 a0l a0c), (.slice a1 a1l a1c)]) (l09_LangStays_q8 Q E) E H) (by kernel_rfl) h) (l09_LangStays_20ok Q E))))

/-! jobmux/jobmuxlaw09.LangAlgebra -/
@[reducible] noncomputable def l09_LangAlgebra_q1 (Q : QT) (E : ET) : Exit → Tau → Heap → Prop := (retQ Pr (Try.f5).results.toList Q)

@[reducible] noncomputable def l09_LangAlgebra_p0 : Code := bodyOf Try.f5

@[reducible] noncomputable def l09_LangAlgebra_p1 : Code := sB l09_LangAlgebra_p0

@[reducible] noncomputable def l09_LangAlgebra_p2 : Code := sB l09_LangAlgebra_p1

@[reducible] noncomputable def l09_LangAlgebra_p3 : Code := sB l09_LangAlgebra_p2

@[reducible] noncomputable def l09_LangAlgebra_p4 : Code := sB l09_LangAlgebra_p3

@[reducible] noncomputable def l09_LangAlgebra_p5 : Code := sB l09_LangAlgebra_p4

@[reducible] noncomputable def l09_LangAlgebra_p6 : Code := sB l09_LangAlgebra_p5

@[reducible] noncomputable def l09_LangAlgebra_p7 : Code := sB l09_LangAlgebra_p6

@[reducible] noncomputable def l09_LangAlgebra_p8 : Code := sB l09_LangAlgebra_p7

@[reducible] noncomputable def l09_LangAlgebra_p9 : Code := sB l09_LangAlgebra_p8

@[reducible] noncomputable def l09_LangAlgebra_p10 : Code := sB l09_LangAlgebra_p9

@[reducible] noncomputable def l09_LangAlgebra_p11 : Code := sB l09_LangAlgebra_p10

def l09_LangAlgebra_1 (Q : QT) (E : ET)  (H : Heap) : Prop :=
 Q (.bool true) H

def l09_LangAlgebra_1_M (Q : QT) (E : ET) (τ : Tau) (H : Heap) : Prop := l09_LangAlgebra_1 Q E  H

theorem l09_LangAlgebra_2ok (Q : QT) (E : ET) (τ : Tau) (H : Heap) (h : l09_LangAlgebra_1_M Q E τ H) : vc Pr l09_LangAlgebra_p11 τ (l09_LangAlgebra_q1 Q E) E H :=
  (conv (B := vc Pr l09_LangAlgebra_p11 τ (l09_LangAlgebra_q1 Q E) E H) (by kernel_rfl) h)

@[reducible] noncomputable def l09_LangAlgebra_q2 (Q : QT) (E : ET) : Exit → Tau → Heap → Prop := (xthen (l09_LangAlgebra_1_M Q E) (l09_LangAlgebra_q1 Q E))

@[reducible] noncomputable def l09_LangAlgebra_p12 : Code := sA l09_LangAlgebra_p10

@[reducible] noncomputable def l09_LangAlgebra_p13 : Code := sB l09_LangAlgebra_p12

@[reducible] noncomputable def l09_LangAlgebra_q3 (Q : QT) (E : ET) : Exit → Tau → Heap → Prop := (xblock 0 (l09_LangAlgebra_q2 Q E))

@[reducible] noncomputable def l09_LangAlgebra_p14 : Code := sI l09_LangAlgebra_p13

@[reducible] noncomputable def l09_LangAlgebra_q4 (nx131 : Int → HP) (Q : QT) (E : ET) : Exit → Tau → Heap → Prop := (xthen (fun τ H => mI .i64 (τ 21) fun x21' => nx131 x21' H) (l09_LangAlgebra_q3 Q E))

@[reducible] noncomputable def l09_LangAlgebra_p15 : Code := sI l09_LangAlgebra_p14

@[reducible] noncomputable def l09_LangAlgebra_p16 : Code := sB l09_LangAlgebra_p15

@[reducible] noncomputable def l09_LangAlgebra_p17 : Code := sB l09_LangAlgebra_p16

def l09_LangAlgebra_3 (nx131 : Int → HP) (Q : QT) (E : ET) (x2 : OA) (l2 : Nat) (c2 : Nat) (x9 : OA) (l9 : Nat) (c9 : Nat) (x11 : OA) (l11 : Nat) (c11 : Nat) (x13 : OA) (l13 : Nat) (c13 : Nat) (x15 : OA) (l15 : Nat) (c15 : Nat) (x17 : OA) (l17 : Nat) (c17 : Nat) (x19 : OA) (l19 : Nat) (c19 : Nat) (x21 : Int) (H : Heap) : Prop :=
 nx131 (IntKind.wrap .i64 (x21 + 1)) H

def l09_LangAlgebra_3_M (nx131 : Int → HP) (Q : QT) (E : ET) (τ : Tau) (H : Heap) : Prop := mSl (τ 2) fun x2 l2 c2 => mSl (τ 9) fun x9 l9 c9 => mSl (τ 11) fun x11 l11 c11 => mSl (τ 13) fun x13 l13 c13 => mSl (τ 15) fun x15 l15 c15 => mSl (τ 17) fun x17 l17 c17 => mSl (τ 19) fun x19 l19 c19 => mI .i64 (τ 21) fun x21 => l09_LangAlgebra_3 nx131 Q E x2 l2 c2 x9 l9 c9 x11 l11 c11 x13 l13 c13 x15 l15 c15 x17 l17 c17 x19 l19 c19 x21 H

theorem l09_LangAlgebra_4ok (nx131 : Int → HP) (Q : QT) (E : ET) (τ : Tau) (H : Heap) (h : l09_LangAlgebra_3_M nx131 Q E τ H) : vc Pr l09_LangAlgebra_p17 τ (l09_LangAlgebra_q4 nx131 Q E) E H :=
  vSl (i := 2) h (fun x2 l2 c2 h => vSl (i := 9) h (fun x9 l9 c9 h => vSl (i := 11) h (fun x11 l11 c11 h => vSl (i := 13) h (fun x13 l13 c13 h => vSl (i := 15) h (fun x15 l15 c15 h => vSl (i := 17) h (fun x17 l17 c17 h => vSl (i := 19) h (fun x19 l19 c19 h => vI (i := 21) h (fun x21 h => (conv (by kernel_rfl) h)))))))))

@[reducible] noncomputable def l09_LangAlgebra_q5 (nx131 : Int → HP) (Q : QT) (E : ET) : Exit → Tau → Heap → Prop := (xthen (l09_LangAlgebra_3_M nx131 Q E) (l09_LangAlgebra_q4 nx131 Q E))

@[reducible] noncomputable def l09_LangAlgebra_p18 : Code := sA l09_LangAlgebra_p16

@[reducible] noncomputable def l09_LangAlgebra_q6 (nx131 : Int → HP) (Q : QT) (E : ET) : Exit → Tau → Heap → Prop := (xblock 1 (l09_LangAlgebra_q5 nx131 Q E))

@[reducible] noncomputable def l09_LangAlgebra_p19 : Code := sI l09_LangAlgebra_p18

@[reducible] noncomputable def l09_LangAlgebra_p20 : Code := sB l09_LangAlgebra_p19

@[reducible] noncomputable def l09_LangAlgebra_p21 : Code := sB l09_LangAlgebra_p20

@[reducible] noncomputable def l09_LangAlgebra_p22 : Code := sB l09_LangAlgebra_p21

@[reducible] noncomputable def l09_LangAlgebra_p23 : Code := sB l09_LangAlgebra_p22

@[reducible] noncomputable def l09_LangAlgebra_p24 : Code := sB l09_LangAlgebra_p23

@[reducible] noncomputable def l09_LangAlgebra_p25 : Code := sB l09_LangAlgebra_p24

def l09_LangAlgebra_5 (nx131 : Int → HP) (Q : QT) (E : ET) (x2 : OA) (l2 : Nat) (c2 : Nat) (x9 : OA) (l9 : Nat) (c9 : Nat) (x11 : OA) (l11 : Nat) (c11 : Nat) (x13 : OA) (l13 : Nat) (c13 : Nat) (x15 : OA) (l15 : Nat) (c15 : Nat) (x17 : OA) (l17 : Nat) (c17 : Nat) (x19 : OA) (l19 : Nat) (c19 : Nat) (x21 : Int) (x178 : Bool) (H : Heap) : Prop :=
 sel x178
 (Q (.bool false) H)
 (l09_LangAlgebra_3 nx131 Q E x2 l2 c2 x9 l9 c9 x11 l11 c11 x13 l13 c13 x15 l15 c15 x17 l17 c17 x19 l19 c19 x21 H)

def l09_LangAlgebra_5_M (nx131 : Int → HP) (Q : QT) (E : ET) (τ : Tau) (H : Heap) : Prop := mSl (τ 2) fun x2 l2 c2 => mSl (τ 9) fun x9 l9 c9 => mSl (τ 11) fun x11 l11 c11 => mSl (τ 13) fun x13 l13 c13 => mSl (τ 15) fun x15 l15 c15 => mSl (τ 17) fun x17 l17 c17 => mSl (τ 19) fun x19 l19 c19 => mI .i64 (τ 21) fun x21 => mB (τ 178) fun x178 => l09_LangAlgebra_5 nx131 Q E x2 l2 c2 x9 l9 c9 x11 l11 c11 x13 l13 c13 x15 l15 c15 x17 l17 c17 x19 l19 c19 x21 x178 H

theorem l09_LangAlgebra_6ok (nx131 : Int → HP) (Q : QT) (E : ET) (τ : Tau) (H : Heap) (h : l09_LangAlgebra_5_M nx131 Q E τ H) : vc Pr l09_LangAlgebra_p25 τ (l09_LangAlgebra_q6 nx131 Q E) E H :=
  vSl (i := 2) h (fun x2 l2 c2 h => vSl (i := 9) h (fun x9 l9 c9 h => vSl (i := 11) h (fun x11 l11 c11 h => vSl (i := 13) h (fun x13 l13 c13 h => vSl (i := 15) h (fun x15 l15 c15 h => vSl (i := 17) h (fun x17 l17 c17 h => vSl (i := 19) h (fun x19 l19 c19 h => vI (i := 21) h (fun x21 h => vB (i := 178) h (fun x178 h => (conv (by kernel_rfl) h))))))))))

@[reducible] noncomputable def l09_LangAlgebra_q7 (nx131 : Int → HP) (Q : QT) (E : ET) : Exit → Tau → Heap → Prop := (xthen (l09_LangAlgebra_5_M nx131 Q E) (l09_LangAlgebra_q6 nx131 Q E))

@[reducible] noncomputable def l09_LangAlgebra_p26 : Code := sA l09_LangAlgebra_p24

def l09_LangAlgebra_7 (nx131 : Int → HP) (Q : QT) (E : ET) (x2 : OA) (l2 : Nat) (c2 : Nat) (x9 : OA) (l9 : Nat) (c9 : Nat) (x11 : OA) (l11 : Nat) (c11 : Nat) (x13 : OA) (l13 : Nat) (c13 : Nat) (x15 : OA) (l15 : Nat) (c15 : Nat) (x17 : OA) (l17 : Nat) (c17 : Nat) (x19 : OA) (l19 : Nat) (c19 : Nat) (x21 : Int) (x24 : OA) (l24 : Nat) (c24 : Nat) (x26 : OA) (l26 : Nat) (c26 : Nat) (H : Heap) : Prop :=
 Does Pr 24 #[(.slice x13 l13 c13), (.slice x2 l2 c2), (.int .i64 x21)] H (fun v272 H273 =>
 ∃ (p274 : OA) (l275 c276 : Nat), v272 = (.slice p274 l275 c276) ∧ Does Pr 26 #[(.slice p274 l275 c276), (.slice x24 l24 c24)] H273 (fun v277 H278 =>
 ∃ b279 : Bool, v277 = (.bool b279) ∧ sel (!b279)
 (l09_LangAlgebra_5 nx131 Q E x2 l2 c2 x9 l9 c9 x11 l11 c11 x13 l13 c13 x15 l15 c15 x17 l17 c17 x19 l19 c19 x21 true H278)
 (Does Pr 24 #[(.slice x15 l15 c15), (.slice x2 l2 c2), (.int .i64 x21)] H278 (fun v280 H281 =>
 ∃ (p282 : OA) (l283 c284 : Nat), v280 = (.slice p282 l283 c284) ∧ Does Pr 26 #[(.slice p282 l283 c284), (.slice x26 l26 c26)] H281 (fun v285 H286 =>
 ∃ b287 : Bool, v285 = (.bool b287) ∧ sel (!b287)
 (l09_LangAlgebra_5 nx131 Q E x2 l2 c2 x9 l9 c9 x11 l11 c11 x13 l13 c13 x15 l15 c15 x17 l17 c17 x19 l19 c19 x21 true H286)
 (Does Pr 24 #[(.slice x17 l17 c17), (.slice x2 l2 c2), (.int .i64 x21)] H286 (fun v288 H289 =>
 ∃ (p290 : OA) (l291 c292 : Nat), v288 = (.slice p290 l291 c292) ∧ Does Pr 24 #[(.slice x19 l19 c19), (.slice x2 l2 c2), (.int .i64 x21)] H289 (fun v293 H294 =>
 ∃ (p295 : OA) (l296 c297 : Nat), v293 = (.slice p295 l296 c297) ∧ Does Pr 26 #[(.slice p290 l291 c292), (.slice p295 l296 c297)] H294 (fun v298 H299 =>
 ∃ b300 : Bool, v298 = (.bool b300) ∧ l09_LangAlgebra_5 nx131 Q E x2 l2 c2 x9 l9 c9 x11 l11 c11 x13 l13 c13 x15 l15 c15 x17 l17 c17 x19 l19 c19 x21 (!b300) H299) E) E) E)) E) E)) E) E

def l09_LangAlgebra_7_M (nx131 : Int → HP) (Q : QT) (E : ET) (τ : Tau) (H : Heap) : Prop := mSl (τ 2) fun x2 l2 c2 => mSl (τ 9) fun x9 l9 c9 => mSl (τ 11) fun x11 l11 c11 => mSl (τ 13) fun x13 l13 c13 => mSl (τ 15) fun x15 l15 c15 => mSl (τ 17) fun x17 l17 c17 => mSl (τ 19) fun x19 l19 c19 => mI .i64 (τ 21) fun x21 => mSl (τ 24) fun x24 l24 c24 => mSl (τ 26) fun x26 l26 c26 => l09_LangAlgebra_7 nx131 Q E x2 l2 c2 x9 l9 c9 x11 l11 c11 x13 l13 c13 x15 l15 c15 x17 l17 c17 x19 l19 c19 x21 x24 l24 c24 x26 l26 c26 H

theorem l09_LangAlgebra_8ok (nx131 : Int → HP) (Q : QT) (E : ET) (τ : Tau) (H : Heap) (h : l09_LangAlgebra_7_M nx131 Q E τ H) : vc Pr l09_LangAlgebra_p26 τ (l09_LangAlgebra_q7 nx131 Q E) E H :=
  vSl (i := 2) h (fun x2 l2 c2 h => vSl (i := 9) h (fun x9 l9 c9 h => vSl (i := 11) h (fun x11 l11 c11 h => vSl (i := 13) h (fun x13 l13 c13 h => vSl (i := 15) h (fun x15 l15 c15 h => vSl (i := 17) h (fun x17 l17 c17 h => vSl (i := 19) h (fun x19 l19 c19 h => vI (i := 21) h (fun x21 h => vSl (i := 24) h (fun x24 l24 c24 h => vSl (i := 26) h (fun x26 l26 c26 h => (conv (by kernel_rfl) h)))))))))))

theorem l09_LangAlgebra_9ok (nx131 : Int → HP) (Q : QT) (E : ET) (τ : Tau) (H : Heap) (h : l09_LangAlgebra_7_M nx131 Q E τ H) : vc Pr l09_LangAlgebra_p24 τ (l09_LangAlgebra_q6 nx131 Q E) E H :=
  (conv (B := vc Pr l09_LangAlgebra_p24 τ (l09_LangAlgebra_q6 nx131 Q E) E H) (by kernel_rfl) (vc_seq (K := (l09_LangAlgebra_5_M nx131 Q E)) (l09_LangAlgebra_8ok nx131 Q E τ H h) (l09_LangAlgebra_6ok nx131 Q E)))

@[reducible] noncomputable def l09_LangAlgebra_q8 (nx131 : Int → HP) (Q : QT) (E : ET) : Exit → Tau → Heap → Prop := (xthen (l09_LangAlgebra_7_M nx131 Q E) (l09_LangAlgebra_q6 nx131 Q E))

@[reducible] noncomputable def l09_LangAlgebra_p27 : Code := sA l09_LangAlgebra_p23

@[reducible] noncomputable def l09_LangAlgebra_p28 : Code := sB l09_LangAlgebra_p27

@[reducible] noncomputable def l09_LangAlgebra_q9 (nx131 : Int → HP) (Q : QT) (E : ET) : Exit → Tau → Heap → Prop := (xblock 4 (l09_LangAlgebra_q8 nx131 Q E))

@[reducible] noncomputable def l09_LangAlgebra_p29 : Code := sI l09_LangAlgebra_p28

@[reducible] noncomputable def l09_LangAlgebra_q10 (nx131 : Int → HP) (nx301 : Option Addr → Nat → Nat → Int → HP) (Q : QT) (E : ET) : Exit → Tau → Heap → Prop := (xthen (fun τ H => mSl (τ 26) fun x26' l26' c26' => mI .i64 (τ 27) fun x27' => nx301 x26' l26' c26' x27' H) (l09_LangAlgebra_q9 nx131 Q E))

@[reducible] noncomputable def l09_LangAlgebra_p30 : Code := sI l09_LangAlgebra_p29

@[reducible] noncomputable def l09_LangAlgebra_p31 : Code := sB l09_LangAlgebra_p30

@[reducible] noncomputable def l09_LangAlgebra_p32 : Code := sB l09_LangAlgebra_p31

def l09_LangAlgebra_10 (nx131 : Int → HP) (nx301 : Option Addr → Nat → Nat → Int → HP) (Q : QT) (E : ET) (x2 : OA) (l2 : Nat) (c2 : Nat) (x9 : OA) (l9 : Nat) (c9 : Nat) (x11 : OA) (l11 : Nat) (c11 : Nat) (x13 : OA) (l13 : Nat) (c13 : Nat) (x15 : OA) (l15 : Nat) (c15 : Nat) (x17 : OA) (l17 : Nat) (c17 : Nat) (x19 : OA) (l19 : Nat) (c19 : Nat) (x21 : Int) (x22 : OA) (l22 : Nat) (c22 : Nat) (x24 : OA) (l24 : Nat) (c24 : Nat) (x26 : OA) (l26 : Nat) (c26 : Nat) (x27 : Int) (H : Heap) : Prop :=
 nx301 x26 l26 c26 (IntKind.wrap .i64 (x27 + 1)) H

def l09_LangAlgebra_10_M (nx131 : Int → HP) (nx301 : Option Addr → Nat → Nat → Int → HP) (Q : QT) (E : ET) (τ : Tau) (H : Heap) : Prop := mSl (τ 2) fun x2 l2 c2 => mSl (τ 9) fun x9 l9 c9 => mSl (τ 11) fun x11 l11 c11 => mSl (τ 13) fun x13 l13 c13 => mSl (τ 15) fun x15 l15 c15 => mSl (τ 17) fun x17 l17 c17 => mSl (τ 19) fun x19 l19 c19 => mI .i64 (τ 21) fun x21 => mSl (τ 22) fun x22 l22 c22 => mSl (τ 24) fun x24 l24 c24 => mSl (τ 26) fun x26 l26 c26 => mI .i64 (τ 27) fun x27 => l09_LangAlgebra_10 nx131 nx301 Q E x2 l2 c2 x9 l9 c9 x11 l11 c11 x13 l13 c13 x15 l15 c15 x17 l17 c17 x19 l19 c19 x21 x22 l22 c22 x24 l24 c24 x26 l26 c26 x27 H

theorem l09_LangAlgebra_11ok (nx131 : Int → HP) (nx301 : Option Addr → Nat → Nat → Int → HP) (Q : QT) (E : ET) (τ : Tau) (H : Heap) (h : l09_LangAlgebra_10_M nx131 nx301 Q E τ H) : vc Pr l09_LangAlgebra_p32 τ (l09_LangAlgebra_q10 nx131 nx301 Q E) E H :=
  vSl (i := 2) h (fun x2 l2 c2 h => vSl (i := 9) h (fun x9 l9 c9 h => vSl (i := 11) h (fun x11 l11 c11 h => vSl (i := 13) h (fun x13 l13 c13 h => vSl (i := 15) h (fun x15 l15 c15 h => vSl (i := 17) h (fun x17 l17 c17 h => vSl (i := 19) h (fun x19 l19 c19 h => vI (i := 21) h (fun x21 h => vSl (i := 22) h (fun x22 l22 c22 h => vSl (i := 24) h (fun x24 l24 c24 h => vSl (i := 26) h (fun x26 l26 c26 h => vI (i := 27) h (fun x27 h => (conv (by kernel_rfl) h)))))))))))))

@[reducible] noncomputable def l09_LangAlgebra_q11 (nx131 : Int → HP) (nx301 : Option Addr → Nat → Nat → Int → HP) (Q : QT) (E : ET) : Exit → Tau → Heap → Prop := (xthen (l09_LangAlgebra_10_M nx131 nx301 Q E) (l09_LangAlgebra_q10 nx131 nx301 Q E))

@[reducible] noncomputable def l09_LangAlgebra_p33 : Code := sA l09_LangAlgebra_p31

@[reducible] noncomputable def l09_LangAlgebra_q12 (nx131 : Int → HP) (nx301 : Option Addr → Nat → Nat → Int → HP) (Q : QT) (E : ET) : Exit → Tau → Heap → Prop := (xblock 5 (l09_LangAlgebra_q11 nx131 nx301 Q E))

@[reducible] noncomputable def l09_LangAlgebra_p34 : Code := sI l09_LangAlgebra_p33

@[reducible] noncomputable def l09_LangAlgebra_p35 : Code := sB l09_LangAlgebra_p34

@[reducible] noncomputable def l09_LangAlgebra_q13 (nx131 : Int → HP) (nx301 : Option Addr → Nat → Nat → Int → HP) (Q : QT) (E : ET) : Exit → Tau → Heap → Prop := (xblock 6 (l09_LangAlgebra_q12 nx131 nx301 Q E))

@[reducible] noncomputable def l09_LangAlgebra_p36 : Code := sI l09_LangAlgebra_p35

@[reducible] noncomputable def l09_LangAlgebra_q14 (nx131 : Int → HP) (nx301 : Option Addr → Nat → Nat → Int → HP) (nx321 : Option Addr → Nat → Nat → Int → HP) (Q : QT) (E : ET) : Exit → Tau → Heap → Prop := (xthen (fun τ H => mSl (τ 26) fun x26' l26' c26' => mI .i64 (τ 130) fun x130' => nx321 x26' l26' c26' x130' H) (l09_LangAlgebra_q13 nx131 nx301 Q E))

@[reducible] noncomputable def l09_LangAlgebra_p37 : Code := sI l09_LangAlgebra_p36

@[reducible] noncomputable def l09_LangAlgebra_p38 : Code := sB l09_LangAlgebra_p37

@[reducible] noncomputable def l09_LangAlgebra_p39 : Code := sB l09_LangAlgebra_p38

@[reducible] noncomputable def l09_LangAlgebra_p40 : Code := sB l09_LangAlgebra_p39

def l09_LangAlgebra_12 (nx131 : Int → HP) (nx301 : Option Addr → Nat → Nat → Int → HP) (nx321 : Option Addr → Nat → Nat → Int → HP) (Q : QT) (E : ET) (x2 : OA) (l2 : Nat) (c2 : Nat) (x9 : OA) (l9 : Nat) (c9 : Nat) (x11 : OA) (l11 : Nat) (c11 : Nat) (x13 : OA) (l13 : Nat) (c13 : Nat) (x15 : OA) (l15 : Nat) (c15 : Nat) (x17 : OA) (l17 : Nat) (c17 : Nat) (x19 : OA) (l19 : Nat) (c19 : Nat) (x21 : Int) (x22 : OA) (l22 : Nat) (c22 : Nat) (x24 : OA) (l24 : Nat) (c24 : Nat) (x26 : OA) (l26 : Nat) (c26 : Nat) (x27 : Int) (x128 : OA) (l128 : Nat) (c128 : Nat) (x129 : Int) (x130 : Int) (H : Heap) : Prop :=
 nx321 x26 l26 c26 (IntKind.wrap .i64 (x130 + 1)) H

def l09_LangAlgebra_12_M (nx131 : Int → HP) (nx301 : Option Addr → Nat → Nat → Int → HP) (nx321 : Option Addr → Nat → Nat → Int → HP) (Q : QT) (E : ET) (τ : Tau) (H : Heap) : Prop := mSl (τ 2) fun x2 l2 c2 => mSl (τ 9) fun x9 l9 c9 => mSl (τ 11) fun x11 l11 c11 => mSl (τ 13) fun x13 l13 c13 => mSl (τ 15) fun x15 l15 c15 => mSl (τ 17) fun x17 l17 c17 => mSl (τ 19) fun x19 l19 c19 => mI .i64 (τ 21) fun x21 => mSl (τ 22) fun x22 l22 c22 => mSl (τ 24) fun x24 l24 c24 => mSl (τ 26) fun x26 l26 c26 => mI .i64 (τ 27) fun x27 => mSl (τ 128) fun x128 l128 c128 => mI .i64 (τ 129) fun x129 => mI .i64 (τ 130) fun x130 => l09_LangAlgebra_12 nx131 nx301 nx321 Q E x2 l2 c2 x9 l9 c9 x11 l11 c11 x13 l13 c13 x15 l15 c15 x17 l17 c17 x19 l19 c19 x21 x22 l22 c22 x24 l24 c24 x26 l26 c26 x27 x128 l128 c128 x129 x130 H

theorem l09_LangAlgebra_13ok (nx131 : Int → HP) (nx301 : Option Addr → Nat → Nat → Int → HP) (nx321 : Option Addr → Nat → Nat → Int → HP) (Q : QT) (E : ET) (τ : Tau) (H : Heap) (h : l09_LangAlgebra_12_M nx131 nx301 nx321 Q E τ H) : vc Pr l09_LangAlgebra_p40 τ (l09_LangAlgebra_q14 nx131 nx301 nx321 Q E) E H :=
  vSl (i := 2) h (fun x2 l2 c2 h => vSl (i := 9) h (fun x9 l9 c9 h => vSl (i := 11) h (fun x11 l11 c11 h => vSl (i := 13) h (fun x13 l13 c13 h => vSl (i := 15) h (fun x15 l15 c15 h => vSl (i := 17) h (fun x17 l17 c17 h => vSl (i := 19) h (fun x19 l19 c19 h => vI (i := 21) h (fun x21 h => vSl (i := 22) h (fun x22 l22 c22 h => vSl (i := 24) h (fun x24 l24 c24 h => vSl (i := 26) h (fun x26 l26 c26 h => vI (i := 27) h (fun x27 h => vSl (i := 128) h (fun x128 l128 c128 h => vI (i := 129) h (fun x129 h => vI (i := 130) h (fun x130 h => (conv (by kernel_rfl) h))))))))))))))))

@[reducible] noncomputable def l09_LangAlgebra_q15 (nx131 : Int → HP) (nx301 : Option Addr → Nat → Nat → Int → HP) (nx321 : Option Addr → Nat → Nat → Int → HP) (Q : QT) (E : ET) : Exit → Tau → Heap → Prop := (xthen (l09_LangAlgebra_12_M nx131 nx301 nx321 Q E) (l09_LangAlgebra_q14 nx131 nx301 nx321 Q E))

@[reducible] noncomputable def l09_LangAlgebra_p41 : Code := sA l09_LangAlgebra_p39

@[reducible] noncomputable def l09_LangAlgebra_q16 (nx131 : Int → HP) (nx301 : Option Addr → Nat → Nat → Int → HP) (nx321 : Option Addr → Nat → Nat → Int → HP) (Q : QT) (E : ET) : Exit → Tau → Heap → Prop := (xblock 7 (l09_LangAlgebra_q15 nx131 nx301 nx321 Q E))

@[reducible] noncomputable def l09_LangAlgebra_p42 : Code := sI l09_LangAlgebra_p41

@[reducible] noncomputable def l09_LangAlgebra_p43 : Code := sB l09_LangAlgebra_p42

@[reducible] noncomputable def l09_LangAlgebra_p44 : Code := sB l09_LangAlgebra_p43

def l09_LangAlgebra_14 (nx131 : Int → HP) (nx301 : Option Addr → Nat → Nat → Int → HP) (nx321 : Option Addr → Nat → Nat → Int → HP) (Q : QT) (E : ET) (x2 : OA) (l2 : Nat) (c2 : Nat) (x9 : OA) (l9 : Nat) (c9 : Nat) (x11 : OA) (l11 : Nat) (c11 : Nat) (x13 : OA) (l13 : Nat) (c13 : Nat) (x15 : OA) (l15 : Nat) (c15 : Nat) (x17 : OA) (l17 : Nat) (c17 : Nat) (x19 : OA) (l19 : Nat) (c19 : Nat) (x21 : Int) (x22 : OA) (l22 : Nat) (c22 : Nat) (x24 : OA) (l24 : Nat) (c24 : Nat) (x26 : OA) (l26 : Nat) (c26 : Nat) (x27 : Int) (x128 : OA) (l128 : Nat) (c128 : Nat) (x129 : Int) (x130 : Int) (x145 : Bool) (H : Heap) : Prop :=
 sel x145
 (nw (.cells #[(.int .i64 x27)] 3 (0, 0)) H fun i354 H355 =>
 app Pr 22 x26 l26 c26 (.slice (some ⟨i354, 0, none⟩) 1 1) H355 fun p356 l357 c358 H359 =>
 l09_LangAlgebra_12 nx131 nx301 nx321 Q E x2 l2 c2 x9 l9 c9 x11 l11 c11 x13 l13 c13 x15 l15 c15 x17 l17 c17 x19 l19 c19 x21 x22 l22 c22 x24 l24 c24 p356 l357 c358 x27 x128 l128 c128 x129 x130 H359)
 (l09_LangAlgebra_12 nx131 nx301 nx321 Q E x2 l2 c2 x9 l9 c9 x11 l11 c11 x13 l13 c13 x15 l15 c15 x17 l17 c17 x19 l19 c19 x21 x22 l22 c22 x24 l24 c24 x26 l26 c26 x27 x128 l128 c128 x129 x130 H)

def l09_LangAlgebra_14_M (nx131 : Int → HP) (nx301 : Option Addr → Nat → Nat → Int → HP) (nx321 : Option Addr → Nat → Nat → Int → HP) (Q : QT) (E : ET) (τ : Tau) (H : Heap) : Prop := mSl (τ 2) fun x2 l2 c2 => mSl (τ 9) fun x9 l9 c9 => mSl (τ 11) fun x11 l11 c11 => mSl (τ 13) fun x13 l13 c13 => mSl (τ 15) fun x15 l15 c15 => mSl (τ 17) fun x17 l17 c17 => mSl (τ 19) fun x19 l19 c19 => mI .i64 (τ 21) fun x21 => mSl (τ 22) fun x22 l22 c22 => mSl (τ 24) fun x24 l24 c24 => mSl (τ 26) fun x26 l26 c26 => mI .i64 (τ 27) fun x27 => mSl (τ 128) fun x128 l128 c128 => mI .i64 (τ 129) fun x129 => mI .i64 (τ 130) fun x130 => mB (τ 145) fun x145 => l09_LangAlgebra_14 nx131 nx301 nx321 Q E x2 l2 c2 x9 l9 c9 x11 l11 c11 x13 l13 c13 x15 l15 c15 x17 l17 c17 x19 l19 c19 x21 x22 l22 c22 x24 l24 c24 x26 l26 c26 x27 x128 l128 c128 x129 x130 x145 H

theorem l09_LangAlgebra_15ok (nx131 : Int → HP) (nx301 : Option Addr → Nat → Nat → Int → HP) (nx321 : Option Addr → Nat → Nat → Int → HP) (Q : QT) (E : ET) (τ : Tau) (H : Heap) (h : l09_LangAlgebra_14_M nx131 nx301 nx321 Q E τ H) : vc Pr l09_LangAlgebra_p44 τ (l09_LangAlgebra_q16 nx131 nx301 nx321 Q E) E H :=
  vSl (i := 2) h (fun x2 l2 c2 h => vSl (i := 9) h (fun x9 l9 c9 h => vSl (i := 11) h (fun x11 l11 c11 h => vSl (i := 13) h (fun x13 l13 c13 h => vSl (i := 15) h (fun x15 l15 c15 h => vSl (i := 17) h (fun x17 l17 c17 h => vSl (i := 19) h (fun x19 l19 c19 h => vI (i := 21) h (fun x21 h => vSl (i := 22) h (fun x22 l22 c22 h => vSl (i := 24) h (fun x24 l24 c24 h => vSl (i := 26) h (fun x26 l26 c26 h => vI (i := 27) h (fun x27 h => vSl (i := 128) h (fun x128 l128 c128 h => vI (i := 129) h (fun x129 h => vI (i := 130) h (fun x130 h => vB (i := 145) h (fun x145 h => (conv (by kernel_rfl) h)))))))))))))))))

@[reducible] noncomputable def l09_LangAlgebra_q17 (nx131 : Int → HP) (nx301 : Option Addr → Nat → Nat → Int → HP) (nx321 : Option Addr → Nat → Nat → Int → HP) (Q : QT) (E : ET) : Exit → Tau → Heap → Prop := (xthen (l09_LangAlgebra_14_M nx131 nx301 nx321 Q E) (l09_LangAlgebra_q16 nx131 nx301 nx321 Q E))

@[reducible] noncomputable def l09_LangAlgebra_p45 : Code := sA l09_LangAlgebra_p43

def l09_LangAlgebra_16 (nx131 : Int → HP) (nx301 : Option Addr → Nat → Nat → Int → HP) (nx321 : Option Addr → Nat → Nat → Int → HP) (Q : QT) (E : ET) (x2 : OA) (l2 : Nat) (c2 : Nat) (x9 : OA) (l9 : Nat) (c9 : Nat) (x11 : OA) (l11 : Nat) (c11 : Nat) (x13 : OA) (l13 : Nat) (c13 : Nat) (x15 : OA) (l15 : Nat) (c15 : Nat) (x17 : OA) (l17 : Nat) (c17 : Nat) (x19 : OA) (l19 : Nat) (c19 : Nat) (x21 : Int) (x22 : OA) (l22 : Nat) (c22 : Nat) (x24 : OA) (l24 : Nat) (c24 : Nat) (x26 : OA) (l26 : Nat) (c26 : Nat) (x27 : Int) (x29 : Int) (x128 : OA) (l128 : Nat) (c128 : Nat) (x129 : Int) (x130 : Int) (H : Heap) : Prop :=
 Does Pr 24 #[(.slice x11 l11 c11), (.slice x2 l2 c2), (.int .i64 x29)] H (fun v360 H361 =>
 ∃ (p362 : OA) (l363 c364 : Nat), v360 = (.slice p362 l363 c364) ∧ Does Pr 25 #[(.slice p362 l363 c364), (.int .i64 x27)] H361 (fun v365 H366 =>
 ∃ b367 : Bool, v365 = (.bool b367) ∧ sel b367
 (Does Pr 25 #[(.slice x26 l26 c26), (.int .i64 x27)] H366 (fun v368 H369 =>
 ∃ b370 : Bool, v368 = (.bool b370) ∧ l09_LangAlgebra_14 nx131 nx301 nx321 Q E x2 l2 c2 x9 l9 c9 x11 l11 c11 x13 l13 c13 x15 l15 c15 x17 l17 c17 x19 l19 c19 x21 x22 l22 c22 x24 l24 c24 x26 l26 c26 x27 x128 l128 c128 x129 x130 (!b370) H369) E)
 (l09_LangAlgebra_14 nx131 nx301 nx321 Q E x2 l2 c2 x9 l9 c9 x11 l11 c11 x13 l13 c13 x15 l15 c15 x17 l17 c17 x19 l19 c19 x21 x22 l22 c22 x24 l24 c24 x26 l26 c26 x27 x128 l128 c128 x129 x130 false H366)) E) E

def l09_LangAlgebra_16_M (nx131 : Int → HP) (nx301 : Option Addr → Nat → Nat → Int → HP) (nx321 : Option Addr → Nat → Nat → Int → HP) (Q : QT) (E : ET) (τ : Tau) (H : Heap) : Prop := mSl (τ 2) fun x2 l2 c2 => mSl (τ 9) fun x9 l9 c9 => mSl (τ 11) fun x11 l11 c11 => mSl (τ 13) fun x13 l13 c13 => mSl (τ 15) fun x15 l15 c15 => mSl (τ 17) fun x17 l17 c17 => mSl (τ 19) fun x19 l19 c19 => mI .i64 (τ 21) fun x21 => mSl (τ 22) fun x22 l22 c22 => mSl (τ 24) fun x24 l24 c24 => mSl (τ 26) fun x26 l26 c26 => mI .i64 (τ 27) fun x27 => mI .i64 (τ 29) fun x29 => mSl (τ 128) fun x128 l128 c128 => mI .i64 (τ 129) fun x129 => mI .i64 (τ 130) fun x130 => l09_LangAlgebra_16 nx131 nx301 nx321 Q E x2 l2 c2 x9 l9 c9 x11 l11 c11 x13 l13 c13 x15 l15 c15 x17 l17 c17 x19 l19 c19 x21 x22 l22 c22 x24 l24 c24 x26 l26 c26 x27 x29 x128 l128 c128 x129 x130 H

theorem l09_LangAlgebra_17ok (nx131 : Int → HP) (nx301 : Option Addr → Nat → Nat → Int → HP) (nx321 : Option Addr → Nat → Nat → Int → HP) (Q : QT) (E : ET) (τ : Tau) (H : Heap) (h : l09_LangAlgebra_16_M nx131 nx301 nx321 Q E τ H) : vc Pr l09_LangAlgebra_p45 τ (l09_LangAlgebra_q17 nx131 nx301 nx321 Q E) E H :=
  vSl (i := 2) h (fun x2 l2 c2 h => vSl (i := 9) h (fun x9 l9 c9 h => vSl (i := 11) h (fun x11 l11 c11 h => vSl (i := 13) h (fun x13 l13 c13 h => vSl (i := 15) h (fun x15 l15 c15 h => vSl (i := 17) h (fun x17 l17 c17 h => vSl (i := 19) h (fun x19 l19 c19 h => vI (i := 21) h (fun x21 h => vSl (i := 22) h (fun x22 l22 c22 h => vSl (i := 24) h (fun x24 l24 c24 h => vSl (i := 26) h (fun x26 l26 c26 h => vI (i := 27) h (fun x27 h => vI (i := 29) h (fun x29 h => vSl (i := 128) h (fun x128 l128 c128 h => vI (i := 129) h (fun x129 h => vI (i := 130) h (fun x130 h => (conv (by kernel_rfl) h)))))))))))))))))

theorem l09_LangAlgebra_18ok (nx131 : Int → HP) (nx301 : Option Addr → Nat → Nat → Int → HP) (nx321 : Option Addr → Nat → Nat → Int → HP) (Q : QT) (E : ET) (τ : Tau) (H : Heap) (h : l09_LangAlgebra_16_M nx131 nx301 nx321 Q E τ H) : vc Pr l09_LangAlgebra_p43 τ (l09_LangAlgebra_q16 nx131 nx301 nx321 Q E) E H :=
  (conv (B := vc Pr l09_LangAlgebra_p43 τ (l09_LangAlgebra_q16 nx131 nx301 nx321 Q E) E H) (by kernel_rfl) (vc_seq (K := (l09_LangAlgebra_14_M nx131 nx301 nx321 Q E)) (l09_LangAlgebra_17ok nx131 nx301 nx321 Q E τ H h) (l09_LangAlgebra_15ok nx131 nx301 nx321 Q E)))

@[reducible] noncomputable def l09_LangAlgebra_q18 (nx131 : Int → HP) (nx301 : Option Addr → Nat → Nat → Int → HP) (nx321 : Option Addr → Nat → Nat → Int → HP) (Q : QT) (E : ET) : Exit → Tau → Heap → Prop := (xthen (l09_LangAlgebra_16_M nx131 nx301 nx321 Q E) (l09_LangAlgebra_q16 nx131 nx301 nx321 Q E))

@[reducible] noncomputable def l09_LangAlgebra_p46 : Code := sA l09_LangAlgebra_p42

def l09_LangAlgebra_19 (nx131 : Int → HP) (nx301 : Option Addr → Nat → Nat → Int → HP) (nx321 : Option Addr → Nat → Nat → Int → HP) (Q : QT) (E : ET) (x2 : OA) (l2 : Nat) (c2 : Nat) (x9 : OA) (l9 : Nat) (c9 : Nat) (x11 : OA) (l11 : Nat) (c11 : Nat) (x13 : OA) (l13 : Nat) (c13 : Nat) (x15 : OA) (l15 : Nat) (c15 : Nat) (x17 : OA) (l17 : Nat) (c17 : Nat) (x19 : OA) (l19 : Nat) (c19 : Nat) (x21 : Int) (x22 : OA) (l22 : Nat) (c22 : Nat) (x24 : OA) (l24 : Nat) (c24 : Nat) (x26 : OA) (l26 : Nat) (c26 : Nat) (x27 : Int) (x128 : OA) (l128 : Nat) (c128 : Nat) (x129 : Int) (x130 : Int) (H : Heap) : Prop :=
 (0 ≤ (x130 : Int) ∧ (x130 : Int) < ((l128 : Nat) : Int)) ∧ ptr x128 fun q371 =>
 ldI .i64 (Addr.add q371 ((x130 : Int).toNat * 1)) H fun n372 =>
 l09_LangAlgebra_16 nx131 nx301 nx321 Q E x2 l2 c2 x9 l9 c9 x11 l11 c11 x13 l13 c13 x15 l15 c15 x17 l17 c17 x19 l19 c19 x21 x22 l22 c22 x24 l24 c24 x26 l26 c26 x27 n372 x128 l128 c128 x129 x130 H

def l09_LangAlgebra_19_M (nx131 : Int → HP) (nx301 : Option Addr → Nat → Nat → Int → HP) (nx321 : Option Addr → Nat → Nat → Int → HP) (Q : QT) (E : ET) (τ : Tau) (H : Heap) : Prop := mSl (τ 2) fun x2 l2 c2 => mSl (τ 9) fun x9 l9 c9 => mSl (τ 11) fun x11 l11 c11 => mSl (τ 13) fun x13 l13 c13 => mSl (τ 15) fun x15 l15 c15 => mSl (τ 17) fun x17 l17 c17 => mSl (τ 19) fun x19 l19 c19 => mI .i64 (τ 21) fun x21 => mSl (τ 22) fun x22 l22 c22 => mSl (τ 24) fun x24 l24 c24 => mSl (τ 26) fun x26 l26 c26 => mI .i64 (τ 27) fun x27 => mSl (τ 128) fun x128 l128 c128 => mI .i64 (τ 129) fun x129 => mI .i64 (τ 130) fun x130 => l09_LangAlgebra_19 nx131 nx301 nx321 Q E x2 l2 c2 x9 l9 c9 x11 l11 c11 x13 l13 c13 x15 l15 c15 x17 l17 c17 x19 l19 c19 x21 x22 l22 c22 x24 l24 c24 x26 l26 c26 x27 x128 l128 c128 x129 x130 H

theorem l09_LangAlgebra_20ok (nx131 : Int → HP) (nx301 : Option Addr → Nat → Nat → Int → HP) (nx321 : Option Addr → Nat → Nat → Int → HP) (Q : QT) (E : ET) (τ : Tau) (H : Heap) (h : l09_LangAlgebra_19_M nx131 nx301 nx321 Q E τ H) : vc Pr l09_LangAlgebra_p46 τ (l09_LangAlgebra_q18 nx131 nx301 nx321 Q E) E H :=
  vSl (i := 2) h (fun x2 l2 c2 h => vSl (i := 9) h (fun x9 l9 c9 h => vSl (i := 11) h (fun x11 l11 c11 h => vSl (i := 13) h (fun x13 l13 c13 h => vSl (i := 15) h (fun x15 l15 c15 h => vSl (i := 17) h (fun x17 l17 c17 h => vSl (i := 19) h (fun x19 l19 c19 h => vI (i := 21) h (fun x21 h => vSl (i := 22) h (fun x22 l22 c22 h => vSl (i := 24) h (fun x24 l24 c24 h => vSl (i := 26) h (fun x26 l26 c26 h => vI (i := 27) h (fun x27 h => vSl (i := 128) h (fun x128 l128 c128 h => vI (i := 129) h (fun x129 h => vI (i := 130) h (fun x130 h => (conv (by kernel_rfl) h))))))))))))))))

theorem l09_LangAlgebra_21ok (nx131 : Int → HP) (nx301 : Option Addr → Nat → Nat → Int → HP) (nx321 : Option Addr → Nat → Nat → Int → HP) (Q : QT) (E : ET) (τ : Tau) (H : Heap) (h : l09_LangAlgebra_19_M nx131 nx301 nx321 Q E τ H) : vc Pr l09_LangAlgebra_p42 τ (l09_LangAlgebra_q16 nx131 nx301 nx321 Q E) E H :=
  (conv (B := vc Pr l09_LangAlgebra_p42 τ (l09_LangAlgebra_q16 nx131 nx301 nx321 Q E) E H) (by kernel_rfl) (vc_seq (K := (l09_LangAlgebra_16_M nx131 nx301 nx321 Q E)) (l09_LangAlgebra_20ok nx131 nx301 nx321 Q E τ H h) (l09_LangAlgebra_18ok nx131 nx301 nx321 Q E)))

theorem l09_LangAlgebra_22ok (nx131 : Int → HP) (nx301 : Option Addr → Nat → Nat → Int → HP) (nx321 : Option Addr → Nat → Nat → Int → HP) (Q : QT) (E : ET) (τ : Tau) (H : Heap) (h : l09_LangAlgebra_19_M nx131 nx301 nx321 Q E τ H) : vc Pr l09_LangAlgebra_p41 τ (l09_LangAlgebra_q15 nx131 nx301 nx321 Q E) E H :=
  (conv (B := vc Pr l09_LangAlgebra_p41 τ (l09_LangAlgebra_q15 nx131 nx301 nx321 Q E) E H) (by kernel_rfl) (l09_LangAlgebra_21ok nx131 nx301 nx321 Q E τ H h))

theorem l09_LangAlgebra_23ok (nx131 : Int → HP) (nx301 : Option Addr → Nat → Nat → Int → HP) (nx321 : Option Addr → Nat → Nat → Int → HP) (Q : QT) (E : ET) (τ : Tau) (H : Heap) (h : l09_LangAlgebra_19_M nx131 nx301 nx321 Q E τ H) : vc Pr l09_LangAlgebra_p39 τ (l09_LangAlgebra_q14 nx131 nx301 nx321 Q E) E H :=
  (conv (B := vc Pr l09_LangAlgebra_p39 τ (l09_LangAlgebra_q14 nx131 nx301 nx321 Q E) E H) (by kernel_rfl) (vc_seq (K := (l09_LangAlgebra_12_M nx131 nx301 nx321 Q E)) (l09_LangAlgebra_22ok nx131 nx301 nx321 Q E τ H h) (l09_LangAlgebra_13ok nx131 nx301 nx321 Q E)))

@[reducible] noncomputable def l09_LangAlgebra_q19 (nx131 : Int → HP) (nx301 : Option Addr → Nat → Nat → Int → HP) (nx321 : Option Addr → Nat → Nat → Int → HP) (Q : QT) (E : ET) : Exit → Tau → Heap → Prop := (xthen (l09_LangAlgebra_19_M nx131 nx301 nx321 Q E) (l09_LangAlgebra_q14 nx131 nx301 nx321 Q E))

@[reducible] noncomputable def l09_LangAlgebra_p47 : Code := sA l09_LangAlgebra_p38

def l09_LangAlgebra_24 (nx131 : Int → HP) (nx301 : Option Addr → Nat → Nat → Int → HP) (nx321 : Option Addr → Nat → Nat → Int → HP) (Q : QT) (E : ET) (x2 : OA) (l2 : Nat) (c2 : Nat) (x9 : OA) (l9 : Nat) (c9 : Nat) (x11 : OA) (l11 : Nat) (c11 : Nat) (x13 : OA) (l13 : Nat) (c13 : Nat) (x15 : OA) (l15 : Nat) (c15 : Nat) (x17 : OA) (l17 : Nat) (c17 : Nat) (x19 : OA) (l19 : Nat) (c19 : Nat) (x21 : Int) (x22 : OA) (l22 : Nat) (c22 : Nat) (x24 : OA) (l24 : Nat) (c24 : Nat) (x26 : OA) (l26 : Nat) (c26 : Nat) (x27 : Int) (x128 : OA) (l128 : Nat) (c128 : Nat) (x129 : Int) (x130 : Int) (x131 : Bool) (H : Heap) : Prop :=
 sel x131
 (l09_LangAlgebra_19 nx131 nx301 nx321 Q E x2 l2 c2 x9 l9 c9 x11 l11 c11 x13 l13 c13 x15 l15 c15 x17 l17 c17 x19 l19 c19 x21 x22 l22 c22 x24 l24 c24 x26 l26 c26 x27 x128 l128 c128 x129 x130 H)
 (l09_LangAlgebra_10 nx131 nx301 Q E x2 l2 c2 x9 l9 c9 x11 l11 c11 x13 l13 c13 x15 l15 c15 x17 l17 c17 x19 l19 c19 x21 x22 l22 c22 x24 l24 c24 x26 l26 c26 x27 H)

def l09_LangAlgebra_24_M (nx131 : Int → HP) (nx301 : Option Addr → Nat → Nat → Int → HP) (nx321 : Option Addr → Nat → Nat → Int → HP) (Q : QT) (E : ET) (τ : Tau) (H : Heap) : Prop := mSl (τ 2) fun x2 l2 c2 => mSl (τ 9) fun x9 l9 c9 => mSl (τ 11) fun x11 l11 c11 => mSl (τ 13) fun x13 l13 c13 => mSl (τ 15) fun x15 l15 c15 => mSl (τ 17) fun x17 l17 c17 => mSl (τ 19) fun x19 l19 c19 => mI .i64 (τ 21) fun x21 => mSl (τ 22) fun x22 l22 c22 => mSl (τ 24) fun x24 l24 c24 => mSl (τ 26) fun x26 l26 c26 => mI .i64 (τ 27) fun x27 => mSl (τ 128) fun x128 l128 c128 => mI .i64 (τ 129) fun x129 => mI .i64 (τ 130) fun x130 => mB (τ 131) fun x131 => l09_LangAlgebra_24 nx131 nx301 nx321 Q E x2 l2 c2 x9 l9 c9 x11 l11 c11 x13 l13 c13 x15 l15 c15 x17 l17 c17 x19 l19 c19 x21 x22 l22 c22 x24 l24 c24 x26 l26 c26 x27 x128 l128 c128 x129 x130 x131 H

theorem l09_LangAlgebra_25ok (nx131 : Int → HP) (nx301 : Option Addr → Nat → Nat → Int → HP) (nx321 : Option Addr → Nat → Nat → Int → HP) (Q : QT) (E : ET) (τ : Tau) (H : Heap) (h : l09_LangAlgebra_24_M nx131 nx301 nx321 Q E τ H) : vc Pr l09_LangAlgebra_p47 τ (l09_LangAlgebra_q19 nx131 nx301 nx321 Q E) E H :=
  vSl (i := 2) h (fun x2 l2 c2 h => vSl (i := 9) h (fun x9 l9 c9 h => vSl (i := 11) h (fun x11 l11 c11 h => vSl (i := 13) h (fun x13 l13 c13 h => vSl (i := 15) h (fun x15 l15 c15 h => vSl (i := 17) h (fun x17 l17 c17 h => vSl (i := 19) h (fun x19 l19 c19 h => vI (i := 21) h (fun x21 h => vSl (i := 22) h (fun x22 l22 c22 h => vSl (i := 24) h (fun x24 l24 c24 h => vSl (i := 26) h (fun x26 l26 c26 h => vI (i := 27) h (fun x27 h => vSl (i := 128) h (fun x128 l128 c128 h => vI (i := 129) h (fun x129 h => vI (i := 130) h (fun x130 h => vB (i := 131) h (fun x131 h => (conv (by kernel_rfl) h)))))))))))))))))

theorem l09_LangAlgebra_26ok (nx131 : Int → HP) (nx301 : Option Addr → Nat → Nat → Int → HP) (nx321 : Option Addr → Nat → Nat → Int → HP) (Q : QT) (E : ET) (τ : Tau) (H : Heap) (h : l09_LangAlgebra_24_M nx131 nx301 nx321 Q E τ H) : vc Pr l09_LangAlgebra_p38 τ (l09_LangAlgebra_q14 nx131 nx301 nx321 Q E) E H :=
  (conv (B := vc Pr l09_LangAlgebra_p38 τ (l09_LangAlgebra_q14 nx131 nx301 nx321 Q E) E H) (by kernel_rfl) (vc_seq (K := (l09_LangAlgebra_19_M nx131 nx301 nx321 Q E)) (l09_LangAlgebra_25ok nx131 nx301 nx321 Q E τ H h) (l09_LangAlgebra_23ok nx131 nx301 nx321 Q E)))

@[reducible] noncomputable def l09_LangAlgebra_q20 (nx131 : Int → HP) (nx301 : Option Addr → Nat → Nat → Int → HP) (nx321 : Option Addr → Nat → Nat → Int → HP) (Q : QT) (E : ET) : Exit → Tau → Heap → Prop := (xthen (l09_LangAlgebra_24_M nx131 nx301 nx321 Q E) (l09_LangAlgebra_q14 nx131 nx301 nx321 Q E))

@[reducible] noncomputable def l09_LangAlgebra_p48 : Code := sA l09_LangAlgebra_p37

def l09_LangAlgebra_27 (nx131 : Int → HP) (nx301 : Option Addr → Nat → Nat → Int → HP) (nx321 : Option Addr → Nat → Nat → Int → HP) (Q : QT) (E : ET) (x2 : OA) (l2 : Nat) (c2 : Nat) (x9 : OA) (l9 : Nat) (c9 : Nat) (x11 : OA) (l11 : Nat) (c11 : Nat) (x13 : OA) (l13 : Nat) (c13 : Nat) (x15 : OA) (l15 : Nat) (c15 : Nat) (x17 : OA) (l17 : Nat) (c17 : Nat) (x19 : OA) (l19 : Nat) (c19 : Nat) (x21 : Int) (x22 : OA) (l22 : Nat) (c22 : Nat) (x24 : OA) (l24 : Nat) (c24 : Nat) (x26 : OA) (l26 : Nat) (c26 : Nat) (x27 : Int) (x128 : OA) (l128 : Nat) (c128 : Nat) (x129 : Int) (x130 : Int) (H : Heap) : Prop :=
 l09_LangAlgebra_24 nx131 nx301 nx321 Q E x2 l2 c2 x9 l9 c9 x11 l11 c11 x13 l13 c13 x15 l15 c15 x17 l17 c17 x19 l19 c19 x21 x22 l22 c22 x24 l24 c24 x26 l26 c26 x27 x128 l128 c128 x129 x130 (decide ((x130 : Int) < x129)) H

def l09_LangAlgebra_27_M (nx131 : Int → HP) (nx301 : Option Addr → Nat → Nat → Int → HP) (nx321 : Option Addr → Nat → Nat → Int → HP) (Q : QT) (E : ET) (τ : Tau) (H : Heap) : Prop := mSl (τ 2) fun x2 l2 c2 => mSl (τ 9) fun x9 l9 c9 => mSl (τ 11) fun x11 l11 c11 => mSl (τ 13) fun x13 l13 c13 => mSl (τ 15) fun x15 l15 c15 => mSl (τ 17) fun x17 l17 c17 => mSl (τ 19) fun x19 l19 c19 => mI .i64 (τ 21) fun x21 => mSl (τ 22) fun x22 l22 c22 => mSl (τ 24) fun x24 l24 c24 => mSl (τ 26) fun x26 l26 c26 => mI .i64 (τ 27) fun x27 => mSl (τ 128) fun x128 l128 c128 => mI .i64 (τ 129) fun x129 => mI .i64 (τ 130) fun x130 => l09_LangAlgebra_27 nx131 nx301 nx321 Q E x2 l2 c2 x9 l9 c9 x11 l11 c11 x13 l13 c13 x15 l15 c15 x17 l17 c17 x19 l19 c19 x21 x22 l22 c22 x24 l24 c24 x26 l26 c26 x27 x128 l128 c128 x129 x130 H

theorem l09_LangAlgebra_28ok (nx131 : Int → HP) (nx301 : Option Addr → Nat → Nat → Int → HP) (nx321 : Option Addr → Nat → Nat → Int → HP) (Q : QT) (E : ET) (τ : Tau) (H : Heap) (h : l09_LangAlgebra_27_M nx131 nx301 nx321 Q E τ H) : vc Pr l09_LangAlgebra_p48 τ (l09_LangAlgebra_q20 nx131 nx301 nx321 Q E) E H :=
  vSl (i := 2) h (fun x2 l2 c2 h => vSl (i := 9) h (fun x9 l9 c9 h => vSl (i := 11) h (fun x11 l11 c11 h => vSl (i := 13) h (fun x13 l13 c13 h => vSl (i := 15) h (fun x15 l15 c15 h => vSl (i := 17) h (fun x17 l17 c17 h => vSl (i := 19) h (fun x19 l19 c19 h => vI (i := 21) h (fun x21 h => vSl (i := 22) h (fun x22 l22 c22 h => vSl (i := 24) h (fun x24 l24 c24 h => vSl (i := 26) h (fun x26 l26 c26 h => vI (i := 27) h (fun x27 h => vSl (i := 128) h (fun x128 l128 c128 h => vI (i := 129) h (fun x129 h => vI (i := 130) h (fun x130 h => (conv (by kernel_rfl) h))))))))))))))))

theorem l09_LangAlgebra_29ok (nx131 : Int → HP) (nx301 : Option Addr → Nat → Nat → Int → HP) (nx321 : Option Addr → Nat → Nat → Int → HP) (Q : QT) (E : ET) (τ : Tau) (H : Heap) (h : l09_LangAlgebra_27_M nx131 nx301 nx321 Q E τ H) : vc Pr l09_LangAlgebra_p37 τ (l09_LangAlgebra_q14 nx131 nx301 nx321 Q E) E H :=
  (conv (B := vc Pr l09_LangAlgebra_p37 τ (l09_LangAlgebra_q14 nx131 nx301 nx321 Q E) E H) (by kernel_rfl) (vc_seq (K := (l09_LangAlgebra_24_M nx131 nx301 nx321 Q E)) (l09_LangAlgebra_28ok nx131 nx301 nx321 Q E τ H h) (l09_LangAlgebra_26ok nx131 nx301 nx321 Q E)))

def l09_LangAlgebra_30 (nx131 : Int → HP) (nx301 : Option Addr → Nat → Nat → Int → HP) (Q : QT) (E : ET) (x2 : OA) (l2 : Nat) (c2 : Nat) (x9 : OA) (l9 : Nat) (c9 : Nat) (x11 : OA) (l11 : Nat) (c11 : Nat) (x13 : OA) (l13 : Nat) (c13 : Nat) (x15 : OA) (l15 : Nat) (c15 : Nat) (x17 : OA) (l17 : Nat) (c17 : Nat) (x19 : OA) (l19 : Nat) (c19 : Nat) (x21 : Int) (x22 : OA) (l22 : Nat) (c22 : Nat) (x24 : OA) (l24 : Nat) (c24 : Nat) (x27 : Int) (x128 : OA) (l128 : Nat) (c128 : Nat) (x129 : Int) (x26 : OA) (l26 : Nat) (c26 : Nat) (x130 : Int) (H : Heap) : Prop :=
 ∃ (I : Option Addr → Nat → Nat → Int → HP) (μ : Option Addr → Nat → Nat → Int → Heap → Nat), I x26 l26 c26 x130 H ∧ ∀ (x26 : OA) (l26 : Nat) (c26 : Nat) (x130 : Int) (H : Heap), I x26 l26 c26 x130 H →
 l09_LangAlgebra_27 nx131 nx301 (fun x26' l26' c26' x130' H1 => I x26' l26' c26' x130' H1 ∧ μ x26' l26' c26' x130' H1 < μ x26 l26 c26 x130 H) Q E x2 l2 c2 x9 l9 c9 x11 l11 c11 x13 l13 c13 x15 l15 c15 x17 l17 c17 x19 l19 c19 x21 x22 l22 c22 x24 l24 c24 x26 l26 c26 x27 x128 l128 c128 x129 x130 H

def l09_LangAlgebra_30_M (nx131 : Int → HP) (nx301 : Option Addr → Nat → Nat → Int → HP) (Q : QT) (E : ET) (τ : Tau) (H : Heap) : Prop := mSl (τ 2) fun x2 l2 c2 => mSl (τ 9) fun x9 l9 c9 => mSl (τ 11) fun x11 l11 c11 => mSl (τ 13) fun x13 l13 c13 => mSl (τ 15) fun x15 l15 c15 => mSl (τ 17) fun x17 l17 c17 => mSl (τ 19) fun x19 l19 c19 => mI .i64 (τ 21) fun x21 => mSl (τ 22) fun x22 l22 c22 => mSl (τ 24) fun x24 l24 c24 => mI .i64 (τ 27) fun x27 => mSl (τ 128) fun x128 l128 c128 => mI .i64 (τ 129) fun x129 => mSl (τ 26) fun x26 l26 c26 => mI .i64 (τ 130) fun x130 => l09_LangAlgebra_30 nx131 nx301 Q E x2 l2 c2 x9 l9 c9 x11 l11 c11 x13 l13 c13 x15 l15 c15 x17 l17 c17 x19 l19 c19 x21 x22 l22 c22 x24 l24 c24 x27 x128 l128 c128 x129 x26 l26 c26 x130 H

theorem l09_LangAlgebra_31ok (nx131 : Int → HP) (nx301 : Option Addr → Nat → Nat → Int → HP) (Q : QT) (E : ET) (τ : Tau) (H : Heap) (h : l09_LangAlgebra_30_M nx131 nx301 Q E τ H) : vc Pr l09_LangAlgebra_p36 τ (l09_LangAlgebra_q13 nx131 nx301 Q E) E H :=
  vSl (i := 2) h (fun x2 l2 c2 h => vSl (i := 9) h (fun x9 l9 c9 h => vSl (i := 11) h (fun x11 l11 c11 h => vSl (i := 13) h (fun x13 l13 c13 h => vSl (i := 15) h (fun x15 l15 c15 h => vSl (i := 17) h (fun x17 l17 c17 h => vSl (i := 19) h (fun x19 l19 c19 h => vI (i := 21) h (fun x21 h => vSl (i := 22) h (fun x22 l22 c22 h => vSl (i := 24) h (fun x24 l24 c24 h => vI (i := 27) h (fun x27 h => vSl (i := 128) h (fun x128 l128 c128 h => vI (i := 129) h (fun x129 h => vSl (i := 26) h (fun x26 l26 c26 h => vI (i := 130) h (fun x130 h => match h with | ⟨I, μ, h0, hr⟩ => (conv (B := vc Pr l09_LangAlgebra_p36 (Tau.upd (Tau.upd (Tau.upd (Tau.upd (Tau.upd (Tau.upd (Tau.upd (Tau.upd (Tau.upd (Tau.upd (Tau.upd (Tau.upd (Tau.upd (Tau.upd (Tau.upd τ 2 (.slice x2 l2 c2)) 9 (.slice x9 l9 c9)) 11 (.slice x11 l11 c11)) 13 (.slice x13 l13 c13)) 15 (.slice x15 l15 c15)) 17 (.slice x17 l17 c17)) 19 (.slice x19 l19 c19)) 21 (.int .i64 x21)) 22 (.slice x22 l22 c22)) 24 (.slice x24 l24 c24)) 27 (.int .i64 x27)) 128 (.slice x128 l128 c128)) 129 (.int .i64 x129)) 26 (.slice x26 l26 c26)) 130 (.int .i64 x130)) (l09_LangAlgebra_q13 nx131 nx301 Q E) E H) (by kernel_rfl) (vc_loop (c := sI l09_LangAlgebra_p36) (τ := (Tau.upd (Tau.upd (Tau.upd (Tau.upd (Tau.upd (Tau.upd (Tau.upd (Tau.upd (Tau.upd (Tau.upd (Tau.upd (Tau.upd (Tau.upd (Tau.upd (Tau.upd τ 2 (.slice x2 l2 c2)) 9 (.slice x9 l9 c9)) 11 (.slice x11 l11 c11)) 13 (.slice x13 l13 c13)) 15 (.slice x15 l15 c15)) 17 (.slice x17 l17 c17)) 19 (.slice x19 l19 c19)) 21 (.int .i64 x21)) 22 (.slice x22 l22 c22)) 24 (.slice x24 l24 c24)) 27 (.int .i64 x27)) 128 (.slice x128 l128 c128)) 129 (.int .i64 x129)) 26 (.slice x26 l26 c26)) 130 (.int .i64 x130))) [2, 9, 11, 13, 15, 17, 19, 21, 22, 24, 27, 128, 129] (fun τ H => mSl (τ 26) fun x26' l26' c26' => mI .i64 (τ 130) fun x130' => I x26' l26' c26' x130' H) (fun τ H => μ (gL1 (τ 26)) (gL2 (τ 26)) (gL3 (τ 26)) (gI (τ 130)) H) (by kernel_rfl) h0 (fun τ1 H1 hf hI => fix_elim (τ := τ1) (i := 2) (v := (.slice x2 l2 c2)) (G := fun τ => vc Pr (sI l09_LangAlgebra_p36) τ (xthen (fun τ2 H2 => (mSl (τ2 26) fun x26' l26' c26' => mI .i64 (τ2 130) fun x130' => I x26' l26' c26' x130' H2) ∧ μ (gL1 (τ2 26)) (gL2 (τ2 26)) (gL3 (τ2 26)) (gI (τ2 130)) H2 < μ (gL1 (τ 26)) (gL2 (τ 26)) (gL3 (τ 26)) (gI (τ 130)) H1) (l09_LangAlgebra_q13 nx131 nx301 Q E)) E H1) (hf 2 (by simp)) (fix_elim (τ := (Tau.upd τ1 2 (.slice x2 l2 c2))) (i := 9) (v := (.slice x9 l9 c9)) (G := fun τ => vc Pr (sI l09_LangAlgebra_p36) τ (xthen (fun τ2 H2 => (mSl (τ2 26) fun x26' l26' c26' => mI .i64 (τ2 130) fun x130' => I x26' l26' c26' x130' H2) ∧ μ (gL1 (τ2 26)) (gL2 (τ2 26)) (gL3 (τ2 26)) (gI (τ2 130)) H2 < μ (gL1 (τ 26)) (gL2 (τ 26)) (gL3 (τ 26)) (gI (τ 130)) H1) (l09_LangAlgebra_q13 nx131 nx301 Q E)) E H1) (hf 9 (by simp)) (fix_elim (τ := (Tau.upd (Tau.upd τ1 2 (.slice x2 l2 c2)) 9 (.slice x9 l9 c9))) (i := 11) (v := (.slice x11 l11 c11)) (G := fun τ => vc Pr (sI l09_LangAlgebra_p36) τ (xthen (fun τ2 H2 => (mSl (τ2 26) fun x26' l26' c26' => mI .i64 (τ2 130) fun x130' => I x26' l26' c26' x130' H2) ∧ μ (gL1 (τ2 26)) (gL2 (τ2 26)) (gL3 (τ2 26)) (gI (τ2 130)) H2 < μ (gL1 (τ 26)) (gL2 (τ 26)) (gL3 (τ 26)) (gI (τ 130)) H1) (l09_LangAlgebra_q13 nx131 nx301 Q E)) E H1) (hf 11 (by simp)) (fix_elim (τ := (Tau.upd (Tau.upd (Tau.upd τ1 2 (.slice x2 l2 c2)) 9 (.slice x9 l9 c9)) 11 (.slice x11 l11 c11))) (i := 13) (v := (.slice x13 l13 c13)) (G := fun τ => vc Pr (sI l09_LangAlgebra_p36) τ (xthen (fun τ2 H2 => (mSl (τ2 26) fun x26' l26' c26' => mI .i64 (τ2 130) fun x130' => I x26' l26' c26' x130' H2) ∧ μ (gL1 (τ2 26)) (gL2 (τ2 26)) (gL3 (τ2 26)) (gI (τ2 130)) H2 < μ (gL1 (τ 26)) (gL2 (τ 26)) (gL3 (τ 26)) (gI (τ 130)) H1) (l09_LangAlgebra_q13 nx131 nx301 Q E)) E H1) (hf 13 (by simp)) (fix_elim (τ := (Tau.upd (Tau.upd (Tau.upd (Tau.upd τ1 2 (.slice x2 l2 c2)) 9 (.slice x9 l9 c9)) 11 (.slice x11 l11 c11)) 13 (.slice x13 l13 c13))) (i := 15) (v := (.slice x15 l15 c15)) (G := fun τ => vc Pr (sI l09_LangAlgebra_p36) τ (xthen (fun τ2 H2 => (mSl (τ2 26) fun x26' l26' c26' => mI .i64 (τ2 130) fun x130' => I x26' l26' c26' x130' H2) ∧ μ (gL1 (τ2 26)) (gL2 (τ2 26)) (gL3 (τ2 26)) (gI (τ2 130)) H2 < μ (gL1 (τ 26)) (gL2 (τ 26)) (gL3 (τ 26)) (gI (τ 130)) H1) (l09_LangAlgebra_q13 nx131 nx301 Q E)) E H1) (hf 15 (by simp)) (fix_elim (τ := (Tau.upd (Tau.upd (Tau.upd (Tau.upd (Tau.upd τ1 2 (.slice x2 l2 c2)) 9 (.slice x9 l9 c9)) 11 (.slice x11 l11 c11)) 13 (.slice x13 l13 c13)) 15 (.slice x15 l15 c15))) (i := 17) (v := (.slice x17 l17 c17)) (G := fun τ => vc Pr (sI l09_LangAlgebra_p36) τ (xthen (fun τ2 H2 => (mSl (τ2 26) fun x26' l26' c26' => mI .i64 (τ2 130) fun x130' => I x26' l26' c26' x130' H2) ∧ μ (gL1 (τ2 26)) (gL2 (τ2 26)) (gL3 (τ2 26)) (gI (τ2 130)) H2 < μ (gL1 (τ 26)) (gL2 (τ 26)) (gL3 (τ 26)) (gI (τ 130)) H1) (l09_LangAlgebra_q13 nx131 nx301 Q E)) E H1) (hf 17 (by simp)) (fix_elim (τ := (Tau.upd (Tau.upd (Tau.upd (Tau.upd (Tau.upd (Tau.upd τ1 2 (.slice x2 l2 c2)) 9 (.slice x9 l9 c9)) 11 (.slice x11 l11 c11)) 13 (.slice x13 l13 c13)) 15 (.slice x15 l15 c15)) 17 (.slice x17 l17 c17))) (i := 19) (v := (.slice x19 l19 c19)) (G := fun τ => vc Pr (sI l09_LangAlgebra_p36) τ (xthen (fun τ2 H2 => (mSl (τ2 26) fun x26' l26' c26' => mI .i64 (τ2 130) fun x130' => I x26' l26' c26' x130' H2) ∧ μ (gL1 (τ2 26)) (gL2 (τ2 26)) (gL3 (τ2 26)) (gI (τ2 130)) H2 < μ (gL1 (τ 26)) (gL2 (τ 26)) (gL3 (τ 26)) (gI (τ 130)) H1) (l09_LangAlgebra_q13 nx131 nx301 Q E)) E H1) (hf 19 (by simp)) (fix_elim (τ := (Tau.upd (Tau.upd (Tau.upd (Tau.upd (Tau.upd (Tau.upd (Tau.upd τ1 2 (.slice x2 l2 c2)) 9 (.slice x9 l9 c9)) 11 (.slice x11 l11 c11)) 13 (.slice x13 l13 c13)) 15 (.slice x15 l15 c15)) 17 (.slice x17 l17 c17)) 19 (.slice x19 l19 c19))) (i := 21) (v := (.int .i64 x21)) (G := fun τ => vc Pr (sI l09_LangAlgebra_p36) τ (xthen (fun τ2 H2 => (mSl (τ2 26) fun x26' l26' c26' => mI .i64 (τ2 130) fun x130' => I x26' l26' c26' x130' H2) ∧ μ (gL1 (τ2 26)) (gL2 (τ2 26)) (gL3 (τ2 26)) (gI (τ2 130)) H2 < μ (gL1 (τ 26)) (gL2 (τ 26)) (gL3 (τ 26)) (gI (τ 130)) H1) (l09_LangAlgebra_q13 nx131 nx301 Q E)) E H1) (hf 21 (by simp)) (fix_elim (τ := (Tau.upd (Tau.upd (Tau.upd (Tau.upd (Tau.upd (Tau.upd (Tau.upd (Tau.upd τ1 2 (.slice x2 l2 c2)) 9 (.slice x9 l9 c9)) 11 (.slice x11 l11 c11)) 13 (.slice x13 l13 c13)) 15 (.slice x15 l15 c15)) 17 (.slice x17 l17 c17)) 19 (.slice x19 l19 c19)) 21 (.int .i64 x21))) (i := 22) (v := (.slice x22 l22 c22)) (G := fun τ => vc Pr (sI l09_LangAlgebra_p36) τ (xthen (fun τ2 H2 => (mSl (τ2 26) fun x26' l26' c26' => mI .i64 (τ2 130) fun x130' => I x26' l26' c26' x130' H2) ∧ μ (gL1 (τ2 26)) (gL2 (τ2 26)) (gL3 (τ2 26)) (gI (τ2 130)) H2 < μ (gL1 (τ 26)) (gL2 (τ 26)) (gL3 (τ 26)) (gI (τ 130)) H1) (l09_LangAlgebra_q13 nx131 nx301 Q E)) E H1) (hf 22 (by simp)) (fix_elim (τ := (Tau.upd (Tau.upd (Tau.upd (Tau.upd (Tau.upd (Tau.upd (Tau.upd (Tau.upd (Tau.upd τ1 2 (.slice x2 l2 c2)) 9 (.slice x9 l9 c9)) 11 (.slice x11 l11 c11)) 13 (.slice x13 l13 c13)) 15 (.slice x15 l15 c15)) 17 (.slice x17 l17 c17)) 19 (.slice x19 l19 c19)) 21 (.int .i64 x21)) 22 (.slice x22 l22 c22))) (i := 24) (v := (.slice x24 l24 c24)) (G := fun τ => vc Pr (sI l09_LangAlgebra_p36) τ (xthen (fun τ2 H2 => (mSl (τ2 26) fun x26' l26' c26' => mI .i64 (τ2 130) fun x130' => I x26' l26' c26' x130' H2) ∧ μ (gL1 (τ2 26)) (gL2 (τ2 26)) (gL3 (τ2 26)) (gI (τ2 130)) H2 < μ (gL1 (τ 26)) (gL2 (τ 26)) (gL3 (τ 26)) (gI (τ 130)) H1) (l09_LangAlgebra_q13 nx131 nx301 Q E)) E H1) (hf 24 (by simp)) (fix_elim (τ := (Tau.upd (Tau.upd (Tau.upd (Tau.upd (Tau.upd (Tau.upd (Tau.upd (Tau.upd (Tau.upd (Tau.upd τ1 2 (.slice x2 l2 c2)) 9 (.slice x9 l9 c9)) 11 (.slice x11 l11 c11)) 13 (.slice x13 l13 c13)) 15 (.slice x15 l15 c15)) 17 (.slice x17 l17 c17)) 19 (.slice x19 l19 c19)) 21 (.int .i64 x21)) 22 (.slice x22 l22 c22)) 24 (.slice x24 l24 c24))) (i := 27) (v := (.int .i64 x27)) (G := fun τ => vc Pr (sI l09_LangAlgebra_p36) τ (xthen (fun τ2 H2 => (mSl (τ2 26) fun x26' l26' c26' => mI .i64 (τ2 130) fun x130' => I x26' l26' c26' x130' H2) ∧ μ (gL1 (τ2 26)) (gL2 (τ2 26)) (gL3 (τ2 26)) (gI (τ2 130)) H2 < μ (gL1 (τ 26)) (gL2 (τ 26)) (gL3 (τ 26)) (gI (τ 130)) H1) (l09_LangAlgebra_q13 nx131 nx301 Q E)) E H1) (hf 27 (by simp)) (fix_elim (τ := (Tau.upd (Tau.upd (Tau.upd (Tau.upd (Tau.upd (Tau.upd (Tau.upd (Tau.upd (Tau.upd (Tau.upd (Tau.upd τ1 2 (.slice x2 l2 c2)) 9 (.slice x9 l9 c9)) 11 (.slice x11 l11 c11)) 13 (.slice x13 l13 c13)) 15 (.slice x15 l15 c15)) 17 (.slice x17 l17 c17)) 19 (.slice x19 l19 c19)) 21 (.int .i64 x21)) 22 (.slice x22 l22 c22)) 24 (.slice x24 l24 c24)) 27 (.int .i64 x27))) (i := 128) (v := (.slice x128 l128 c128)) (G := fun τ => vc Pr (sI l09_LangAlgebra_p36) τ (xthen (fun τ2 H2 => (mSl (τ2 26) fun x26' l26' c26' => mI .i64 (τ2 130) fun x130' => I x26' l26' c26' x130' H2) ∧ μ (gL1 (τ2 26)) (gL2 (τ2 26)) (gL3 (τ2 26)) (gI (τ2 130)) H2 < μ (gL1 (τ 26)) (gL2 (τ 26)) (gL3 (τ 26)) (gI (τ 130)) H1) (l09_LangAlgebra_q13 nx131 nx301 Q E)) E H1) (hf 128 (by simp)) (fix_elim (τ := (Tau.upd (Tau.upd (Tau.upd (Tau.upd (Tau.upd (Tau.upd (Tau.upd (Tau.upd (Tau.upd (Tau.upd (Tau.upd (Tau.upd τ1 2 (.slice x2 l2 c2)) 9 (.slice x9 l9 c9)) 11 (.slice x11 l11 c11)) 13 (.slice x13 l13 c13)) 15 (.slice x15 l15 c15)) 17 (.slice x17 l17 c17)) 19 (.slice x19 l19 c19)) 21 (.int .i64 x21)) 22 (.slice x22 l22 c22)) 24 (.slice x24 l24 c24)) 27 (.int .i64 x27)) 128 (.slice x128 l128 c128))) (i := 129) (v := (.int .i64 x129)) (G := fun τ => vc Pr (sI l09_LangAlgebra_p36) τ (xthen (fun τ2 H2 => (mSl (τ2 26) fun x26' l26' c26' => mI .i64 (τ2 130) fun x130' => I x26' l26' c26' x130' H2) ∧ μ (gL1 (τ2 26)) (gL2 (τ2 26)) (gL3 (τ2 26)) (gI (τ2 130)) H2 < μ (gL1 (τ 26)) (gL2 (τ 26)) (gL3 (τ 26)) (gI (τ 130)) H1) (l09_LangAlgebra_q13 nx131 nx301 Q E)) E H1) (hf 129 (by simp)) (mSl_elim (i := 26) (G := fun τ => vc Pr (sI l09_LangAlgebra_p36) τ (xthen (fun τ2 H2 => (mSl (τ2 26) fun x26' l26' c26' => mI .i64 (τ2 130) fun x130' => I x26' l26' c26' x130' H2) ∧ μ (gL1 (τ2 26)) (gL2 (τ2 26)) (gL3 (τ2 26)) (gI (τ2 130)) H2 < μ (gL1 (τ 26)) (gL2 (τ 26)) (gL3 (τ 26)) (gI (τ 130)) H1) (l09_LangAlgebra_q13 nx131 nx301 Q E)) E H1) hI (fun x26r l26r c26r h => mI_elim (i := 130) (G := fun τ => vc Pr (sI l09_LangAlgebra_p36) τ (xthen (fun τ2 H2 => (mSl (τ2 26) fun x26' l26' c26' => mI .i64 (τ2 130) fun x130' => I x26' l26' c26' x130' H2) ∧ μ (gL1 (τ2 26)) (gL2 (τ2 26)) (gL3 (τ2 26)) (gI (τ2 130)) H2 < μ (gL1 (τ 26)) (gL2 (τ 26)) (gL3 (τ 26)) (gI (τ 130)) H1) (l09_LangAlgebra_q13 nx131 nx301 Q E)) E H1) h (fun x130r h => (conv (B := vc Pr (sI l09_LangAlgebra_p36) (Tau.upd (Tau.upd (Tau.upd (Tau.upd (Tau.upd (Tau.upd (Tau.upd (Tau.upd (Tau.upd (Tau.upd (Tau.upd (Tau.upd (Tau.upd (Tau.upd (Tau.upd τ1 2 (.slice x2 l2 c2)) 9 (.slice x9 l9 c9)) 11 (.slice x11 l11 c11)) 13 (.slice x13 l13 c13)) 15 (.slice x15 l15 c15)) 17 (.slice x17 l17 c17)) 19 (.slice x19 l19 c19)) 21 (.int .i64 x21)) 22 (.slice x22 l22 c22)) 24 (.slice x24 l24 c24)) 27 (.int .i64 x27)) 128 (.slice x128 l128 c128)) 129 (.int .i64 x129)) 26 (.slice x26r l26r c26r)) 130 (.int .i64 x130r)) (xthen (fun τ2 H2 => (mSl (τ2 26) fun x26' l26' c26' => mI .i64 (τ2 130) fun x130' => I x26' l26' c26' x130' H2) ∧ μ (gL1 (τ2 26)) (gL2 (τ2 26)) (gL3 (τ2 26)) (gI (τ2 130)) H2 < μ (gL1 ((Tau.upd (Tau.upd (Tau.upd (Tau.upd (Tau.upd (Tau.upd (Tau.upd (Tau.upd (Tau.upd (Tau.upd (Tau.upd (Tau.upd (Tau.upd (Tau.upd (Tau.upd τ1 2 (.slice x2 l2 c2)) 9 (.slice x9 l9 c9)) 11 (.slice x11 l11 c11)) 13 (.slice x13 l13 c13)) 15 (.slice x15 l15 c15)) 17 (.slice x17 l17 c17)) 19 (.slice x19 l19 c19)) 21 (.int .i64 x21)) 22 (.slice x22 l22 c22)) 24 (.slice x24 l24 c24)) 27 (.int .i64 x27)) 128 (.slice x128 l128 c128)) 129 (.int .i64 x129)) 26 (.slice x26r l26r c26r)) 130 (.int .i64 x130r)) 26)) (gL2 ((Tau.upd (Tau.upd (Tau.upd (Tau.upd (Tau.upd (Tau.upd (Tau.upd (Tau.upd (Tau.upd (Tau.upd (Tau.upd (Tau.upd (Tau.upd (Tau.upd (Tau.upd τ1 2 (.slice x2 l2 c2)) 9 (.slice x9 l9 c9)) 11 (.slice x11 l11 c11)) 13 (.slice x13 l13 c13)) 15 (.slice x15 l15 c15)) 17 (.slice x17 l17 c17)) 19 (.slice x19 l19 c19)) 21 (.int .i64 x21)) 22 (.slice x22 l22 c22)) 24 (.slice x24 l24 c24)) 27 (.int .i64 x27)) 128 (.slice x128 l128 c128)) 129 (.int .i64 x129)) 26 (.slice x26r l26r c26r)) 130 (.int .i64 x130r)) 26)) (gL3 ((Tau.upd (Tau.upd (Tau.upd (Tau.upd (Tau.upd (Tau.upd (Tau.upd (Tau.upd (Tau.upd (Tau.upd (Tau.upd (Tau.upd (Tau.upd (Tau.upd (Tau.upd τ1 2 (.slice x2 l2 c2)) 9 (.slice x9 l9 c9)) 11 (.slice x11 l11 c11)) 13 (.slice x13 l13 c13)) 15 (.slice x15 l15 c15)) 17 (.slice x17 l17 c17)) 19 (.slice x19 l19 c19)) 21 (.int .i64 x21)) 22 (.slice x22 l22 c22)) 24 (.slice x24 l24 c24)) 27 (.int .i64 x27)) 128 (.slice x128 l128 c128)) 129 (.int .i64 x129)) 26 (.slice x26r l26r c26r)) 130 (.int .i64 x130r)) 26)) (gI ((Tau.upd (Tau.upd (Tau.upd (Tau.upd (Tau.upd (Tau.upd (Tau.upd (Tau.upd (Tau.upd (Tau.upd (Tau.upd (Tau.upd (Tau.upd (Tau.upd (Tau.upd τ1 2 (.slice x2 l2 c2)) 9 (.slice x9 l9 c9)) 11 (.slice x11 l11 c11)) 13 (.slice x13 l13 c13)) 15 (.slice x15 l15 c15)) 17 (.slice x17 l17 c17)) 19 (.slice x19 l19 c19)) 21 (.int .i64 x21)) 22 (.slice x22 l22 c22)) 24 (.slice x24 l24 c24)) 27 (.int .i64 x27)) 128 (.slice x128 l128 c128)) 129 (.int .i64 x129)) 26 (.slice x26r l26r c26r)) 130 (.int .i64 x130r)) 130)) H1) (l09_LangAlgebra_q13 nx131 nx301 Q E)) E H1) (by kernel_rfl) (vc_xthen (l09_LangAlgebra_29ok nx131 nx301 (fun x26' l26' c26' x130' H2 => I x26' l26' c26' x130' H2 ∧ μ x26' l26' c26' x130' H2 < μ x26r l26r c26r x130r H1) Q E (Tau.upd (Tau.upd (Tau.upd (Tau.upd (Tau.upd (Tau.upd (Tau.upd (Tau.upd (Tau.upd (Tau.upd (Tau.upd (Tau.upd (Tau.upd (Tau.upd (Tau.upd τ1 2 (.slice x2 l2 c2)) 9 (.slice x9 l9 c9)) 11 (.slice x11 l11 c11)) 13 (.slice x13 l13 c13)) 15 (.slice x15 l15 c15)) 17 (.slice x17 l17 c17)) 19 (.slice x19 l19 c19)) 21 (.int .i64 x21)) 22 (.slice x22 l22 c22)) 24 (.slice x24 l24 c24)) 27 (.int .i64 x27)) 128 (.slice x128 l128 c128)) 129 (.int .i64 x129)) 26 (.slice x26r l26r c26r)) 130 (.int .i64 x130r)) H1 (conv (B := l09_LangAlgebra_27_M nx131 nx301 (fun x26' l26' c26' x130' H2 => I x26' l26' c26' x130' H2 ∧ μ x26' l26' c26' x130' H2 < μ x26r l26r c26r x130r H1) Q E (Tau.upd (Tau.upd (Tau.upd (Tau.upd (Tau.upd (Tau.upd (Tau.upd (Tau.upd (Tau.upd (Tau.upd (Tau.upd (Tau.upd (Tau.upd (Tau.upd (Tau.upd τ1 2 (.slice x2 l2 c2)) 9 (.slice x9 l9 c9)) 11 (.slice x11 l11 c11)) 13 (.slice x13 l13 c13)) 15 (.slice x15 l15 c15)) 17 (.slice x17 l17 c17)) 19 (.slice x19 l19 c19)) 21 (.int .i64 x21)) 22 (.slice x22 l22 c22)) 24 (.slice x24 l24 c24)) 27 (.int .i64 x27)) 128 (.slice x128 l128 c128)) 129 (.int .i64 x129)) 26 (.slice x26r l26r c26r)) 130 (.int .i64 x130r)) H1) (by kernel_rfl) (hr x26r l26r c26r x130r H1 h))) (fun τ2 H2 hk => mSl_elim (i := 26) (G := fun τ => (mSl (τ 26) fun x26' l26' c26' => mI .i64 (τ 130) fun x130' => I x26' l26' c26' x130' H2) ∧ μ (gL1 (τ 26)) (gL2 (τ 26)) (gL3 (τ 26)) (gI (τ 130)) H2 < μ x26r l26r c26r x130r H1) hk (fun x26' l26' c26' h => mI_elim (i := 130) (G := fun τ => (mSl (τ 26) fun x26' l26' c26' => mI .i64 (τ 130) fun x130' => I x26' l26' c26' x130' H2) ∧ μ (gL1 (τ 26)) (gL2 (τ 26)) (gL3 (τ 26)) (gI (τ 130)) H2 < μ x26r l26r c26r x130r H1) h (fun x130' h => h))))))))))))))))))))))))))))))))))))))

theorem l09_LangAlgebra_32ok (nx131 : Int → HP) (nx301 : Option Addr → Nat → Nat → Int → HP) (Q : QT) (E : ET) (τ : Tau) (H : Heap) (h : l09_LangAlgebra_30_M nx131 nx301 Q E τ H) : vc Pr l09_LangAlgebra_p35 τ (l09_LangAlgebra_q12 nx131 nx301 Q E) E H :=
  (conv (B := vc Pr l09_LangAlgebra_p35 τ (l09_LangAlgebra_q12 nx131 nx301 Q E) E H) (by kernel_rfl) (l09_LangAlgebra_31ok nx131 nx301 Q E τ H h))

@[reducible] noncomputable def l09_LangAlgebra_q21 (nx131 : Int → HP) (nx301 : Option Addr → Nat → Nat → Int → HP) (Q : QT) (E : ET) : Exit → Tau → Heap → Prop := (xthen (l09_LangAlgebra_30_M nx131 nx301 Q E) (l09_LangAlgebra_q12 nx131 nx301 Q E))

@[reducible] noncomputable def l09_LangAlgebra_p49 : Code := sA l09_LangAlgebra_p34

def l09_LangAlgebra_33 (nx131 : Int → HP) (nx301 : Option Addr → Nat → Nat → Int → HP) (Q : QT) (E : ET) (x2 : OA) (l2 : Nat) (c2 : Nat) (x9 : OA) (l9 : Nat) (c9 : Nat) (x11 : OA) (l11 : Nat) (c11 : Nat) (x13 : OA) (l13 : Nat) (c13 : Nat) (x15 : OA) (l15 : Nat) (c15 : Nat) (x17 : OA) (l17 : Nat) (c17 : Nat) (x19 : OA) (l19 : Nat) (c19 : Nat) (x21 : Int) (x22 : OA) (l22 : Nat) (c22 : Nat) (x24 : OA) (l24 : Nat) (c24 : Nat) (x26 : OA) (l26 : Nat) (c26 : Nat) (x27 : Int) (H : Heap) : Prop :=
 l09_LangAlgebra_30 nx131 nx301 Q E x2 l2 c2 x9 l9 c9 x11 l11 c11 x13 l13 c13 x15 l15 c15 x17 l17 c17 x19 l19 c19 x21 x22 l22 c22 x24 l24 c24 x27 x22 l22 c22 ((l22 : Nat) : Int) x26 l26 c26 0 H

def l09_LangAlgebra_33_M (nx131 : Int → HP) (nx301 : Option Addr → Nat → Nat → Int → HP) (Q : QT) (E : ET) (τ : Tau) (H : Heap) : Prop := mSl (τ 2) fun x2 l2 c2 => mSl (τ 9) fun x9 l9 c9 => mSl (τ 11) fun x11 l11 c11 => mSl (τ 13) fun x13 l13 c13 => mSl (τ 15) fun x15 l15 c15 => mSl (τ 17) fun x17 l17 c17 => mSl (τ 19) fun x19 l19 c19 => mI .i64 (τ 21) fun x21 => mSl (τ 22) fun x22 l22 c22 => mSl (τ 24) fun x24 l24 c24 => mSl (τ 26) fun x26 l26 c26 => mI .i64 (τ 27) fun x27 => l09_LangAlgebra_33 nx131 nx301 Q E x2 l2 c2 x9 l9 c9 x11 l11 c11 x13 l13 c13 x15 l15 c15 x17 l17 c17 x19 l19 c19 x21 x22 l22 c22 x24 l24 c24 x26 l26 c26 x27 H

theorem l09_LangAlgebra_34ok (nx131 : Int → HP) (nx301 : Option Addr → Nat → Nat → Int → HP) (Q : QT) (E : ET) (τ : Tau) (H : Heap) (h : l09_LangAlgebra_33_M nx131 nx301 Q E τ H) : vc Pr l09_LangAlgebra_p49 τ (l09_LangAlgebra_q21 nx131 nx301 Q E) E H :=
  vSl (i := 2) h (fun x2 l2 c2 h => vSl (i := 9) h (fun x9 l9 c9 h => vSl (i := 11) h (fun x11 l11 c11 h => vSl (i := 13) h (fun x13 l13 c13 h => vSl (i := 15) h (fun x15 l15 c15 h => vSl (i := 17) h (fun x17 l17 c17 h => vSl (i := 19) h (fun x19 l19 c19 h => vI (i := 21) h (fun x21 h => vSl (i := 22) h (fun x22 l22 c22 h => vSl (i := 24) h (fun x24 l24 c24 h => vSl (i := 26) h (fun x26 l26 c26 h => vI (i := 27) h (fun x27 h => (conv (by kernel_rfl) h)))))))))))))

theorem l09_LangAlgebra_35ok (nx131 : Int → HP) (nx301 : Option Addr → Nat → Nat → Int → HP) (Q : QT) (E : ET) (τ : Tau) (H : Heap) (h : l09_LangAlgebra_33_M nx131 nx301 Q E τ H) : vc Pr l09_LangAlgebra_p34 τ (l09_LangAlgebra_q12 nx131 nx301 Q E) E H :=
  (conv (B := vc Pr l09_LangAlgebra_p34 τ (l09_LangAlgebra_q12 nx131 nx301 Q E) E H) (by kernel_rfl) (vc_seq (K := (l09_LangAlgebra_30_M nx131 nx301 Q E)) (l09_LangAlgebra_34ok nx131 nx301 Q E τ H h) (l09_LangAlgebra_32ok nx131 nx301 Q E)))

theorem l09_LangAlgebra_36ok (nx131 : Int → HP) (nx301 : Option Addr → Nat → Nat → Int → HP) (Q : QT) (E : ET) (τ : Tau) (H : Heap) (h : l09_LangAlgebra_33_M nx131 nx301 Q E τ H) : vc Pr l09_LangAlgebra_p33 τ (l09_LangAlgebra_q11 nx131 nx301 Q E) E H :=
  (conv (B := vc Pr l09_LangAlgebra_p33 τ (l09_LangAlgebra_q11 nx131 nx301 Q E) E H) (by kernel_rfl) (l09_LangAlgebra_35ok nx131 nx301 Q E τ H h))

theorem l09_LangAlgebra_37ok (nx131 : Int → HP) (nx301 : Option Addr → Nat → Nat → Int → HP) (Q : QT) (E : ET) (τ : Tau) (H : Heap) (h : l09_LangAlgebra_33_M nx131 nx301 Q E τ H) : vc Pr l09_LangAlgebra_p31 τ (l09_LangAlgebra_q10 nx131 nx301 Q E) E H :=
  (conv (B := vc Pr l09_LangAlgebra_p31 τ (l09_LangAlgebra_q10 nx131 nx301 Q E) E H) (by kernel_rfl) (vc_seq (K := (l09_LangAlgebra_10_M nx131 nx301 Q E)) (l09_LangAlgebra_36ok nx131 nx301 Q E τ H h) (l09_LangAlgebra_11ok nx131 nx301 Q E)))

@[reducible] noncomputable def l09_LangAlgebra_q22 (nx131 : Int → HP) (nx301 : Option Addr → Nat → Nat → Int → HP) (Q : QT) (E : ET) : Exit → Tau → Heap → Prop := (xthen (l09_LangAlgebra_33_M nx131 nx301 Q E) (l09_LangAlgebra_q10 nx131 nx301 Q E))

@[reducible] noncomputable def l09_LangAlgebra_p50 : Code := sA l09_LangAlgebra_p30

def l09_LangAlgebra_38 (nx131 : Int → HP) (nx301 : Option Addr → Nat → Nat → Int → HP) (Q : QT) (E : ET) (x2 : OA) (l2 : Nat) (c2 : Nat) (x9 : OA) (l9 : Nat) (c9 : Nat) (x11 : OA) (l11 : Nat) (c11 : Nat) (x13 : OA) (l13 : Nat) (c13 : Nat) (x15 : OA) (l15 : Nat) (c15 : Nat) (x17 : OA) (l17 : Nat) (c17 : Nat) (x19 : OA) (l19 : Nat) (c19 : Nat) (x21 : Int) (x22 : OA) (l22 : Nat) (c22 : Nat) (x24 : OA) (l24 : Nat) (c24 : Nat) (x26 : OA) (l26 : Nat) (c26 : Nat) (x27 : Int) (H : Heap) : Prop :=
 sel (decide ((x27 : Int) ≤ ((l2 : Nat) : Int)))
 (l09_LangAlgebra_33 nx131 nx301 Q E x2 l2 c2 x9 l9 c9 x11 l11 c11 x13 l13 c13 x15 l15 c15 x17 l17 c17 x19 l19 c19 x21 x22 l22 c22 x24 l24 c24 x26 l26 c26 x27 H)
 (l09_LangAlgebra_7 nx131 Q E x2 l2 c2 x9 l9 c9 x11 l11 c11 x13 l13 c13 x15 l15 c15 x17 l17 c17 x19 l19 c19 x21 x24 l24 c24 x26 l26 c26 H)

def l09_LangAlgebra_38_M (nx131 : Int → HP) (nx301 : Option Addr → Nat → Nat → Int → HP) (Q : QT) (E : ET) (τ : Tau) (H : Heap) : Prop := mSl (τ 2) fun x2 l2 c2 => mSl (τ 9) fun x9 l9 c9 => mSl (τ 11) fun x11 l11 c11 => mSl (τ 13) fun x13 l13 c13 => mSl (τ 15) fun x15 l15 c15 => mSl (τ 17) fun x17 l17 c17 => mSl (τ 19) fun x19 l19 c19 => mI .i64 (τ 21) fun x21 => mSl (τ 22) fun x22 l22 c22 => mSl (τ 24) fun x24 l24 c24 => mSl (τ 26) fun x26 l26 c26 => mI .i64 (τ 27) fun x27 => l09_LangAlgebra_38 nx131 nx301 Q E x2 l2 c2 x9 l9 c9 x11 l11 c11 x13 l13 c13 x15 l15 c15 x17 l17 c17 x19 l19 c19 x21 x22 l22 c22 x24 l24 c24 x26 l26 c26 x27 H

theorem l09_LangAlgebra_39ok (nx131 : Int → HP) (nx301 : Option Addr → Nat → Nat → Int → HP) (Q : QT) (E : ET) (τ : Tau) (H : Heap) (h : l09_LangAlgebra_38_M nx131 nx301 Q E τ H) : vc Pr l09_LangAlgebra_p50 τ (l09_LangAlgebra_q22 nx131 nx301 Q E) E H :=
  vSl (i := 2) h (fun x2 l2 c2 h => vSl (i := 9) h (fun x9 l9 c9 h => vSl (i := 11) h (fun x11 l11 c11 h => vSl (i := 13) h (fun x13 l13 c13 h => vSl (i := 15) h (fun x15 l15 c15 h => vSl (i := 17) h (fun x17 l17 c17 h => vSl (i := 19) h (fun x19 l19 c19 h => vI (i := 21) h (fun x21 h => vSl (i := 22) h (fun x22 l22 c22 h => vSl (i := 24) h (fun x24 l24 c24 h => vSl (i := 26) h (fun x26 l26 c26 h => vI (i := 27) h (fun x27 h => (conv (by kernel_rfl) h)))))))))))))

theorem l09_LangAlgebra_40ok (nx131 : Int → HP) (nx301 : Option Addr → Nat → Nat → Int → HP) (Q : QT) (E : ET) (τ : Tau) (H : Heap) (h : l09_LangAlgebra_38_M nx131 nx301 Q E τ H) : vc Pr l09_LangAlgebra_p30 τ (l09_LangAlgebra_q10 nx131 nx301 Q E) E H :=
  (conv (B := vc Pr l09_LangAlgebra_p30 τ (l09_LangAlgebra_q10 nx131 nx301 Q E) E H) (by kernel_rfl) (vc_seq (K := (l09_LangAlgebra_33_M nx131 nx301 Q E)) (l09_LangAlgebra_39ok nx131 nx301 Q E τ H h) (l09_LangAlgebra_37ok nx131 nx301 Q E)))

def l09_LangAlgebra_41 (nx131 : Int → HP) (Q : QT) (E : ET) (x2 : OA) (l2 : Nat) (c2 : Nat) (x9 : OA) (l9 : Nat) (c9 : Nat) (x11 : OA) (l11 : Nat) (c11 : Nat) (x13 : OA) (l13 : Nat) (c13 : Nat) (x15 : OA) (l15 : Nat) (c15 : Nat) (x17 : OA) (l17 : Nat) (c17 : Nat) (x19 : OA) (l19 : Nat) (c19 : Nat) (x21 : Int) (x22 : OA) (l22 : Nat) (c22 : Nat) (x24 : OA) (l24 : Nat) (c24 : Nat) (x26 : OA) (l26 : Nat) (c26 : Nat) (x27 : Int) (H : Heap) : Prop :=
 ∃ (I : Option Addr → Nat → Nat → Int → HP) (μ : Option Addr → Nat → Nat → Int → Heap → Nat), I x26 l26 c26 x27 H ∧ ∀ (x26 : OA) (l26 : Nat) (c26 : Nat) (x27 : Int) (H : Heap), I x26 l26 c26 x27 H →
 l09_LangAlgebra_38 nx131 (fun x26' l26' c26' x27' H1 => I x26' l26' c26' x27' H1 ∧ μ x26' l26' c26' x27' H1 < μ x26 l26 c26 x27 H) Q E x2 l2 c2 x9 l9 c9 x11 l11 c11 x13 l13 c13 x15 l15 c15 x17 l17 c17 x19 l19 c19 x21 x22 l22 c22 x24 l24 c24 x26 l26 c26 x27 H

def l09_LangAlgebra_41_M (nx131 : Int → HP) (Q : QT) (E : ET) (τ : Tau) (H : Heap) : Prop := mSl (τ 2) fun x2 l2 c2 => mSl (τ 9) fun x9 l9 c9 => mSl (τ 11) fun x11 l11 c11 => mSl (τ 13) fun x13 l13 c13 => mSl (τ 15) fun x15 l15 c15 => mSl (τ 17) fun x17 l17 c17 => mSl (τ 19) fun x19 l19 c19 => mI .i64 (τ 21) fun x21 => mSl (τ 22) fun x22 l22 c22 => mSl (τ 24) fun x24 l24 c24 => mSl (τ 26) fun x26 l26 c26 => mI .i64 (τ 27) fun x27 => l09_LangAlgebra_41 nx131 Q E x2 l2 c2 x9 l9 c9 x11 l11 c11 x13 l13 c13 x15 l15 c15 x17 l17 c17 x19 l19 c19 x21 x22 l22 c22 x24 l24 c24 x26 l26 c26 x27 H

theorem l09_LangAlgebra_42ok (nx131 : Int → HP) (Q : QT) (E : ET) (τ : Tau) (H : Heap) (h : l09_LangAlgebra_41_M nx131 Q E τ H) : vc Pr l09_LangAlgebra_p29 τ (l09_LangAlgebra_q9 nx131 Q E) E H :=
  vSl (i := 2) h (fun x2 l2 c2 h => vSl (i := 9) h (fun x9 l9 c9 h => vSl (i := 11) h (fun x11 l11 c11 h => vSl (i := 13) h (fun x13 l13 c13 h => vSl (i := 15) h (fun x15 l15 c15 h => vSl (i := 17) h (fun x17 l17 c17 h => vSl (i := 19) h (fun x19 l19 c19 h => vI (i := 21) h (fun x21 h => vSl (i := 22) h (fun x22 l22 c22 h => vSl (i := 24) h (fun x24 l24 c24 h => vSl (i := 26) h (fun x26 l26 c26 h => vI (i := 27) h (fun x27 h => match h with | ⟨I, μ, h0, hr⟩ => (conv (B := vc Pr l09_LangAlgebra_p29 (Tau.upd (Tau.upd (Tau.upd (Tau.upd (Tau.upd (Tau.upd (Tau.upd (Tau.upd (Tau.upd (Tau.upd (Tau.upd (Tau.upd τ 2 (.slice x2 l2 c2)) 9 (.slice x9 l9 c9)) 11 (.slice x11 l11 c11)) 13 (.slice x13 l13 c13)) 15 (.slice x15 l15 c15)) 17 (.slice x17 l17 c17)) 19 (.slice x19 l19 c19)) 21 (.int .i64 x21)) 22 (.slice x22 l22 c22)) 24 (.slice x24 l24 c24)) 26 (.slice x26 l26 c26)) 27 (.int .i64 x27)) (l09_LangAlgebra_q9 nx131 Q E) E H) (by kernel_rfl) (vc_loop (c := sI l09_LangAlgebra_p29) (τ := (Tau.upd (Tau.upd (Tau.upd (Tau.upd (Tau.upd (Tau.upd (Tau.upd (Tau.upd (Tau.upd (Tau.upd (Tau.upd (Tau.upd τ 2 (.slice x2 l2 c2)) 9 (.slice x9 l9 c9)) 11 (.slice x11 l11 c11)) 13 (.slice x13 l13 c13)) 15 (.slice x15 l15 c15)) 17 (.slice x17 l17 c17)) 19 (.slice x19 l19 c19)) 21 (.int .i64 x21)) 22 (.slice x22 l22 c22)) 24 (.slice x24 l24 c24)) 26 (.slice x26 l26 c26)) 27 (.int .i64 x27))) [2, 9, 11, 13, 15, 17, 19, 21, 22, 24] (fun τ H => mSl (τ 26) fun x26' l26' c26' => mI .i64 (τ 27) fun x27' => I x26' l26' c26' x27' H) (fun τ H => μ (gL1 (τ 26)) (gL2 (τ 26)) (gL3 (τ 26)) (gI (τ 27)) H) (by kernel_rfl) h0 (fun τ1 H1 hf hI => fix_elim (τ := τ1) (i := 2) (v := (.slice x2 l2 c2)) (G := fun τ => vc Pr (sI l09_LangAlgebra_p29) τ (xthen (fun τ2 H2 => (mSl (τ2 26) fun x26' l26' c26' => mI .i64 (τ2 27) fun x27' => I x26' l26' c26' x27' H2) ∧ μ (gL1 (τ2 26)) (gL2 (τ2 26)) (gL3 (τ2 26)) (gI (τ2 27)) H2 < μ (gL1 (τ 26)) (gL2 (τ 26)) (gL3 (τ 26)) (gI (τ 27)) H1) (l09_LangAlgebra_q9 nx131 Q E)) E H1) (hf 2 (by simp)) (fix_elim (τ := (Tau.upd τ1 2 (.slice x2 l2 c2))) (i := 9) (v := (.slice x9 l9 c9)) (G := fun τ => vc Pr (sI l09_LangAlgebra_p29) τ (xthen (fun τ2 H2 => (mSl (τ2 26) fun x26' l26' c26' => mI .i64 (τ2 27) fun x27' => I x26' l26' c26' x27' H2) ∧ μ (gL1 (τ2 26)) (gL2 (τ2 26)) (gL3 (τ2 26)) (gI (τ2 27)) H2 < μ (gL1 (τ 26)) (gL2 (τ 26)) (gL3 (τ 26)) (gI (τ 27)) H1) (l09_LangAlgebra_q9 nx131 Q E)) E H1) (hf 9 (by simp)) (fix_elim (τ := (Tau.upd (Tau.upd τ1 2 (.slice x2 l2 c2)) 9 (.slice x9 l9 c9))) (i := 11) (v := (.slice x11 l11 c11)) (G := fun τ => vc Pr (sI l09_LangAlgebra_p29) τ (xthen (fun τ2 H2 => (mSl (τ2 26) fun x26' l26' c26' => mI .i64 (τ2 27) fun x27' => I x26' l26' c26' x27' H2) ∧ μ (gL1 (τ2 26)) (gL2 (τ2 26)) (gL3 (τ2 26)) (gI (τ2 27)) H2 < μ (gL1 (τ 26)) (gL2 (τ 26)) (gL3 (τ 26)) (gI (τ 27)) H1) (l09_LangAlgebra_q9 nx131 Q E)) E H1) (hf 11 (by simp)) (fix_elim (τ := (Tau.upd (Tau.upd (Tau.upd τ1 2 (.slice x2 l2 c2)) 9 (.slice x9 l9 c9)) 11 (.slice x11 l11 c11))) (i := 13) (v := (.slice x13 l13 c13)) (G := fun τ => vc Pr (sI l09_LangAlgebra_p29) τ (xthen (fun τ2 H2 => (mSl (τ2 26) fun x26' l26' c26' => mI .i64 (τ2 27) fun x27' => I x26' l26' c26' x27' H2) ∧ μ (gL1 (τ2 26)) (gL2 (τ2 26)) (gL3 (τ2 26)) (gI (τ2 27)) H2 < μ (gL1 (τ 26)) (gL2 (τ 26)) (gL3 (τ 26)) (gI (τ 27)) H1) (l09_LangAlgebra_q9 nx131 Q E)) E H1) (hf 13 (by simp)) (fix_elim (τ := (Tau.upd (Tau.upd (Tau.upd (Tau.upd τ1 2 (.slice x2 l2 c2)) 9 (.slice x9 l9 c9)) 11 (.slice x11 l11 c11)) 13 (.slice x13 l13 c13))) (i := 15) (v := (.slice x15 l15 c15)) (G := fun τ => vc Pr (sI l09_LangAlgebra_p29) τ (xthen (fun τ2 H2 => (mSl (τ2 26) fun x26' l26' c26' => mI .i64 (τ2 27) fun x27' => I x26' l26' c26' x27' H2) ∧ μ (gL1 (τ2 26)) (gL2 (τ2 26)) (gL3 (τ2 26)) (gI (τ2 27)) H2 < μ (gL1 (τ 26)) (gL2 (τ 26)) (gL3 (τ 26)) (gI (τ 27)) H1) (l09_LangAlgebra_q9 nx131 Q E)) E H1) (hf 15 (by simp)) (fix_elim (τ := (Tau.upd (Tau.upd (Tau.upd (Tau.upd (Tau.upd τ1 2 (.slice x2 l2 c2)) 9 (.slice x9 l9 c9)) 11 (.slice x11 l11 c11)) 13 (.slice x13 l13 c13)) 15 (.slice x15 l15 c15))) (i := 17) (v := (.slice x17 l17 c17)) (G := fun τ => vc Pr (sI l09_LangAlgebra_p29) τ (xthen (fun τ2 H2 => (mSl (τ2 26) fun x26' l26' c26' => mI .i64 (τ2 27) fun x27' => I x26' l26' c26' x27' H2) ∧ μ (gL1 (τ2 26)) (gL2 (τ2 26)) (gL3 (τ2 26)) (gI (τ2 27)) H2 < μ (gL1 (τ 26)) (gL2 (τ 26)) (gL3 (τ 26)) (gI (τ 27)) H1) (l09_LangAlgebra_q9 nx131 Q E)) E H1) (hf 17 (by simp)) (fix_elim (τ := (Tau.upd (Tau.upd (Tau.upd (Tau.upd (Tau.upd (Tau.upd τ1 2 (.slice x2 l2 c2)) 9 (.slice x9 l9 c9)) 11 (.slice x11 l11 c11)) 13 (.slice x13 l13 c13)) 15 (.slice x15 l15 c15)) 17 (.slice x17 l17 c17))) (i := 19) (v := (.slice x19 l19 c19)) (G := fun τ => vc Pr (sI l09_LangAlgebra_p29) τ (xthen (fun τ2 H2 => (mSl (τ2 26) fun x26' l26' c26' => mI .i64 (τ2 27) fun x27' => I x26' l26' c26' x27' H2) ∧ μ (gL1 (τ2 26)) (gL2 (τ2 26)) (gL3 (τ2 26)) (gI (τ2 27)) H2 < μ (gL1 (τ 26)) (gL2 (τ 26)) (gL3 (τ 26)) (gI (τ 27)) H1) (l09_LangAlgebra_q9 nx131 Q E)) E H1) (hf 19 (by simp)) (fix_elim (τ := (Tau.upd (Tau.upd (Tau.upd (Tau.upd (Tau.upd (Tau.upd (Tau.upd τ1 2 (.slice x2 l2 c2)) 9 (.slice x9 l9 c9)) 11 (.slice x11 l11 c11)) 13 (.slice x13 l13 c13)) 15 (.slice x15 l15 c15)) 17 (.slice x17 l17 c17)) 19 (.slice x19 l19 c19))) (i := 21) (v := (.int .i64 x21)) (G := fun τ => vc Pr (sI l09_LangAlgebra_p29) τ (xthen (fun τ2 H2 => (mSl (τ2 26) fun x26' l26' c26' => mI .i64 (τ2 27) fun x27' => I x26' l26' c26' x27' H2) ∧ μ (gL1 (τ2 26)) (gL2 (τ2 26)) (gL3 (τ2 26)) (gI (τ2 27)) H2 < μ (gL1 (τ 26)) (gL2 (τ 26)) (gL3 (τ 26)) (gI (τ 27)) H1) (l09_LangAlgebra_q9 nx131 Q E)) E H1) (hf 21 (by simp)) (fix_elim (τ := (Tau.upd (Tau.upd (Tau.upd (Tau.upd (Tau.upd (Tau.upd (Tau.upd (Tau.upd τ1 2 (.slice x2 l2 c2)) 9 (.slice x9 l9 c9)) 11 (.slice x11 l11 c11)) 13 (.slice x13 l13 c13)) 15 (.slice x15 l15 c15)) 17 (.slice x17 l17 c17)) 19 (.slice x19 l19 c19)) 21 (.int .i64 x21))) (i := 22) (v := (.slice x22 l22 c22)) (G := fun τ => vc Pr (sI l09_LangAlgebra_p29) τ (xthen (fun τ2 H2 => (mSl (τ2 26) fun x26' l26' c26' => mI .i64 (τ2 27) fun x27' => I x26' l26' c26' x27' H2) ∧ μ (gL1 (τ2 26)) (gL2 (τ2 26)) (gL3 (τ2 26)) (gI (τ2 27)) H2 < μ (gL1 (τ 26)) (gL2 (τ 26)) (gL3 (τ 26)) (gI (τ 27)) H1) (l09_LangAlgebra_q9 nx131 Q E)) E H1) (hf 22 (by simp)) (fix_elim (τ := (Tau.upd (Tau.upd (Tau.upd (Tau.upd (Tau.upd (Tau.upd (Tau.upd (Tau.upd (Tau.upd τ1 2 (.slice x2 l2 c2)) 9 (.slice x9 l9 c9)) 11 (.slice x11 l11 c11)) 13 (.slice x13 l13 c13)) 15 (.slice x15 l15 c15)) 17 (.slice x17 l17 c17)) 19 (.slice x19 l19 c19)) 21 (.int .i64 x21)) 22 (.slice x22 l22 c22))) (i := 24) (v := (.slice x24 l24 c24)) (G := fun τ => vc Pr (sI l09_LangAlgebra_p29) τ (xthen (fun τ2 H2 => (mSl (τ2 26) fun x26' l26' c26' => mI .i64 (τ2 27) fun x27' => I x26' l26' c26' x27' H2) ∧ μ (gL1 (τ2 26)) (gL2 (τ2 26)) (gL3 (τ2 26)) (gI (τ2 27)) H2 < μ (gL1 (τ 26)) (gL2 (τ 26)) (gL3 (τ 26)) (gI (τ 27)) H1) (l09_LangAlgebra_q9 nx131 Q E)) E H1) (hf 24 (by simp)) (mSl_elim (i := 26) (G := fun τ => vc Pr (sI l09_LangAlgebra_p29) τ (xthen (fun τ2 H2 => (mSl (τ2 26) fun x26' l26' c26' => mI .i64 (τ2 27) fun x27' => I x26' l26' c26' x27' H2) ∧ μ (gL1 (τ2 26)) (gL2 (τ2 26)) (gL3 (τ2 26)) (gI (τ2 27)) H2 < μ (gL1 (τ 26)) (gL2 (τ 26)) (gL3 (τ 26)) (gI (τ 27)) H1) (l09_LangAlgebra_q9 nx131 Q E)) E H1) hI (fun x26r l26r c26r h => mI_elim (i := 27) (G := fun τ => vc Pr (sI l09_LangAlgebra_p29) τ (xthen (fun τ2 H2 => (mSl (τ2 26) fun x26' l26' c26' => mI .i64 (τ2 27) fun x27' => I x26' l26' c26' x27' H2) ∧ μ (gL1 (τ2 26)) (gL2 (τ2 26)) (gL3 (τ2 26)) (gI (τ2 27)) H2 < μ (gL1 (τ 26)) (gL2 (τ 26)) (gL3 (τ 26)) (gI (τ 27)) H1) (l09_LangAlgebra_q9 nx131 Q E)) E H1) h (fun x27r h => (conv (B := vc Pr (sI l09_LangAlgebra_p29) (Tau.upd (Tau.upd (Tau.upd (Tau.upd (Tau.upd (Tau.upd (Tau.upd (Tau.upd (Tau.upd (Tau.upd (Tau.upd (Tau.upd τ1 2 (.slice x2 l2 c2)) 9 (.slice x9 l9 c9)) 11 (.slice x11 l11 c11)) 13 (.slice x13 l13 c13)) 15 (.slice x15 l15 c15)) 17 (.slice x17 l17 c17)) 19 (.slice x19 l19 c19)) 21 (.int .i64 x21)) 22 (.slice x22 l22 c22)) 24 (.slice x24 l24 c24)) 26 (.slice x26r l26r c26r)) 27 (.int .i64 x27r)) (xthen (fun τ2 H2 => (mSl (τ2 26) fun x26' l26' c26' => mI .i64 (τ2 27) fun x27' => I x26' l26' c26' x27' H2) ∧ μ (gL1 (τ2 26)) (gL2 (τ2 26)) (gL3 (τ2 26)) (gI (τ2 27)) H2 < μ (gL1 ((Tau.upd (Tau.upd (Tau.upd (Tau.upd (Tau.upd (Tau.upd (Tau.upd (Tau.upd (Tau.upd (Tau.upd (Tau.upd (Tau.upd τ1 2 (.slice x2 l2 c2)) 9 (.slice x9 l9 c9)) 11 (.slice x11 l11 c11)) 13 (.slice x13 l13 c13)) 15 (.slice x15 l15 c15)) 17 (.slice x17 l17 c17)) 19 (.slice x19 l19 c19)) 21 (.int .i64 x21)) 22 (.slice x22 l22 c22)) 24 (.slice x24 l24 c24)) 26 (.slice x26r l26r c26r)) 27 (.int .i64 x27r)) 26)) (gL2 ((Tau.upd (Tau.upd (Tau.upd (Tau.upd (Tau.upd (Tau.upd (Tau.upd (Tau.upd (Tau.upd (Tau.upd (Tau.upd (Tau.upd τ1 2 (.slice x2 l2 c2)) 9 (.slice x9 l9 c9)) 11 (.slice x11 l11 c11)) 13 (.slice x13 l13 c13)) 15 (.slice x15 l15 c15)) 17 (.slice x17 l17 c17)) 19 (.slice x19 l19 c19)) 21 (.int .i64 x21)) 22 (.slice x22 l22 c22)) 24 (.slice x24 l24 c24)) 26 (.slice x26r l26r c26r)) 27 (.int .i64 x27r)) 26)) (gL3 ((Tau.upd (Tau.upd (Tau.upd (Tau.upd (Tau.upd (Tau.upd (Tau.upd (Tau.upd (Tau.upd (Tau.upd (Tau.upd (Tau.upd τ1 2 (.slice x2 l2 c2)) 9 (.slice x9 l9 c9)) 11 (.slice x11 l11 c11)) 13 (.slice x13 l13 c13)) 15 (.slice x15 l15 c15)) 17 (.slice x17 l17 c17)) 19 (.slice x19 l19 c19)) 21 (.int .i64 x21)) 22 (.slice x22 l22 c22)) 24 (.slice x24 l24 c24)) 26 (.slice x26r l26r c26r)) 27 (.int .i64 x27r)) 26)) (gI ((Tau.upd (Tau.upd (Tau.upd (Tau.upd (Tau.upd (Tau.upd (Tau.upd (Tau.upd (Tau.upd (Tau.upd (Tau.upd (Tau.upd τ1 2 (.slice x2 l2 c2)) 9 (.slice x9 l9 c9)) 11 (.slice x11 l11 c11)) 13 (.slice x13 l13 c13)) 15 (.slice x15 l15 c15)) 17 (.slice x17 l17 c17)) 19 (.slice x19 l19 c19)) 21 (.int .i64 x21)) 22 (.slice x22 l22 c22)) 24 (.slice x24 l24 c24)) 26 (.slice x26r l26r c26r)) 27 (.int .i64 x27r)) 27)) H1) (l09_LangAlgebra_q9 nx131 Q E)) E H1) (by kernel_rfl) (vc_xthen (l09_LangAlgebra_40ok nx131 (fun x26' l26' c26' x27' H2 => I x26' l26' c26' x27' H2 ∧ μ x26' l26' c26' x27' H2 < μ x26r l26r c26r x27r H1) Q E (Tau.upd (Tau.upd (Tau.upd (Tau.upd (Tau.upd (Tau.upd (Tau.upd (Tau.upd (Tau.upd (Tau.upd (Tau.upd (Tau.upd τ1 2 (.slice x2 l2 c2)) 9 (.slice x9 l9 c9)) 11 (.slice x11 l11 c11)) 13 (.slice x13 l13 c13)) 15 (.slice x15 l15 c15)) 17 (.slice x17 l17 c17)) 19 (.slice x19 l19 c19)) 21 (.int .i64 x21)) 22 (.slice x22 l22 c22)) 24 (.slice x24 l24 c24)) 26 (.slice x26r l26r c26r)) 27 (.int .i64 x27r)) H1 (conv (B := l09_LangAlgebra_38_M nx131 (fun x26' l26' c26' x27' H2 => I x26' l26' c26' x27' H2 ∧ μ x26' l26' c26' x27' H2 < μ x26r l26r c26r x27r H1) Q E (Tau.upd (Tau.upd (Tau.upd (Tau.upd (Tau.upd (Tau.upd (Tau.upd (Tau.upd (Tau.upd (Tau.upd (Tau.upd (Tau.upd τ1 2 (.slice x2 l2 c2)) 9 (.slice x9 l9 c9)) 11 (.slice x11 l11 c11)) 13 (.slice x13 l13 c13)) 15 (.slice x15 l15 c15)) 17 (.slice x17 l17 c17)) 19 (.slice x19 l19 c19)) 21 (.int .i64 x21)) 22 (.slice x22 l22 c22)) 24 (.slice x24 l24 c24)) 26 (.slice x26r l26r c26r)) 27 (.int .i64 x27r)) H1) (by kernel_rfl) (hr x26r l26r c26r x27r H1 h))) (fun τ2 H2 hk => mSl_elim (i := 26) (G := fun τ => (mSl (τ 26) fun x26' l26' c26' => mI .i64 (τ 27) fun x27' => I x26' l26' c26' x27' H2) ∧ μ (gL1 (τ 26)) (gL2 (τ 26)) (gL3 (τ 26)) (gI (τ 27)) H2 < μ x26r l26r c26r x27r H1) hk (fun x26' l26' c26' h => mI_elim (i := 27) (G := fun τ => (mSl (τ 26) fun x26' l26' c26' => mI .i64 (τ 27) fun x27' => I x26' l26' c26' x27' H2) ∧ μ (gL1 (τ 26)) (gL2 (τ 26)) (gL3 (τ 26)) (gI (τ 27)) H2 < μ x26r l26r c26r x27r H1) h (fun x27' h => h))))))))))))))))))))))))))))))))

theorem l09_LangAlgebra_43ok (nx131 : Int → HP) (Q : QT) (E : ET) (τ : Tau) (H : Heap) (h : l09_LangAlgebra_41_M nx131 Q E τ H) : vc Pr l09_LangAlgebra_p28 τ (l09_LangAlgebra_q8 nx131 Q E) E H :=
  (conv (B := vc Pr l09_LangAlgebra_p28 τ (l09_LangAlgebra_q8 nx131 Q E) E H) (by kernel_rfl) (l09_LangAlgebra_42ok nx131 Q E τ H h))

@[reducible] noncomputable def l09_LangAlgebra_q23 (nx131 : Int → HP) (Q : QT) (E : ET) : Exit → Tau → Heap → Prop := (xthen (l09_LangAlgebra_41_M nx131 Q E) (l09_LangAlgebra_q8 nx131 Q E))

@[reducible] noncomputable def l09_LangAlgebra_p51 : Code := sA l09_LangAlgebra_p27

def l09_LangAlgebra_44 (nx131 : Int → HP) (Q : QT) (E : ET) (x2 : OA) (l2 : Nat) (c2 : Nat) (x9 : OA) (l9 : Nat) (c9 : Nat) (x11 : OA) (l11 : Nat) (c11 : Nat) (x13 : OA) (l13 : Nat) (c13 : Nat) (x15 : OA) (l15 : Nat) (c15 : Nat) (x17 : OA) (l17 : Nat) (c17 : Nat) (x19 : OA) (l19 : Nat) (c19 : Nat) (x21 : Int) (x22 : OA) (l22 : Nat) (c22 : Nat) (x24 : OA) (l24 : Nat) (c24 : Nat) (x26 : OA) (l26 : Nat) (c26 : Nat) (H : Heap) : Prop :=
 l09_LangAlgebra_41 nx131 Q E x2 l2 c2 x9 l9 c9 x11 l11 c11 x13 l13 c13 x15 l15 c15 x17 l17 c17 x19 l19 c19 x21 x22 l22 c22 x24 l24 c24 x26 l26 c26 0 H

def l09_LangAlgebra_44_M (nx131 : Int → HP) (Q : QT) (E : ET) (τ : Tau) (H : Heap) : Prop := mSl (τ 2) fun x2 l2 c2 => mSl (τ 9) fun x9 l9 c9 => mSl (τ 11) fun x11 l11 c11 => mSl (τ 13) fun x13 l13 c13 => mSl (τ 15) fun x15 l15 c15 => mSl (τ 17) fun x17 l17 c17 => mSl (τ 19) fun x19 l19 c19 => mI .i64 (τ 21) fun x21 => mSl (τ 22) fun x22 l22 c22 => mSl (τ 24) fun x24 l24 c24 => mSl (τ 26) fun x26 l26 c26 => l09_LangAlgebra_44 nx131 Q E x2 l2 c2 x9 l9 c9 x11 l11 c11 x13 l13 c13 x15 l15 c15 x17 l17 c17 x19 l19 c19 x21 x22 l22 c22 x24 l24 c24 x26 l26 c26 H

theorem l09_LangAlgebra_45ok (nx131 : Int → HP) (Q : QT) (E : ET) (τ : Tau) (H : Heap) (h : l09_LangAlgebra_44_M nx131 Q E τ H) : vc Pr l09_LangAlgebra_p51 τ (l09_LangAlgebra_q23 nx131 Q E) E H :=
  vSl (i := 2) h (fun x2 l2 c2 h => vSl (i := 9) h (fun x9 l9 c9 h => vSl (i := 11) h (fun x11 l11 c11 h => vSl (i := 13) h (fun x13 l13 c13 h => vSl (i := 15) h (fun x15 l15 c15 h => vSl (i := 17) h (fun x17 l17 c17 h => vSl (i := 19) h (fun x19 l19 c19 h => vI (i := 21) h (fun x21 h => vSl (i := 22) h (fun x22 l22 c22 h => vSl (i := 24) h (fun x24 l24 c24 h => vSl (i := 26) h (fun x26 l26 c26 h => (conv (by kernel_rfl) h))))))))))))

theorem l09_LangAlgebra_46ok (nx131 : Int → HP) (Q : QT) (E : ET) (τ : Tau) (H : Heap) (h : l09_LangAlgebra_44_M nx131 Q E τ H) : vc Pr l09_LangAlgebra_p27 τ (l09_LangAlgebra_q8 nx131 Q E) E H :=
  (conv (B := vc Pr l09_LangAlgebra_p27 τ (l09_LangAlgebra_q8 nx131 Q E) E H) (by kernel_rfl) (vc_seq (K := (l09_LangAlgebra_41_M nx131 Q E)) (l09_LangAlgebra_45ok nx131 Q E τ H h) (l09_LangAlgebra_43ok nx131 Q E)))

theorem l09_LangAlgebra_47ok (nx131 : Int → HP) (Q : QT) (E : ET) (τ : Tau) (H : Heap) (h : l09_LangAlgebra_44_M nx131 Q E τ H) : vc Pr l09_LangAlgebra_p23 τ (l09_LangAlgebra_q6 nx131 Q E) E H :=
  (conv (B := vc Pr l09_LangAlgebra_p23 τ (l09_LangAlgebra_q6 nx131 Q E) E H) (by kernel_rfl) (vc_seq (K := (l09_LangAlgebra_7_M nx131 Q E)) (l09_LangAlgebra_46ok nx131 Q E τ H h) (l09_LangAlgebra_9ok nx131 Q E)))

@[reducible] noncomputable def l09_LangAlgebra_q24 (nx131 : Int → HP) (Q : QT) (E : ET) : Exit → Tau → Heap → Prop := (xthen (l09_LangAlgebra_44_M nx131 Q E) (l09_LangAlgebra_q6 nx131 Q E))

@[reducible] noncomputable def l09_LangAlgebra_p52 : Code := sA l09_LangAlgebra_p22

def l09_LangAlgebra_48 (nx131 : Int → HP) (Q : QT) (E : ET) (x2 : OA) (l2 : Nat) (c2 : Nat) (x9 : OA) (l9 : Nat) (c9 : Nat) (x11 : OA) (l11 : Nat) (c11 : Nat) (x13 : OA) (l13 : Nat) (c13 : Nat) (x15 : OA) (l15 : Nat) (c15 : Nat) (x17 : OA) (l17 : Nat) (c17 : Nat) (x19 : OA) (l19 : Nat) (c19 : Nat) (x21 : Int) (x22 : OA) (l22 : Nat) (c22 : Nat) (x24 : OA) (l24 : Nat) (c24 : Nat) (H : Heap) : Prop :=
 l09_LangAlgebra_44 nx131 Q E x2 l2 c2 x9 l9 c9 x11 l11 c11 x13 l13 c13 x15 l15 c15 x17 l17 c17 x19 l19 c19 x21 x22 l22 c22 x24 l24 c24 none 0 0 H

def l09_LangAlgebra_48_M (nx131 : Int → HP) (Q : QT) (E : ET) (τ : Tau) (H : Heap) : Prop := mSl (τ 2) fun x2 l2 c2 => mSl (τ 9) fun x9 l9 c9 => mSl (τ 11) fun x11 l11 c11 => mSl (τ 13) fun x13 l13 c13 => mSl (τ 15) fun x15 l15 c15 => mSl (τ 17) fun x17 l17 c17 => mSl (τ 19) fun x19 l19 c19 => mI .i64 (τ 21) fun x21 => mSl (τ 22) fun x22 l22 c22 => mSl (τ 24) fun x24 l24 c24 => l09_LangAlgebra_48 nx131 Q E x2 l2 c2 x9 l9 c9 x11 l11 c11 x13 l13 c13 x15 l15 c15 x17 l17 c17 x19 l19 c19 x21 x22 l22 c22 x24 l24 c24 H

theorem l09_LangAlgebra_49ok (nx131 : Int → HP) (Q : QT) (E : ET) (τ : Tau) (H : Heap) (h : l09_LangAlgebra_48_M nx131 Q E τ H) : vc Pr l09_LangAlgebra_p52 τ (l09_LangAlgebra_q24 nx131 Q E) E H :=
  vSl (i := 2) h (fun x2 l2 c2 h => vSl (i := 9) h (fun x9 l9 c9 h => vSl (i := 11) h (fun x11 l11 c11 h => vSl (i := 13) h (fun x13 l13 c13 h => vSl (i := 15) h (fun x15 l15 c15 h => vSl (i := 17) h (fun x17 l17 c17 h => vSl (i := 19) h (fun x19 l19 c19 h => vI (i := 21) h (fun x21 h => vSl (i := 22) h (fun x22 l22 c22 h => vSl (i := 24) h (fun x24 l24 c24 h => (conv (by kernel_rfl) h)))))))))))

theorem l09_LangAlgebra_50ok (nx131 : Int → HP) (Q : QT) (E : ET) (τ : Tau) (H : Heap) (h : l09_LangAlgebra_48_M nx131 Q E τ H) : vc Pr l09_LangAlgebra_p22 τ (l09_LangAlgebra_q6 nx131 Q E) E H :=
  (conv (B := vc Pr l09_LangAlgebra_p22 τ (l09_LangAlgebra_q6 nx131 Q E) E H) (by kernel_rfl) (vc_seq (K := (l09_LangAlgebra_44_M nx131 Q E)) (l09_LangAlgebra_49ok nx131 Q E τ H h) (l09_LangAlgebra_47ok nx131 Q E)))

@[reducible] noncomputable def l09_LangAlgebra_q25 (nx131 : Int → HP) (Q : QT) (E : ET) : Exit → Tau → Heap → Prop := (xthen (l09_LangAlgebra_48_M nx131 Q E) (l09_LangAlgebra_q6 nx131 Q E))

@[reducible] noncomputable def l09_LangAlgebra_p53 : Code := sA l09_LangAlgebra_p21

@[reducible] noncomputable def l09_LangAlgebra_p54 : Code := sB l09_LangAlgebra_p53

@[reducible] noncomputable def l09_LangAlgebra_q26 (nx131 : Int → HP) (Q : QT) (E : ET) : Exit → Tau → Heap → Prop := (xblock 2 (l09_LangAlgebra_q25 nx131 Q E))

@[reducible] noncomputable def l09_LangAlgebra_p55 : Code := sI l09_LangAlgebra_p54

@[reducible] noncomputable def l09_LangAlgebra_q27 (nx131 : Int → HP) (nx373 : Option Addr → Nat → Nat → Int → HP) (Q : QT) (E : ET) : Exit → Tau → Heap → Prop := (xthen (fun τ H => mSl (τ 24) fun x24' l24' c24' => mI .i64 (τ 25) fun x25' => nx373 x24' l24' c24' x25' H) (l09_LangAlgebra_q26 nx131 Q E))

@[reducible] noncomputable def l09_LangAlgebra_p56 : Code := sI l09_LangAlgebra_p55

@[reducible] noncomputable def l09_LangAlgebra_p57 : Code := sB l09_LangAlgebra_p56

@[reducible] noncomputable def l09_LangAlgebra_p58 : Code := sB l09_LangAlgebra_p57

def l09_LangAlgebra_51 (nx131 : Int → HP) (nx373 : Option Addr → Nat → Nat → Int → HP) (Q : QT) (E : ET) (x2 : OA) (l2 : Nat) (c2 : Nat) (x9 : OA) (l9 : Nat) (c9 : Nat) (x11 : OA) (l11 : Nat) (c11 : Nat) (x13 : OA) (l13 : Nat) (c13 : Nat) (x15 : OA) (l15 : Nat) (c15 : Nat) (x17 : OA) (l17 : Nat) (c17 : Nat) (x19 : OA) (l19 : Nat) (c19 : Nat) (x21 : Int) (x22 : OA) (l22 : Nat) (c22 : Nat) (x23 : OA) (l23 : Nat) (c23 : Nat) (x24 : OA) (l24 : Nat) (c24 : Nat) (x25 : Int) (H : Heap) : Prop :=
 nx373 x24 l24 c24 (IntKind.wrap .i64 (x25 + 1)) H

def l09_LangAlgebra_51_M (nx131 : Int → HP) (nx373 : Option Addr → Nat → Nat → Int → HP) (Q : QT) (E : ET) (τ : Tau) (H : Heap) : Prop := mSl (τ 2) fun x2 l2 c2 => mSl (τ 9) fun x9 l9 c9 => mSl (τ 11) fun x11 l11 c11 => mSl (τ 13) fun x13 l13 c13 => mSl (τ 15) fun x15 l15 c15 => mSl (τ 17) fun x17 l17 c17 => mSl (τ 19) fun x19 l19 c19 => mI .i64 (τ 21) fun x21 => mSl (τ 22) fun x22 l22 c22 => mSl (τ 23) fun x23 l23 c23 => mSl (τ 24) fun x24 l24 c24 => mI .i64 (τ 25) fun x25 => l09_LangAlgebra_51 nx131 nx373 Q E x2 l2 c2 x9 l9 c9 x11 l11 c11 x13 l13 c13 x15 l15 c15 x17 l17 c17 x19 l19 c19 x21 x22 l22 c22 x23 l23 c23 x24 l24 c24 x25 H

theorem l09_LangAlgebra_52ok (nx131 : Int → HP) (nx373 : Option Addr → Nat → Nat → Int → HP) (Q : QT) (E : ET) (τ : Tau) (H : Heap) (h : l09_LangAlgebra_51_M nx131 nx373 Q E τ H) : vc Pr l09_LangAlgebra_p58 τ (l09_LangAlgebra_q27 nx131 nx373 Q E) E H :=
  vSl (i := 2) h (fun x2 l2 c2 h => vSl (i := 9) h (fun x9 l9 c9 h => vSl (i := 11) h (fun x11 l11 c11 h => vSl (i := 13) h (fun x13 l13 c13 h => vSl (i := 15) h (fun x15 l15 c15 h => vSl (i := 17) h (fun x17 l17 c17 h => vSl (i := 19) h (fun x19 l19 c19 h => vI (i := 21) h (fun x21 h => vSl (i := 22) h (fun x22 l22 c22 h => vSl (i := 23) h (fun x23 l23 c23 h => vSl (i := 24) h (fun x24 l24 c24 h => vI (i := 25) h (fun x25 h => (conv (by kernel_rfl) h)))))))))))))

@[reducible] noncomputable def l09_LangAlgebra_q28 (nx131 : Int → HP) (nx373 : Option Addr → Nat → Nat → Int → HP) (Q : QT) (E : ET) : Exit → Tau → Heap → Prop := (xthen (l09_LangAlgebra_51_M nx131 nx373 Q E) (l09_LangAlgebra_q27 nx131 nx373 Q E))

@[reducible] noncomputable def l09_LangAlgebra_p59 : Code := sA l09_LangAlgebra_p57

@[reducible] noncomputable def l09_LangAlgebra_q29 (nx131 : Int → HP) (nx373 : Option Addr → Nat → Nat → Int → HP) (Q : QT) (E : ET) : Exit → Tau → Heap → Prop := (xblock 3 (l09_LangAlgebra_q28 nx131 nx373 Q E))

@[reducible] noncomputable def l09_LangAlgebra_p60 : Code := sI l09_LangAlgebra_p59

@[reducible] noncomputable def l09_LangAlgebra_p61 : Code := sB l09_LangAlgebra_p60

def l09_LangAlgebra_53 (nx131 : Int → HP) (nx373 : Option Addr → Nat → Nat → Int → HP) (Q : QT) (E : ET) (x2 : OA) (l2 : Nat) (c2 : Nat) (x9 : OA) (l9 : Nat) (c9 : Nat) (x11 : OA) (l11 : Nat) (c11 : Nat) (x13 : OA) (l13 : Nat) (c13 : Nat) (x15 : OA) (l15 : Nat) (c15 : Nat) (x17 : OA) (l17 : Nat) (c17 : Nat) (x19 : OA) (l19 : Nat) (c19 : Nat) (x21 : Int) (x22 : OA) (l22 : Nat) (c22 : Nat) (x23 : OA) (l23 : Nat) (c23 : Nat) (x24 : OA) (l24 : Nat) (c24 : Nat) (x25 : Int) (x117 : Bool) (H : Heap) : Prop :=
 sel x117
 (nw (.cells #[(.int .i64 x25)] 3 (0, 0)) H fun i392 H393 =>
 app Pr 22 x24 l24 c24 (.slice (some ⟨i392, 0, none⟩) 1 1) H393 fun p394 l395 c396 H397 =>
 l09_LangAlgebra_51 nx131 nx373 Q E x2 l2 c2 x9 l9 c9 x11 l11 c11 x13 l13 c13 x15 l15 c15 x17 l17 c17 x19 l19 c19 x21 x22 l22 c22 x23 l23 c23 p394 l395 c396 x25 H397)
 (l09_LangAlgebra_51 nx131 nx373 Q E x2 l2 c2 x9 l9 c9 x11 l11 c11 x13 l13 c13 x15 l15 c15 x17 l17 c17 x19 l19 c19 x21 x22 l22 c22 x23 l23 c23 x24 l24 c24 x25 H)

def l09_LangAlgebra_53_M (nx131 : Int → HP) (nx373 : Option Addr → Nat → Nat → Int → HP) (Q : QT) (E : ET) (τ : Tau) (H : Heap) : Prop := mSl (τ 2) fun x2 l2 c2 => mSl (τ 9) fun x9 l9 c9 => mSl (τ 11) fun x11 l11 c11 => mSl (τ 13) fun x13 l13 c13 => mSl (τ 15) fun x15 l15 c15 => mSl (τ 17) fun x17 l17 c17 => mSl (τ 19) fun x19 l19 c19 => mI .i64 (τ 21) fun x21 => mSl (τ 22) fun x22 l22 c22 => mSl (τ 23) fun x23 l23 c23 => mSl (τ 24) fun x24 l24 c24 => mI .i64 (τ 25) fun x25 => mB (τ 117) fun x117 => l09_LangAlgebra_53 nx131 nx373 Q E x2 l2 c2 x9 l9 c9 x11 l11 c11 x13 l13 c13 x15 l15 c15 x17 l17 c17 x19 l19 c19 x21 x22 l22 c22 x23 l23 c23 x24 l24 c24 x25 x117 H

theorem l09_LangAlgebra_54ok (nx131 : Int → HP) (nx373 : Option Addr → Nat → Nat → Int → HP) (Q : QT) (E : ET) (τ : Tau) (H : Heap) (h : l09_LangAlgebra_53_M nx131 nx373 Q E τ H) : vc Pr l09_LangAlgebra_p61 τ (l09_LangAlgebra_q29 nx131 nx373 Q E) E H :=
  vSl (i := 2) h (fun x2 l2 c2 h => vSl (i := 9) h (fun x9 l9 c9 h => vSl (i := 11) h (fun x11 l11 c11 h => vSl (i := 13) h (fun x13 l13 c13 h => vSl (i := 15) h (fun x15 l15 c15 h => vSl (i := 17) h (fun x17 l17 c17 h => vSl (i := 19) h (fun x19 l19 c19 h => vI (i := 21) h (fun x21 h => vSl (i := 22) h (fun x22 l22 c22 h => vSl (i := 23) h (fun x23 l23 c23 h => vSl (i := 24) h (fun x24 l24 c24 h => vI (i := 25) h (fun x25 h => vB (i := 117) h (fun x117 h => (conv (by kernel_rfl) h))))))))))))))

@[reducible] noncomputable def l09_LangAlgebra_q30 (nx131 : Int → HP) (nx373 : Option Addr → Nat → Nat → Int → HP) (Q : QT) (E : ET) : Exit → Tau → Heap → Prop := (xthen (l09_LangAlgebra_53_M nx131 nx373 Q E) (l09_LangAlgebra_q29 nx131 nx373 Q E))

@[reducible] noncomputable def l09_LangAlgebra_p62 : Code := sA l09_LangAlgebra_p60

def l09_LangAlgebra_55 (nx131 : Int → HP) (nx373 : Option Addr → Nat → Nat → Int → HP) (Q : QT) (E : ET) (x2 : OA) (l2 : Nat) (c2 : Nat) (x9 : OA) (l9 : Nat) (c9 : Nat) (x11 : OA) (l11 : Nat) (c11 : Nat) (x13 : OA) (l13 : Nat) (c13 : Nat) (x15 : OA) (l15 : Nat) (c15 : Nat) (x17 : OA) (l17 : Nat) (c17 : Nat) (x19 : OA) (l19 : Nat) (c19 : Nat) (x21 : Int) (x22 : OA) (l22 : Nat) (c22 : Nat) (x23 : OA) (l23 : Nat) (c23 : Nat) (x24 : OA) (l24 : Nat) (c24 : Nat) (x25 : Int) (H : Heap) : Prop :=
 Does Pr 25 #[(.slice x22 l22 c22), (.int .i64 x25)] H (fun v398 H399 =>
 ∃ b400 : Bool, v398 = (.bool b400) ∧ sel b400
 (l09_LangAlgebra_53 nx131 nx373 Q E x2 l2 c2 x9 l9 c9 x11 l11 c11 x13 l13 c13 x15 l15 c15 x17 l17 c17 x19 l19 c19 x21 x22 l22 c22 x23 l23 c23 x24 l24 c24 x25 true H399)
 (Does Pr 25 #[(.slice x23 l23 c23), (.int .i64 x25)] H399 (fun v401 H402 =>
 ∃ b403 : Bool, v401 = (.bool b403) ∧ l09_LangAlgebra_53 nx131 nx373 Q E x2 l2 c2 x9 l9 c9 x11 l11 c11 x13 l13 c13 x15 l15 c15 x17 l17 c17 x19 l19 c19 x21 x22 l22 c22 x23 l23 c23 x24 l24 c24 x25 b403 H402) E)) E

def l09_LangAlgebra_55_M (nx131 : Int → HP) (nx373 : Option Addr → Nat → Nat → Int → HP) (Q : QT) (E : ET) (τ : Tau) (H : Heap) : Prop := mSl (τ 2) fun x2 l2 c2 => mSl (τ 9) fun x9 l9 c9 => mSl (τ 11) fun x11 l11 c11 => mSl (τ 13) fun x13 l13 c13 => mSl (τ 15) fun x15 l15 c15 => mSl (τ 17) fun x17 l17 c17 => mSl (τ 19) fun x19 l19 c19 => mI .i64 (τ 21) fun x21 => mSl (τ 22) fun x22 l22 c22 => mSl (τ 23) fun x23 l23 c23 => mSl (τ 24) fun x24 l24 c24 => mI .i64 (τ 25) fun x25 => l09_LangAlgebra_55 nx131 nx373 Q E x2 l2 c2 x9 l9 c9 x11 l11 c11 x13 l13 c13 x15 l15 c15 x17 l17 c17 x19 l19 c19 x21 x22 l22 c22 x23 l23 c23 x24 l24 c24 x25 H

theorem l09_LangAlgebra_56ok (nx131 : Int → HP) (nx373 : Option Addr → Nat → Nat → Int → HP) (Q : QT) (E : ET) (τ : Tau) (H : Heap) (h : l09_LangAlgebra_55_M nx131 nx373 Q E τ H) : vc Pr l09_LangAlgebra_p62 τ (l09_LangAlgebra_q30 nx131 nx373 Q E) E H :=
  vSl (i := 2) h (fun x2 l2 c2 h => vSl (i := 9) h (fun x9 l9 c9 h => vSl (i := 11) h (fun x11 l11 c11 h => vSl (i := 13) h (fun x13 l13 c13 h => vSl (i := 15) h (fun x15 l15 c15 h => vSl (i := 17) h (fun x17 l17 c17 h => vSl (i := 19) h (fun x19 l19 c19 h => vI (i := 21) h (fun x21 h => vSl (i := 22) h (fun x22 l22 c22 h => vSl (i := 23) h (fun x23 l23 c23 h => vSl (i := 24) h (fun x24 l24 c24 h => vI (i := 25) h (fun x25 h => (conv (by kernel_rfl) h)))))))))))))

theorem l09_LangAlgebra_57ok (nx131 : Int → HP) (nx373 : Option Addr → Nat → Nat → Int → HP) (Q : QT) (E : ET) (τ : Tau) (H : Heap) (h : l09_LangAlgebra_55_M nx131 nx373 Q E τ H) : vc Pr l09_LangAlgebra_p60 τ (l09_LangAlgebra_q29 nx131 nx373 Q E) E H :=
  (conv (B := vc Pr l09_LangAlgebra_p60 τ (l09_LangAlgebra_q29 nx131 nx373 Q E) E H) (by kernel_rfl) (vc_seq (K := (l09_LangAlgebra_53_M nx131 nx373 Q E)) (l09_LangAlgebra_56ok nx131 nx373 Q E τ H h) (l09_LangAlgebra_54ok nx131 nx373 Q E)))

theorem l09_LangAlgebra_58ok (nx131 : Int → HP) (nx373 : Option Addr → Nat → Nat → Int → HP) (Q : QT) (E : ET) (τ : Tau) (H : Heap) (h : l09_LangAlgebra_55_M nx131 nx373 Q E τ H) : vc Pr l09_LangAlgebra_p59 τ (l09_LangAlgebra_q28 nx131 nx373 Q E) E H :=
  (conv (B := vc Pr l09_LangAlgebra_p59 τ (l09_LangAlgebra_q28 nx131 nx373 Q E) E H) (by kernel_rfl) (l09_LangAlgebra_57ok nx131 nx373 Q E τ H h))

theorem l09_LangAlgebra_59ok (nx131 : Int → HP) (nx373 : Option Addr → Nat → Nat → Int → HP) (Q : QT) (E : ET) (τ : Tau) (H : Heap) (h : l09_LangAlgebra_55_M nx131 nx373 Q E τ H) : vc Pr l09_LangAlgebra_p57 τ (l09_LangAlgebra_q27 nx131 nx373 Q E) E H :=
  (conv (B := vc Pr l09_LangAlgebra_p57 τ (l09_LangAlgebra_q27 nx131 nx373 Q E) E H) (by kernel_rfl) (vc_seq (K := (l09_LangAlgebra_51_M nx131 nx373 Q E)) (l09_LangAlgebra_58ok nx131 nx373 Q E τ H h) (l09_LangAlgebra_52ok nx131 nx373 Q E)))

@[reducible] noncomputable def l09_LangAlgebra_q31 (nx131 : Int → HP) (nx373 : Option Addr → Nat → Nat → Int → HP) (Q : QT) (E : ET) : Exit → Tau → Heap → Prop := (xthen (l09_LangAlgebra_55_M nx131 nx373 Q E) (l09_LangAlgebra_q27 nx131 nx373 Q E))

@[reducible] noncomputable def l09_LangAlgebra_p63 : Code := sA l09_LangAlgebra_p56

def l09_LangAlgebra_60 (nx131 : Int → HP) (nx373 : Option Addr → Nat → Nat → Int → HP) (Q : QT) (E : ET) (x2 : OA) (l2 : Nat) (c2 : Nat) (x9 : OA) (l9 : Nat) (c9 : Nat) (x11 : OA) (l11 : Nat) (c11 : Nat) (x13 : OA) (l13 : Nat) (c13 : Nat) (x15 : OA) (l15 : Nat) (c15 : Nat) (x17 : OA) (l17 : Nat) (c17 : Nat) (x19 : OA) (l19 : Nat) (c19 : Nat) (x21 : Int) (x22 : OA) (l22 : Nat) (c22 : Nat) (x23 : OA) (l23 : Nat) (c23 : Nat) (x24 : OA) (l24 : Nat) (c24 : Nat) (x25 : Int) (H : Heap) : Prop :=
 sel (decide ((x25 : Int) ≤ ((l2 : Nat) : Int)))
 (l09_LangAlgebra_55 nx131 nx373 Q E x2 l2 c2 x9 l9 c9 x11 l11 c11 x13 l13 c13 x15 l15 c15 x17 l17 c17 x19 l19 c19 x21 x22 l22 c22 x23 l23 c23 x24 l24 c24 x25 H)
 (l09_LangAlgebra_48 nx131 Q E x2 l2 c2 x9 l9 c9 x11 l11 c11 x13 l13 c13 x15 l15 c15 x17 l17 c17 x19 l19 c19 x21 x22 l22 c22 x24 l24 c24 H)

def l09_LangAlgebra_60_M (nx131 : Int → HP) (nx373 : Option Addr → Nat → Nat → Int → HP) (Q : QT) (E : ET) (τ : Tau) (H : Heap) : Prop := mSl (τ 2) fun x2 l2 c2 => mSl (τ 9) fun x9 l9 c9 => mSl (τ 11) fun x11 l11 c11 => mSl (τ 13) fun x13 l13 c13 => mSl (τ 15) fun x15 l15 c15 => mSl (τ 17) fun x17 l17 c17 => mSl (τ 19) fun x19 l19 c19 => mI .i64 (τ 21) fun x21 => mSl (τ 22) fun x22 l22 c22 => mSl (τ 23) fun x23 l23 c23 => mSl (τ 24) fun x24 l24 c24 => mI .i64 (τ 25) fun x25 => l09_LangAlgebra_60 nx131 nx373 Q E x2 l2 c2 x9 l9 c9 x11 l11 c11 x13 l13 c13 x15 l15 c15 x17 l17 c17 x19 l19 c19 x21 x22 l22 c22 x23 l23 c23 x24 l24 c24 x25 H

theorem l09_LangAlgebra_61ok (nx131 : Int → HP) (nx373 : Option Addr → Nat → Nat → Int → HP) (Q : QT) (E : ET) (τ : Tau) (H : Heap) (h : l09_LangAlgebra_60_M nx131 nx373 Q E τ H) : vc Pr l09_LangAlgebra_p63 τ (l09_LangAlgebra_q31 nx131 nx373 Q E) E H :=
  vSl (i := 2) h (fun x2 l2 c2 h => vSl (i := 9) h (fun x9 l9 c9 h => vSl (i := 11) h (fun x11 l11 c11 h => vSl (i := 13) h (fun x13 l13 c13 h => vSl (i := 15) h (fun x15 l15 c15 h => vSl (i := 17) h (fun x17 l17 c17 h => vSl (i := 19) h (fun x19 l19 c19 h => vI (i := 21) h (fun x21 h => vSl (i := 22) h (fun x22 l22 c22 h => vSl (i := 23) h (fun x23 l23 c23 h => vSl (i := 24) h (fun x24 l24 c24 h => vI (i := 25) h (fun x25 h => (conv (by kernel_rfl) h)))))))))))))

theorem l09_LangAlgebra_62ok (nx131 : Int → HP) (nx373 : Option Addr → Nat → Nat → Int → HP) (Q : QT) (E : ET) (τ : Tau) (H : Heap) (h : l09_LangAlgebra_60_M nx131 nx373 Q E τ H) : vc Pr l09_LangAlgebra_p56 τ (l09_LangAlgebra_q27 nx131 nx373 Q E) E H :=
  (conv (B := vc Pr l09_LangAlgebra_p56 τ (l09_LangAlgebra_q27 nx131 nx373 Q E) E H) (by kernel_rfl) (vc_seq (K := (l09_LangAlgebra_55_M nx131 nx373 Q E)) (l09_LangAlgebra_61ok nx131 nx373 Q E τ H h) (l09_LangAlgebra_59ok nx131 nx373 Q E)))

def l09_LangAlgebra_63 (nx131 : Int → HP) (Q : QT) (E : ET) (x2 : OA) (l2 : Nat) (c2 : Nat) (x9 : OA) (l9 : Nat) (c9 : Nat) (x11 : OA) (l11 : Nat) (c11 : Nat) (x13 : OA) (l13 : Nat) (c13 : Nat) (x15 : OA) (l15 : Nat) (c15 : Nat) (x17 : OA) (l17 : Nat) (c17 : Nat) (x19 : OA) (l19 : Nat) (c19 : Nat) (x21 : Int) (x22 : OA) (l22 : Nat) (c22 : Nat) (x23 : OA) (l23 : Nat) (c23 : Nat) (x24 : OA) (l24 : Nat) (c24 : Nat) (x25 : Int) (H : Heap) : Prop :=
 ∃ (I : Option Addr → Nat → Nat → Int → HP) (μ : Option Addr → Nat → Nat → Int → Heap → Nat), I x24 l24 c24 x25 H ∧ ∀ (x24 : OA) (l24 : Nat) (c24 : Nat) (x25 : Int) (H : Heap), I x24 l24 c24 x25 H →
 l09_LangAlgebra_60 nx131 (fun x24' l24' c24' x25' H1 => I x24' l24' c24' x25' H1 ∧ μ x24' l24' c24' x25' H1 < μ x24 l24 c24 x25 H) Q E x2 l2 c2 x9 l9 c9 x11 l11 c11 x13 l13 c13 x15 l15 c15 x17 l17 c17 x19 l19 c19 x21 x22 l22 c22 x23 l23 c23 x24 l24 c24 x25 H

def l09_LangAlgebra_63_M (nx131 : Int → HP) (Q : QT) (E : ET) (τ : Tau) (H : Heap) : Prop := mSl (τ 2) fun x2 l2 c2 => mSl (τ 9) fun x9 l9 c9 => mSl (τ 11) fun x11 l11 c11 => mSl (τ 13) fun x13 l13 c13 => mSl (τ 15) fun x15 l15 c15 => mSl (τ 17) fun x17 l17 c17 => mSl (τ 19) fun x19 l19 c19 => mI .i64 (τ 21) fun x21 => mSl (τ 22) fun x22 l22 c22 => mSl (τ 23) fun x23 l23 c23 => mSl (τ 24) fun x24 l24 c24 => mI .i64 (τ 25) fun x25 => l09_LangAlgebra_63 nx131 Q E x2 l2 c2 x9 l9 c9 x11 l11 c11 x13 l13 c13 x15 l15 c15 x17 l17 c17 x19 l19 c19 x21 x22 l22 c22 x23 l23 c23 x24 l24 c24 x25 H

theorem l09_LangAlgebra_64ok (nx131 : Int → HP) (Q : QT) (E : ET) (τ : Tau) (H : Heap) (h : l09_LangAlgebra_63_M nx131 Q E τ H) : vc Pr l09_LangAlgebra_p55 τ (l09_LangAlgebra_q26 nx131 Q E) E H :=
  vSl (i := 2) h (fun x2 l2 c2 h => vSl (i := 9) h (fun x9 l9 c9 h => vSl (i := 11) h (fun x11 l11 c11 h => vSl (i := 13) h (fun x13 l13 c13 h => vSl (i := 15) h (fun x15 l15 c15 h => vSl (i := 17) h (fun x17 l17 c17 h => vSl (i := 19) h (fun x19 l19 c19 h => vI (i := 21) h (fun x21 h => vSl (i := 22) h (fun x22 l22 c22 h => vSl (i := 23) h (fun x23 l23 c23 h => vSl (i := 24) h (fun x24 l24 c24 h => vI (i := 25) h (fun x25 h => match h with | ⟨I, μ, h0, hr⟩ => (conv (B := vc Pr l09_LangAlgebra_p55 (Tau.upd (Tau.upd (Tau.upd (Tau.upd (Tau.upd (Tau.upd (Tau.upd (Tau.upd (Tau.upd (Tau.upd (Tau.upd (Tau.upd τ 2 (.slice x2 l2 c2)) 9 (.slice x9 l9 c9)) 11 (.slice x11 l11 c11)) 13 (.slice x13 l13 c13)) 15 (.slice x15 l15 c15)) 17 (.slice x17 l17 c17)) 19 (.slice x19 l19 c19)) 21 (.int .i64 x21)) 22 (.slice x22 l22 c22)) 23 (.slice x23 l23 c23)) 24 (.slice x24 l24 c24)) 25 (.int .i64 x25)) (l09_LangAlgebra_q26 nx131 Q E) E H) (by kernel_rfl) (vc_loop (c := sI l09_LangAlgebra_p55) (τ := (Tau.upd (Tau.upd (Tau.upd (Tau.upd (Tau.upd (Tau.upd (Tau.upd (Tau.upd (Tau.upd (Tau.upd (Tau.upd (Tau.upd τ 2 (.slice x2 l2 c2)) 9 (.slice x9 l9 c9)) 11 (.slice x11 l11 c11)) 13 (.slice x13 l13 c13)) 15 (.slice x15 l15 c15)) 17 (.slice x17 l17 c17)) 19 (.slice x19 l19 c19)) 21 (.int .i64 x21)) 22 (.slice x22 l22 c22)) 23 (.slice x23 l23 c23)) 24 (.slice x24 l24 c24)) 25 (.int .i64 x25))) [2, 9, 11, 13, 15, 17, 19, 21, 22, 23] (fun τ H => mSl (τ 24) fun x24' l24' c24' => mI .i64 (τ 25) fun x25' => I x24' l24' c24' x25' H) (fun τ H => μ (gL1 (τ 24)) (gL2 (τ 24)) (gL3 (τ 24)) (gI (τ 25)) H) (by kernel_rfl) h0 (fun τ1 H1 hf hI => fix_elim (τ := τ1) (i := 2) (v := (.slice x2 l2 c2)) (G := fun τ => vc Pr (sI l09_LangAlgebra_p55) τ (xthen (fun τ2 H2 => (mSl (τ2 24) fun x24' l24' c24' => mI .i64 (τ2 25) fun x25' => I x24' l24' c24' x25' H2) ∧ μ (gL1 (τ2 24)) (gL2 (τ2 24)) (gL3 (τ2 24)) (gI (τ2 25)) H2 < μ (gL1 (τ 24)) (gL2 (τ 24)) (gL3 (τ 24)) (gI (τ 25)) H1) (l09_LangAlgebra_q26 nx131 Q E)) E H1) (hf 2 (by simp)) (fix_elim (τ := (Tau.upd τ1 2 (.slice x2 l2 c2))) (i := 9) (v := (.slice x9 l9 c9)) (G := fun τ => vc Pr (sI l09_LangAlgebra_p55) τ (xthen (fun τ2 H2 => (mSl (τ2 24) fun x24' l24' c24' => mI .i64 (τ2 25) fun x25' => I x24' l24' c24' x25' H2) ∧ μ (gL1 (τ2 24)) (gL2 (τ2 24)) (gL3 (τ2 24)) (gI (τ2 25)) H2 < μ (gL1 (τ 24)) (gL2 (τ 24)) (gL3 (τ 24)) (gI (τ 25)) H1) (l09_LangAlgebra_q26 nx131 Q E)) E H1) (hf 9 (by simp)) (fix_elim (τ := (Tau.upd (Tau.upd τ1 2 (.slice x2 l2 c2)) 9 (.slice x9 l9 c9))) (i := 11) (v := (.slice x11 l11 c11)) (G := fun τ => vc Pr (sI l09_LangAlgebra_p55) τ (xthen (fun τ2 H2 => (mSl (τ2 24) fun x24' l24' c24' => mI .i64 (τ2 25) fun x25' => I x24' l24' c24' x25' H2) ∧ μ (gL1 (τ2 24)) (gL2 (τ2 24)) (gL3 (τ2 24)) (gI (τ2 25)) H2 < μ (gL1 (τ 24)) (gL2 (τ 24)) (gL3 (τ 24)) (gI (τ 25)) H1) (l09_LangAlgebra_q26 nx131 Q E)) E H1) (hf 11 (by simp)) (fix_elim (τ := (Tau.upd (Tau.upd (Tau.upd τ1 2 (.slice x2 l2 c2)) 9 (.slice x9 l9 c9)) 11 (.slice x11 l11 c11))) (i := 13) (v := (.slice x13 l13 c13)) (G := fun τ => vc Pr (sI l09_LangAlgebra_p55) τ (xthen (fun τ2 H2 => (mSl (τ2 24) fun x24' l24' c24' => mI .i64 (τ2 25) fun x25' => I x24' l24' c24' x25' H2) ∧ μ (gL1 (τ2 24)) (gL2 (τ2 24)) (gL3 (τ2 24)) (gI (τ2 25)) H2 < μ (gL1 (τ 24)) (gL2 (τ 24)) (gL3 (τ 24)) (gI (τ 25)) H1) (l09_LangAlgebra_q26 nx131 Q E)) E H1) (hf 13 (by simp)) (fix_elim (τ := (Tau.upd (Tau.upd (Tau.upd (Tau.upd τ1 2 (.slice x2 l2 c2)) 9 (.slice x9 l9 c9)) 11 (.slice x11 l11 c11)) 13 (.slice x13 l13 c13))) (i := 15) (v := (.slice x15 l15 c15)) (G := fun τ => vc Pr (sI l09_LangAlgebra_p55) τ (xthen (fun τ2 H2 => (mSl (τ2 24) fun x24' l24' c24' => mI .i64 (τ2 25) fun x25' => I x24' l24' c24' x25' H2) ∧ μ (gL1 (τ2 24)) (gL2 (τ2 24)) (gL3 (τ2 24)) (gI (τ2 25)) H2 < μ (gL1 (τ 24)) (gL2 (τ 24)) (gL3 (τ 24)) (gI (τ 25)) H1) (l09_LangAlgebra_q26 nx131 Q E)) E H1) (hf 15 (by simp)) (fix_elim (τ := (Tau.upd (Tau.upd (Tau.upd (Tau.upd (Tau.upd τ1 2 (.slice x2 l2 c2)) 9 (.slice x9 l9 c9)) 11 (.slice x11 l11 c11)) 13 (.slice x13 l13 c13)) 15 (.slice x15 l15 c15))) (i := 17) (v := (.slice x17 l17 c17)) (G := fun τ => vc Pr (sI l09_LangAlgebra_p55) τ (xthen (fun τ2 H2 => (mSl (τ2 24) fun x24' l24' c24' => mI .i64 (τ2 25) fun x25' => I x24' l24' c24' x25' H2) ∧ μ (gL1 (τ2 24)) (gL2 (τ2 24)) (gL3 (τ2 24)) (gI (τ2 25)) H2 < μ (gL1 (τ 24)) (gL2 (τ 24)) (gL3 (τ 24)) (gI (τ 25)) H1) (l09_LangAlgebra_q26 nx131 Q E)) E H1) (hf 17 (by simp)) (fix_elim (τ := (Tau.upd (Tau.upd (Tau.upd (Tau.upd (Tau.upd (Tau.upd τ1 2 (.slice x2 l2 c2)) 9 (.slice x9 l9 c9)) 11 (.slice x11 l11 c11)) 13 (.slice x13 l13 c13)) 15 (.slice x15 l15 c15)) 17 (.slice x17 l17 c17))) (i := 19) (v := (.slice x19 l19 c19)) (G := fun τ => vc Pr (sI l09_LangAlgebra_p55) τ (xthen (fun τ2 H2 => (mSl (τ2 24) fun x24' l24' c24' => mI .i64 (τ2 25) fun x25' => I x24' l24' c24' x25' H2) ∧ μ (gL1 (τ2 24)) (gL2 (τ2 24)) (gL3 (τ2 24)) (gI (τ2 25)) H2 < μ (gL1 (τ 24)) (gL2 (τ 24)) (gL3 (τ 24)) (gI (τ 25)) H1) (l09_LangAlgebra_q26 nx131 Q E)) E H1) (hf 19 (by simp)) (fix_elim (τ := (Tau.upd (Tau.upd (Tau.upd (Tau.upd (Tau.upd (Tau.upd (Tau.upd τ1 2 (.slice x2 l2 c2)) 9 (.slice x9 l9 c9)) 11 (.slice x11 l11 c11)) 13 (.slice x13 l13 c13)) 15 (.slice x15 l15 c15)) 17 (.slice x17 l17 c17)) 19 (.slice x19 l19 c19))) (i := 21) (v := (.int .i64 x21)) (G := fun τ => vc Pr (sI l09_LangAlgebra_p55) τ (xthen (fun τ2 H2 => (mSl (τ2 24) fun x24' l24' c24' => mI .i64 (τ2 25) fun x25' => I x24' l24' c24' x25' H2) ∧ μ (gL1 (τ2 24)) (gL2 (τ2 24)) (gL3 (τ2 24)) (gI (τ2 25)) H2 < μ (gL1 (τ 24)) (gL2 (τ 24)) (gL3 (τ 24)) (gI (τ 25)) H1) (l09_LangAlgebra_q26 nx131 Q E)) E H1) (hf 21 (by simp)) (fix_elim (τ := (Tau.upd (Tau.upd (Tau.upd (Tau.upd (Tau.upd (Tau.upd (Tau.upd (Tau.upd τ1 2 (.slice x2 l2 c2)) 9 (.slice x9 l9 c9)) 11 (.slice x11 l11 c11)) 13 (.slice x13 l13 c13)) 15 (.slice x15 l15 c15)) 17 (.slice x17 l17 c17)) 19 (.slice x19 l19 c19)) 21 (.int .i64 x21))) (i := 22) (v := (.slice x22 l22 c22)) (G := fun τ => vc Pr (sI l09_LangAlgebra_p55) τ (xthen (fun τ2 H2 => (mSl (τ2 24) fun x24' l24' c24' => mI .i64 (τ2 25) fun x25' => I x24' l24' c24' x25' H2) ∧ μ (gL1 (τ2 24)) (gL2 (τ2 24)) (gL3 (τ2 24)) (gI (τ2 25)) H2 < μ (gL1 (τ 24)) (gL2 (τ 24)) (gL3 (τ 24)) (gI (τ 25)) H1) (l09_LangAlgebra_q26 nx131 Q E)) E H1) (hf 22 (by simp)) (fix_elim (τ := (Tau.upd (Tau.upd (Tau.upd (Tau.upd (Tau.upd (Tau.upd (Tau.upd (Tau.upd (Tau.upd τ1 2 (.slice x2 l2 c2)) 9 (.slice x9 l9 c9)) 11 (.slice x11 l11 c11)) 13 (.slice x13 l13 c13)) 15 (.slice x15 l15 c15)) 17 (.slice x17 l17 c17)) 19 (.slice x19 l19 c19)) 21 (.int .i64 x21)) 22 (.slice x22 l22 c22))) (i := 23) (v := (.slice x23 l23 c23)) (G := fun τ => vc Pr (sI l09_LangAlgebra_p55) τ (xthen (fun τ2 H2 => (mSl (τ2 24) fun x24' l24' c24' => mI .i64 (τ2 25) fun x25' => I x24' l24' c24' x25' H2) ∧ μ (gL1 (τ2 24)) (gL2 (τ2 24)) (gL3 (τ2 24)) (gI (τ2 25)) H2 < μ (gL1 (τ 24)) (gL2 (τ 24)) (gL3 (τ 24)) (gI (τ 25)) H1) (l09_LangAlgebra_q26 nx131 Q E)) E H1) (hf 23 (by simp)) (mSl_elim (i := 24) (G := fun τ => vc Pr (sI l09_LangAlgebra_p55) τ (xthen (fun τ2 H2 => (mSl (τ2 24) fun x24' l24' c24' => mI .i64 (τ2 25) fun x25' => I x24' l24' c24' x25' H2) ∧ μ (gL1 (τ2 24)) (gL2 (τ2 24)) (gL3 (τ2 24)) (gI (τ2 25)) H2 < μ (gL1 (τ 24)) (gL2 (τ 24)) (gL3 (τ 24)) (gI (τ 25)) H1) (l09_LangAlgebra_q26 nx131 Q E)) E H1) hI (fun x24r l24r c24r h => mI_elim (i := 25) (G := fun τ => vc Pr (sI l09_LangAlgebra_p55) τ (xthen (fun τ2 H2 => (mSl (τ2 24) fun x24' l24' c24' => mI .i64 (τ2 25) fun x25' => I x24' l24' c24' x25' H2) ∧ μ (gL1 (τ2 24)) (gL2 (τ2 24)) (gL3 (τ2 24)) (gI (τ2 25)) H2 < μ (gL1 (τ 24)) (gL2 (τ 24)) (gL3 (τ 24)) (gI (τ 25)) H1) (l09_LangAlgebra_q26 nx131 Q E)) E H1) h (fun x25r h => (conv (B := vc Pr (sI l09_LangAlgebra_p55) (Tau.upd (Tau.upd (Tau.upd (Tau.upd (Tau.upd (Tau.upd (Tau.upd (Tau.upd (Tau.upd (Tau.upd (Tau.upd (Tau.upd τ1 2 (.slice x2 l2 c2)) 9 (.slice x9 l9 c9)) 11 (.slice x11 l11 c11)) 13 (.slice x13 l13 c13)) 15 (.slice x15 l15 c15)) 17 (.slice x17 l17 c17)) 19 (.slice x19 l19 c19)) 21 (.int .i64 x21)) 22 (.slice x22 l22 c22)) 23 (.slice x23 l23 c23)) 24 (.slice x24r l24r c24r)) 25 (.int .i64 x25r)) (xthen (fun τ2 H2 => (mSl (τ2 24) fun x24' l24' c24' => mI .i64 (τ2 25) fun x25' => I x24' l24' c24' x25' H2) ∧ μ (gL1 (τ2 24)) (gL2 (τ2 24)) (gL3 (τ2 24)) (gI (τ2 25)) H2 < μ (gL1 ((Tau.upd (Tau.upd (Tau.upd (Tau.upd (Tau.upd (Tau.upd (Tau.upd (Tau.upd (Tau.upd (Tau.upd (Tau.upd (Tau.upd τ1 2 (.slice x2 l2 c2)) 9 (.slice x9 l9 c9)) 11 (.slice x11 l11 c11)) 13 (.slice x13 l13 c13)) 15 (.slice x15 l15 c15)) 17 (.slice x17 l17 c17)) 19 (.slice x19 l19 c19)) 21 (.int .i64 x21)) 22 (.slice x22 l22 c22)) 23 (.slice x23 l23 c23)) 24 (.slice x24r l24r c24r)) 25 (.int .i64 x25r)) 24)) (gL2 ((Tau.upd (Tau.upd (Tau.upd (Tau.upd (Tau.upd (Tau.upd (Tau.upd (Tau.upd (Tau.upd (Tau.upd (Tau.upd (Tau.upd τ1 2 (.slice x2 l2 c2)) 9 (.slice x9 l9 c9)) 11 (.slice x11 l11 c11)) 13 (.slice x13 l13 c13)) 15 (.slice x15 l15 c15)) 17 (.slice x17 l17 c17)) 19 (.slice x19 l19 c19)) 21 (.int .i64 x21)) 22 (.slice x22 l22 c22)) 23 (.slice x23 l23 c23)) 24 (.slice x24r l24r c24r)) 25 (.int .i64 x25r)) 24)) (gL3 ((Tau.upd (Tau.upd (Tau.upd (Tau.upd (Tau.upd (Tau.upd (Tau.upd (Tau.upd (Tau.upd (Tau.upd (Tau.upd (Tau.upd τ1 2 (.slice x2 l2 c2)) 9 (.slice x9 l9 c9)) 11 (.slice x11 l11 c11)) 13 (.slice x13 l13 c13)) 15 (.slice x15 l15 c15)) 17 (.slice x17 l17 c17)) 19 (.slice x19 l19 c19)) 21 (.int .i64 x21)) 22 (.slice x22 l22 c22)) 23 (.slice x23 l23 c23)) 24 (.slice x24r l24r c24r)) 25 (.int .i64 x25r)) 24)) (gI ((Tau.upd (Tau.upd (Tau.upd (Tau.upd (Tau.upd (Tau.upd (Tau.upd (Tau.upd (Tau.upd (Tau.upd (Tau.upd (Tau.upd τ1 2 (.slice x2 l2 c2)) 9 (.slice x9 l9 c9)) 11 (.slice x11 l11 c11)) 13 (.slice x13 l13 c13)) 15 (.slice x15 l15 c15)) 17 (.slice x17 l17 c17)) 19 (.slice x19 l19 c19)) 21 (.int .i64 x21)) 22 (.slice x22 l22 c22)) 23 (.slice x23 l23 c23)) 24 (.slice x24r l24r c24r)) 25 (.int .i64 x25r)) 25)) H1) (l09_LangAlgebra_q26 nx131 Q E)) E H1) (by kernel_rfl) (vc_xthen (l09_LangAlgebra_62ok nx131 (fun x24' l24' c24' x25' H2 => I x24' l24' c24' x25' H2 ∧ μ x24' l24' c24' x25' H2 < μ x24r l24r c24r x25r H1) Q E (Tau.upd (Tau.upd (Tau.upd (Tau.upd (Tau.upd (Tau.upd (Tau.upd (Tau.upd (Tau.upd (Tau.upd (Tau.upd (Tau.upd τ1 2 (.slice x2 l2 c2)) 9 (.slice x9 l9 c9)) 11 (.slice x11 l11 c11)) 13 (.slice x13 l13 c13)) 15 (.slice x15 l15 c15)) 17 (.slice x17 l17 c17)) 19 (.slice x19 l19 c19)) 21 (.int .i64 x21)) 22 (.slice x22 l22 c22)) 23 (.slice x23 l23 c23)) 24 (.slice x24r l24r c24r)) 25 (.int .i64 x25r)) H1 (conv (B := l09_LangAlgebra_60_M nx131 (fun x24' l24' c24' x25' H2 => I x24' l24' c24' x25' H2 ∧ μ x24' l24' c24' x25' H2 < μ x24r l24r c24r x25r H1) Q E (Tau.upd (Tau.upd (Tau.upd (Tau.upd (Tau.upd (Tau.upd (Tau.upd (Tau.upd (Tau.upd (Tau.upd (Tau.upd (Tau.upd τ1 2 (.slice x2 l2 c2)) 9 (.slice x9 l9 c9)) 11 (.slice x11 l11 c11)) 13 (.slice x13 l13 c13)) 15 (.slice x15 l15 c15)) 17 (.slice x17 l17 c17)) 19 (.slice x19 l19 c19)) 21 (.int .i64 x21)) 22 (.slice x22 l22 c22)) 23 (.slice x23 l23 c23)) 24 (.slice x24r l24r c24r)) 25 (.int .i64 x25r)) H1) (by kernel_rfl) (hr x24r l24r c24r x25r H1 h))) (fun τ2 H2 hk => mSl_elim (i := 24) (G := fun τ => (mSl (τ 24) fun x24' l24' c24' => mI .i64 (τ 25) fun x25' => I x24' l24' c24' x25' H2) ∧ μ (gL1 (τ 24)) (gL2 (τ 24)) (gL3 (τ 24)) (gI (τ 25)) H2 < μ x24r l24r c24r x25r H1) hk (fun x24' l24' c24' h => mI_elim (i := 25) (G := fun τ => (mSl (τ 24) fun x24' l24' c24' => mI .i64 (τ 25) fun x25' => I x24' l24' c24' x25' H2) ∧ μ (gL1 (τ 24)) (gL2 (τ 24)) (gL3 (τ 24)) (gI (τ 25)) H2 < μ x24r l24r c24r x25r H1) h (fun x25' h => h))))))))))))))))))))))))))))))))

theorem l09_LangAlgebra_65ok (nx131 : Int → HP) (Q : QT) (E : ET) (τ : Tau) (H : Heap) (h : l09_LangAlgebra_63_M nx131 Q E τ H) : vc Pr l09_LangAlgebra_p54 τ (l09_LangAlgebra_q25 nx131 Q E) E H :=
  (conv (B := vc Pr l09_LangAlgebra_p54 τ (l09_LangAlgebra_q25 nx131 Q E) E H) (by kernel_rfl) (l09_LangAlgebra_64ok nx131 Q E τ H h))

@[reducible] noncomputable def l09_LangAlgebra_q32 (nx131 : Int → HP) (Q : QT) (E : ET) : Exit → Tau → Heap → Prop := (xthen (l09_LangAlgebra_63_M nx131 Q E) (l09_LangAlgebra_q25 nx131 Q E))

@[reducible] noncomputable def l09_LangAlgebra_p64 : Code := sA l09_LangAlgebra_p53

def l09_LangAlgebra_66 (nx131 : Int → HP) (Q : QT) (E : ET) (x2 : OA) (l2 : Nat) (c2 : Nat) (x9 : OA) (l9 : Nat) (c9 : Nat) (x11 : OA) (l11 : Nat) (c11 : Nat) (x13 : OA) (l13 : Nat) (c13 : Nat) (x15 : OA) (l15 : Nat) (c15 : Nat) (x17 : OA) (l17 : Nat) (c17 : Nat) (x19 : OA) (l19 : Nat) (c19 : Nat) (x21 : Int) (x22 : OA) (l22 : Nat) (c22 : Nat) (x23 : OA) (l23 : Nat) (c23 : Nat) (x24 : OA) (l24 : Nat) (c24 : Nat) (H : Heap) : Prop :=
 l09_LangAlgebra_63 nx131 Q E x2 l2 c2 x9 l9 c9 x11 l11 c11 x13 l13 c13 x15 l15 c15 x17 l17 c17 x19 l19 c19 x21 x22 l22 c22 x23 l23 c23 x24 l24 c24 0 H

def l09_LangAlgebra_66_M (nx131 : Int → HP) (Q : QT) (E : ET) (τ : Tau) (H : Heap) : Prop := mSl (τ 2) fun x2 l2 c2 => mSl (τ 9) fun x9 l9 c9 => mSl (τ 11) fun x11 l11 c11 => mSl (τ 13) fun x13 l13 c13 => mSl (τ 15) fun x15 l15 c15 => mSl (τ 17) fun x17 l17 c17 => mSl (τ 19) fun x19 l19 c19 => mI .i64 (τ 21) fun x21 => mSl (τ 22) fun x22 l22 c22 => mSl (τ 23) fun x23 l23 c23 => mSl (τ 24) fun x24 l24 c24 => l09_LangAlgebra_66 nx131 Q E x2 l2 c2 x9 l9 c9 x11 l11 c11 x13 l13 c13 x15 l15 c15 x17 l17 c17 x19 l19 c19 x21 x22 l22 c22 x23 l23 c23 x24 l24 c24 H

theorem l09_LangAlgebra_67ok (nx131 : Int → HP) (Q : QT) (E : ET) (τ : Tau) (H : Heap) (h : l09_LangAlgebra_66_M nx131 Q E τ H) : vc Pr l09_LangAlgebra_p64 τ (l09_LangAlgebra_q32 nx131 Q E) E H :=
  vSl (i := 2) h (fun x2 l2 c2 h => vSl (i := 9) h (fun x9 l9 c9 h => vSl (i := 11) h (fun x11 l11 c11 h => vSl (i := 13) h (fun x13 l13 c13 h => vSl (i := 15) h (fun x15 l15 c15 h => vSl (i := 17) h (fun x17 l17 c17 h => vSl (i := 19) h (fun x19 l19 c19 h => vI (i := 21) h (fun x21 h => vSl (i := 22) h (fun x22 l22 c22 h => vSl (i := 23) h (fun x23 l23 c23 h => vSl (i := 24) h (fun x24 l24 c24 h => (conv (by kernel_rfl) h))))))))))))

theorem l09_LangAlgebra_68ok (nx131 : Int → HP) (Q : QT) (E : ET) (τ : Tau) (H : Heap) (h : l09_LangAlgebra_66_M nx131 Q E τ H) : vc Pr l09_LangAlgebra_p53 τ (l09_LangAlgebra_q25 nx131 Q E) E H :=
  (conv (B := vc Pr l09_LangAlgebra_p53 τ (l09_LangAlgebra_q25 nx131 Q E) E H) (by kernel_rfl) (vc_seq (K := (l09_LangAlgebra_63_M nx131 Q E)) (l09_LangAlgebra_67ok nx131 Q E τ H h) (l09_LangAlgebra_65ok nx131 Q E)))

theorem l09_LangAlgebra_69ok (nx131 : Int → HP) (Q : QT) (E : ET) (τ : Tau) (H : Heap) (h : l09_LangAlgebra_66_M nx131 Q E τ H) : vc Pr l09_LangAlgebra_p21 τ (l09_LangAlgebra_q6 nx131 Q E) E H :=
  (conv (B := vc Pr l09_LangAlgebra_p21 τ (l09_LangAlgebra_q6 nx131 Q E) E H) (by kernel_rfl) (vc_seq (K := (l09_LangAlgebra_48_M nx131 Q E)) (l09_LangAlgebra_68ok nx131 Q E τ H h) (l09_LangAlgebra_50ok nx131 Q E)))

@[reducible] noncomputable def l09_LangAlgebra_q33 (nx131 : Int → HP) (Q : QT) (E : ET) : Exit → Tau → Heap → Prop := (xthen (l09_LangAlgebra_66_M nx131 Q E) (l09_LangAlgebra_q6 nx131 Q E))

@[reducible] noncomputable def l09_LangAlgebra_p65 : Code := sA l09_LangAlgebra_p20

def l09_LangAlgebra_70 (nx131 : Int → HP) (Q : QT) (E : ET) (x2 : OA) (l2 : Nat) (c2 : Nat) (x9 : OA) (l9 : Nat) (c9 : Nat) (x11 : OA) (l11 : Nat) (c11 : Nat) (x13 : OA) (l13 : Nat) (c13 : Nat) (x15 : OA) (l15 : Nat) (c15 : Nat) (x17 : OA) (l17 : Nat) (c17 : Nat) (x19 : OA) (l19 : Nat) (c19 : Nat) (x21 : Int) (x22 : OA) (l22 : Nat) (c22 : Nat) (x23 : OA) (l23 : Nat) (c23 : Nat) (H : Heap) : Prop :=
 l09_LangAlgebra_66 nx131 Q E x2 l2 c2 x9 l9 c9 x11 l11 c11 x13 l13 c13 x15 l15 c15 x17 l17 c17 x19 l19 c19 x21 x22 l22 c22 x23 l23 c23 none 0 0 H

def l09_LangAlgebra_70_M (nx131 : Int → HP) (Q : QT) (E : ET) (τ : Tau) (H : Heap) : Prop := mSl (τ 2) fun x2 l2 c2 => mSl (τ 9) fun x9 l9 c9 => mSl (τ 11) fun x11 l11 c11 => mSl (τ 13) fun x13 l13 c13 => mSl (τ 15) fun x15 l15 c15 => mSl (τ 17) fun x17 l17 c17 => mSl (τ 19) fun x19 l19 c19 => mI .i64 (τ 21) fun x21 => mSl (τ 22) fun x22 l22 c22 => mSl (τ 23) fun x23 l23 c23 => l09_LangAlgebra_70 nx131 Q E x2 l2 c2 x9 l9 c9 x11 l11 c11 x13 l13 c13 x15 l15 c15 x17 l17 c17 x19 l19 c19 x21 x22 l22 c22 x23 l23 c23 H

theorem l09_LangAlgebra_71ok (nx131 : Int → HP) (Q : QT) (E : ET) (τ : Tau) (H : Heap) (h : l09_LangAlgebra_70_M nx131 Q E τ H) : vc Pr l09_LangAlgebra_p65 τ (l09_LangAlgebra_q33 nx131 Q E) E H :=
  vSl (i := 2) h (fun x2 l2 c2 h => vSl (i := 9) h (fun x9 l9 c9 h => vSl (i := 11) h (fun x11 l11 c11 h => vSl (i := 13) h (fun x13 l13 c13 h => vSl (i := 15) h (fun x15 l15 c15 h => vSl (i := 17) h (fun x17 l17 c17 h => vSl (i := 19) h (fun x19 l19 c19 h => vI (i := 21) h (fun x21 h => vSl (i := 22) h (fun x22 l22 c22 h => vSl (i := 23) h (fun x23 l23 c23 h => (conv (by kernel_rfl) h)))))))))))

theorem l09_LangAlgebra_72ok (nx131 : Int → HP) (Q : QT) (E : ET) (τ : Tau) (H : Heap) (h : l09_LangAlgebra_70_M nx131 Q E τ H) : vc Pr l09_LangAlgebra_p20 τ (l09_LangAlgebra_q6 nx131 Q E) E H :=
  (conv (B := vc Pr l09_LangAlgebra_p20 τ (l09_LangAlgebra_q6 nx131 Q E) E H) (by kernel_rfl) (vc_seq (K := (l09_LangAlgebra_66_M nx131 Q E)) (l09_LangAlgebra_71ok nx131 Q E τ H h) (l09_LangAlgebra_69ok nx131 Q E)))

@[reducible] noncomputable def l09_LangAlgebra_q34 (nx131 : Int → HP) (Q : QT) (E : ET) : Exit → Tau → Heap → Prop := (xthen (l09_LangAlgebra_70_M nx131 Q E) (l09_LangAlgebra_q6 nx131 Q E))

@[reducible] noncomputable def l09_LangAlgebra_p66 : Code := sA l09_LangAlgebra_p19

def l09_LangAlgebra_73 (nx131 : Int → HP) (Q : QT) (E : ET) (x2 : OA) (l2 : Nat) (c2 : Nat) (x9 : OA) (l9 : Nat) (c9 : Nat) (x11 : OA) (l11 : Nat) (c11 : Nat) (x13 : OA) (l13 : Nat) (c13 : Nat) (x15 : OA) (l15 : Nat) (c15 : Nat) (x17 : OA) (l17 : Nat) (c17 : Nat) (x19 : OA) (l19 : Nat) (c19 : Nat) (x21 : Int) (H : Heap) : Prop :=
 Does Pr 24 #[(.slice x9 l9 c9), (.slice x2 l2 c2), (.int .i64 x21)] H (fun v404 H405 =>
 ∃ (p406 : OA) (l407 c408 : Nat), v404 = (.slice p406 l407 c408) ∧ Does Pr 24 #[(.slice x11 l11 c11), (.slice x2 l2 c2), (.int .i64 x21)] H405 (fun v409 H410 =>
 ∃ (p411 : OA) (l412 c413 : Nat), v409 = (.slice p411 l412 c413) ∧ l09_LangAlgebra_70 nx131 Q E x2 l2 c2 x9 l9 c9 x11 l11 c11 x13 l13 c13 x15 l15 c15 x17 l17 c17 x19 l19 c19 x21 p406 l407 c408 p411 l412 c413 H410) E) E

def l09_LangAlgebra_73_M (nx131 : Int → HP) (Q : QT) (E : ET) (τ : Tau) (H : Heap) : Prop := mSl (τ 2) fun x2 l2 c2 => mSl (τ 9) fun x9 l9 c9 => mSl (τ 11) fun x11 l11 c11 => mSl (τ 13) fun x13 l13 c13 => mSl (τ 15) fun x15 l15 c15 => mSl (τ 17) fun x17 l17 c17 => mSl (τ 19) fun x19 l19 c19 => mI .i64 (τ 21) fun x21 => l09_LangAlgebra_73 nx131 Q E x2 l2 c2 x9 l9 c9 x11 l11 c11 x13 l13 c13 x15 l15 c15 x17 l17 c17 x19 l19 c19 x21 H

theorem l09_LangAlgebra_74ok (nx131 : Int → HP) (Q : QT) (E : ET) (τ : Tau) (H : Heap) (h : l09_LangAlgebra_73_M nx131 Q E τ H) : vc Pr l09_LangAlgebra_p66 τ (l09_LangAlgebra_q34 nx131 Q E) E H :=
  vSl (i := 2) h (fun x2 l2 c2 h => vSl (i := 9) h (fun x9 l9 c9 h => vSl (i := 11) h (fun x11 l11 c11 h => vSl (i := 13) h (fun x13 l13 c13 h => vSl (i := 15) h (fun x15 l15 c15 h => vSl (i := 17) h (fun x17 l17 c17 h => vSl (i := 19) h (fun x19 l19 c19 h => vI (i := 21) h (fun x21 h => (conv (by kernel_rfl) h)))))))))

theorem l09_LangAlgebra_75ok (nx131 : Int → HP) (Q : QT) (E : ET) (τ : Tau) (H : Heap) (h : l09_LangAlgebra_73_M nx131 Q E τ H) : vc Pr l09_LangAlgebra_p19 τ (l09_LangAlgebra_q6 nx131 Q E) E H :=
  (conv (B := vc Pr l09_LangAlgebra_p19 τ (l09_LangAlgebra_q6 nx131 Q E) E H) (by kernel_rfl) (vc_seq (K := (l09_LangAlgebra_70_M nx131 Q E)) (l09_LangAlgebra_74ok nx131 Q E τ H h) (l09_LangAlgebra_72ok nx131 Q E)))

theorem l09_LangAlgebra_76ok (nx131 : Int → HP) (Q : QT) (E : ET) (τ : Tau) (H : Heap) (h : l09_LangAlgebra_73_M nx131 Q E τ H) : vc Pr l09_LangAlgebra_p18 τ (l09_LangAlgebra_q5 nx131 Q E) E H :=
  (conv (B := vc Pr l09_LangAlgebra_p18 τ (l09_LangAlgebra_q5 nx131 Q E) E H) (by kernel_rfl) (l09_LangAlgebra_75ok nx131 Q E τ H h))

theorem l09_LangAlgebra_77ok (nx131 : Int → HP) (Q : QT) (E : ET) (τ : Tau) (H : Heap) (h : l09_LangAlgebra_73_M nx131 Q E τ H) : vc Pr l09_LangAlgebra_p16 τ (l09_LangAlgebra_q4 nx131 Q E) E H :=
  (conv (B := vc Pr l09_LangAlgebra_p16 τ (l09_LangAlgebra_q4 nx131 Q E) E H) (by kernel_rfl) (vc_seq (K := (l09_LangAlgebra_3_M nx131 Q E)) (l09_LangAlgebra_76ok nx131 Q E τ H h) (l09_LangAlgebra_4ok nx131 Q E)))

@[reducible] noncomputable def l09_LangAlgebra_q35 (nx131 : Int → HP) (Q : QT) (E : ET) : Exit → Tau → Heap → Prop := (xthen (l09_LangAlgebra_73_M nx131 Q E) (l09_LangAlgebra_q4 nx131 Q E))

@[reducible] noncomputable def l09_LangAlgebra_p67 : Code := sA l09_LangAlgebra_p15

def l09_LangAlgebra_78 (nx131 : Int → HP) (Q : QT) (E : ET) (x2 : OA) (l2 : Nat) (c2 : Nat) (x9 : OA) (l9 : Nat) (c9 : Nat) (x11 : OA) (l11 : Nat) (c11 : Nat) (x13 : OA) (l13 : Nat) (c13 : Nat) (x15 : OA) (l15 : Nat) (c15 : Nat) (x17 : OA) (l17 : Nat) (c17 : Nat) (x19 : OA) (l19 : Nat) (c19 : Nat) (x21 : Int) (H : Heap) : Prop :=
 sel (decide ((x21 : Int) ≤ ((l2 : Nat) : Int)))
 (l09_LangAlgebra_73 nx131 Q E x2 l2 c2 x9 l9 c9 x11 l11 c11 x13 l13 c13 x15 l15 c15 x17 l17 c17 x19 l19 c19 x21 H)
 (l09_LangAlgebra_1 Q E  H)

def l09_LangAlgebra_78_M (nx131 : Int → HP) (Q : QT) (E : ET) (τ : Tau) (H : Heap) : Prop := mSl (τ 2) fun x2 l2 c2 => mSl (τ 9) fun x9 l9 c9 => mSl (τ 11) fun x11 l11 c11 => mSl (τ 13) fun x13 l13 c13 => mSl (τ 15) fun x15 l15 c15 => mSl (τ 17) fun x17 l17 c17 => mSl (τ 19) fun x19 l19 c19 => mI .i64 (τ 21) fun x21 => l09_LangAlgebra_78 nx131 Q E x2 l2 c2 x9 l9 c9 x11 l11 c11 x13 l13 c13 x15 l15 c15 x17 l17 c17 x19 l19 c19 x21 H

theorem l09_LangAlgebra_79ok (nx131 : Int → HP) (Q : QT) (E : ET) (τ : Tau) (H : Heap) (h : l09_LangAlgebra_78_M nx131 Q E τ H) : vc Pr l09_LangAlgebra_p67 τ (l09_LangAlgebra_q35 nx131 Q E) E H :=
  vSl (i := 2) h (fun x2 l2 c2 h => vSl (i := 9) h (fun x9 l9 c9 h => vSl (i := 11) h (fun x11 l11 c11 h => vSl (i := 13) h (fun x13 l13 c13 h => vSl (i := 15) h (fun x15 l15 c15 h => vSl (i := 17) h (fun x17 l17 c17 h => vSl (i := 19) h (fun x19 l19 c19 h => vI (i := 21) h (fun x21 h => (conv (by kernel_rfl) h)))))))))

theorem l09_LangAlgebra_80ok (nx131 : Int → HP) (Q : QT) (E : ET) (τ : Tau) (H : Heap) (h : l09_LangAlgebra_78_M nx131 Q E τ H) : vc Pr l09_LangAlgebra_p15 τ (l09_LangAlgebra_q4 nx131 Q E) E H :=
  (conv (B := vc Pr l09_LangAlgebra_p15 τ (l09_LangAlgebra_q4 nx131 Q E) E H) (by kernel_rfl) (vc_seq (K := (l09_LangAlgebra_73_M nx131 Q E)) (l09_LangAlgebra_79ok nx131 Q E τ H h) (l09_LangAlgebra_77ok nx131 Q E)))

def l09_LangAlgebra_81 (Q : QT) (E : ET) (x2 : OA) (l2 : Nat) (c2 : Nat) (x9 : OA) (l9 : Nat) (c9 : Nat) (x11 : OA) (l11 : Nat) (c11 : Nat) (x13 : OA) (l13 : Nat) (c13 : Nat) (x15 : OA) (l15 : Nat) (c15 : Nat) (x17 : OA) (l17 : Nat) (c17 : Nat) (x19 : OA) (l19 : Nat) (c19 : Nat) (x21 : Int) (H : Heap) : Prop :=
 ∃ (I : Int → HP) (μ : Int → Heap → Nat), I x21 H ∧ ∀ (x21 : Int) (H : Heap), I x21 H →
 l09_LangAlgebra_78 (fun x21' H1 => I x21' H1 ∧ μ x21' H1 < μ x21 H) Q E x2 l2 c2 x9 l9 c9 x11 l11 c11 x13 l13 c13 x15 l15 c15 x17 l17 c17 x19 l19 c19 x21 H

def l09_LangAlgebra_81_M (Q : QT) (E : ET) (τ : Tau) (H : Heap) : Prop := mSl (τ 2) fun x2 l2 c2 => mSl (τ 9) fun x9 l9 c9 => mSl (τ 11) fun x11 l11 c11 => mSl (τ 13) fun x13 l13 c13 => mSl (τ 15) fun x15 l15 c15 => mSl (τ 17) fun x17 l17 c17 => mSl (τ 19) fun x19 l19 c19 => mI .i64 (τ 21) fun x21 => l09_LangAlgebra_81 Q E x2 l2 c2 x9 l9 c9 x11 l11 c11 x13 l13 c13 x15 l15 c15 x17 l17 c17 x19 l19 c19 x21 H

theorem l09_LangAlgebra_82ok (Q : QT) (E : ET) (τ : Tau) (H : Heap) (h : l09_LangAlgebra_81_M Q E τ H) : vc Pr l09_LangAlgebra_p14 τ (l09_LangAlgebra_q3 Q E) E H :=
  vSl (i := 2) h (fun x2 l2 c2 h => vSl (i := 9) h (fun x9 l9 c9 h => vSl (i := 11) h (fun x11 l11 c11 h => vSl (i := 13) h (fun x13 l13 c13 h => vSl (i := 15) h (fun x15 l15 c15 h => vSl (i := 17) h (fun x17 l17 c17 h => vSl (i := 19) h (fun x19 l19 c19 h => vI (i := 21) h (fun x21 h => match h with | ⟨I, μ, h0, hr⟩ => (conv (B := vc Pr l09_LangAlgebra_p14 (Tau.upd (Tau.upd (Tau.upd (Tau.upd (Tau.upd (Tau.upd (Tau.upd (Tau.upd τ 2 (.slice x2 l2 c2)) 9 (.slice x9 l9 c9)) 11 (.slice x11 l11 c11)) 13 (.slice x13 l13 c13)) 15 (.slice x15 l15 c15)) 17 (.slice x17 l17 c17)) 19 (.slice x19 l19 c19)) 21 (.int .i64 x21)) (l09_LangAlgebra_q3 Q E) E H) (by kernel_rfl) (vc_loop (c := sI l09_LangAlgebra_p14) (τ := (Tau.upd (Tau.upd (Tau.upd (Tau.upd (Tau.upd (Tau.upd (Tau.upd (Tau.upd τ 2 (.slice x2 l2 c2)) 9 (.slice x9 l9 c9)) 11 (.slice x11 l11 c11)) 13 (.slice x13 l13 c13)) 15 (.slice x15 l15 c15)) 17 (.slice x17 l17 c17)) 19 (.slice x19 l19 c19)) 21 (.int .i64 x21))) [2, 9, 11, 13, 15, 17, 19] (fun τ H => mI .i64 (τ 21) fun x21' => I x21' H) (fun τ H => μ (gI (τ 21)) H) (by kernel_rfl) h0 (fun τ1 H1 hf hI => fix_elim (τ := τ1) (i := 2) (v := (.slice x2 l2 c2)) (G := fun τ => vc Pr (sI l09_LangAlgebra_p14) τ (xthen (fun τ2 H2 => (mI .i64 (τ2 21) fun x21' => I x21' H2) ∧ μ (gI (τ2 21)) H2 < μ (gI (τ 21)) H1) (l09_LangAlgebra_q3 Q E)) E H1) (hf 2 (by simp)) (fix_elim (τ := (Tau.upd τ1 2 (.slice x2 l2 c2))) (i := 9) (v := (.slice x9 l9 c9)) (G := fun τ => vc Pr (sI l09_LangAlgebra_p14) τ (xthen (fun τ2 H2 => (mI .i64 (τ2 21) fun x21' => I x21' H2) ∧ μ (gI (τ2 21)) H2 < μ (gI (τ 21)) H1) (l09_LangAlgebra_q3 Q E)) E H1) (hf 9 (by simp)) (fix_elim (τ := (Tau.upd (Tau.upd τ1 2 (.slice x2 l2 c2)) 9 (.slice x9 l9 c9))) (i := 11) (v := (.slice x11 l11 c11)) (G := fun τ => vc Pr (sI l09_LangAlgebra_p14) τ (xthen (fun τ2 H2 => (mI .i64 (τ2 21) fun x21' => I x21' H2) ∧ μ (gI (τ2 21)) H2 < μ (gI (τ 21)) H1) (l09_LangAlgebra_q3 Q E)) E H1) (hf 11 (by simp)) (fix_elim (τ := (Tau.upd (Tau.upd (Tau.upd τ1 2 (.slice x2 l2 c2)) 9 (.slice x9 l9 c9)) 11 (.slice x11 l11 c11))) (i := 13) (v := (.slice x13 l13 c13)) (G := fun τ => vc Pr (sI l09_LangAlgebra_p14) τ (xthen (fun τ2 H2 => (mI .i64 (τ2 21) fun x21' => I x21' H2) ∧ μ (gI (τ2 21)) H2 < μ (gI (τ 21)) H1) (l09_LangAlgebra_q3 Q E)) E H1) (hf 13 (by simp)) (fix_elim (τ := (Tau.upd (Tau.upd (Tau.upd (Tau.upd τ1 2 (.slice x2 l2 c2)) 9 (.slice x9 l9 c9)) 11 (.slice x11 l11 c11)) 13 (.slice x13 l13 c13))) (i := 15) (v := (.slice x15 l15 c15)) (G := fun τ => vc Pr (sI l09_LangAlgebra_p14) τ (xthen (fun τ2 H2 => (mI .i64 (τ2 21) fun x21' => I x21' H2) ∧ μ (gI (τ2 21)) H2 < μ (gI (τ 21)) H1) (l09_LangAlgebra_q3 Q E)) E H1) (hf 15 (by simp)) (fix_elim (τ := (Tau.upd (Tau.upd (Tau.upd (Tau.upd (Tau.upd τ1 2 (.slice x2 l2 c2)) 9 (.slice x9 l9 c9)) 11 (.slice x11 l11 c11)) 13 (.slice x13 l13 c13)) 15 (.slice x15 l15 c15))) (i := 17) (v := (.slice x17 l17 c17)) (G := fun τ => vc Pr (sI l09_LangAlgebra_p14) τ (xthen (fun τ2 H2 => (mI .i64 (τ2 21) fun x21' => I x21' H2) ∧ μ (gI (τ2 21)) H2 < μ (gI (τ 21)) H1) (l09_LangAlgebra_q3 Q E)) E H1) (hf 17 (by simp)) (fix_elim (τ := (Tau.upd (Tau.upd (Tau.upd (Tau.upd (Tau.upd (Tau.upd τ1 2 (.slice x2 l2 c2)) 9 (.slice x9 l9 c9)) 11 (.slice x11 l11 c11)) 13 (.slice x13 l13 c13)) 15 (.slice x15 l15 c15)) 17 (.slice x17 l17 c17))) (i := 19) (v := (.slice x19 l19 c19)) (G := fun τ => vc Pr (sI l09_LangAlgebra_p14) τ (xthen (fun τ2 H2 => (mI .i64 (τ2 21) fun x21' => I x21' H2) ∧ μ (gI (τ2 21)) H2 < μ (gI (τ 21)) H1) (l09_LangAlgebra_q3 Q E)) E H1) (hf 19 (by simp)) (mI_elim (i := 21) (G := fun τ => vc Pr (sI l09_LangAlgebra_p14) τ (xthen (fun τ2 H2 => (mI .i64 (τ2 21) fun x21' => I x21' H2) ∧ μ (gI (τ2 21)) H2 < μ (gI (τ 21)) H1) (l09_LangAlgebra_q3 Q E)) E H1) hI (fun x21r h => (conv (B := vc Pr (sI l09_LangAlgebra_p14) (Tau.upd (Tau.upd (Tau.upd (Tau.upd (Tau.upd (Tau.upd (Tau.upd (Tau.upd τ1 2 (.slice x2 l2 c2)) 9 (.slice x9 l9 c9)) 11 (.slice x11 l11 c11)) 13 (.slice x13 l13 c13)) 15 (.slice x15 l15 c15)) 17 (.slice x17 l17 c17)) 19 (.slice x19 l19 c19)) 21 (.int .i64 x21r)) (xthen (fun τ2 H2 => (mI .i64 (τ2 21) fun x21' => I x21' H2) ∧ μ (gI (τ2 21)) H2 < μ (gI ((Tau.upd (Tau.upd (Tau.upd (Tau.upd (Tau.upd (Tau.upd (Tau.upd (Tau.upd τ1 2 (.slice x2 l2 c2)) 9 (.slice x9 l9 c9)) 11 (.slice x11 l11 c11)) 13 (.slice x13 l13 c13)) 15 (.slice x15 l15 c15)) 17 (.slice x17 l17 c17)) 19 (.slice x19 l19 c19)) 21 (.int .i64 x21r)) 21)) H1) (l09_LangAlgebra_q3 Q E)) E H1) (by kernel_rfl) (vc_xthen (l09_LangAlgebra_80ok (fun x21' H2 => I x21' H2 ∧ μ x21' H2 < μ x21r H1) Q E (Tau.upd (Tau.upd (Tau.upd (Tau.upd (Tau.upd (Tau.upd (Tau.upd (Tau.upd τ1 2 (.slice x2 l2 c2)) 9 (.slice x9 l9 c9)) 11 (.slice x11 l11 c11)) 13 (.slice x13 l13 c13)) 15 (.slice x15 l15 c15)) 17 (.slice x17 l17 c17)) 19 (.slice x19 l19 c19)) 21 (.int .i64 x21r)) H1 (conv (B := l09_LangAlgebra_78_M (fun x21' H2 => I x21' H2 ∧ μ x21' H2 < μ x21r H1) Q E (Tau.upd (Tau.upd (Tau.upd (Tau.upd (Tau.upd (Tau.upd (Tau.upd (Tau.upd τ1 2 (.slice x2 l2 c2)) 9 (.slice x9 l9 c9)) 11 (.slice x11 l11 c11)) 13 (.slice x13 l13 c13)) 15 (.slice x15 l15 c15)) 17 (.slice x17 l17 c17)) 19 (.slice x19 l19 c19)) 21 (.int .i64 x21r)) H1) (by kernel_rfl) (hr x21r H1 h))) (fun τ2 H2 hk => mI_elim (i := 21) (G := fun τ => (mI .i64 (τ 21) fun x21' => I x21' H2) ∧ μ (gI (τ 21)) H2 < μ x21r H1) hk (fun x21' h => h)))))))))))))))))))))))

theorem l09_LangAlgebra_83ok (Q : QT) (E : ET) (τ : Tau) (H : Heap) (h : l09_LangAlgebra_81_M Q E τ H) : vc Pr l09_LangAlgebra_p13 τ (l09_LangAlgebra_q2 Q E) E H :=
  (conv (B := vc Pr l09_LangAlgebra_p13 τ (l09_LangAlgebra_q2 Q E) E H) (by kernel_rfl) (l09_LangAlgebra_82ok Q E τ H h))

@[reducible] noncomputable def l09_LangAlgebra_q36 (Q : QT) (E : ET) : Exit → Tau → Heap → Prop := (xthen (l09_LangAlgebra_81_M Q E) (l09_LangAlgebra_q2 Q E))

@[reducible] noncomputable def l09_LangAlgebra_p68 : Code := sA l09_LangAlgebra_p12

def l09_LangAlgebra_84 (Q : QT) (E : ET) (x2 : OA) (l2 : Nat) (c2 : Nat) (x9 : OA) (l9 : Nat) (c9 : Nat) (x11 : OA) (l11 : Nat) (c11 : Nat) (x13 : OA) (l13 : Nat) (c13 : Nat) (x15 : OA) (l15 : Nat) (c15 : Nat) (x17 : OA) (l17 : Nat) (c17 : Nat) (x19 : OA) (l19 : Nat) (c19 : Nat) (H : Heap) : Prop :=
 l09_LangAlgebra_81 Q E x2 l2 c2 x9 l9 c9 x11 l11 c11 x13 l13 c13 x15 l15 c15 x17 l17 c17 x19 l19 c19 0 H

def l09_LangAlgebra_84_M (Q : QT) (E : ET) (τ : Tau) (H : Heap) : Prop := mSl (τ 2) fun x2 l2 c2 => mSl (τ 9) fun x9 l9 c9 => mSl (τ 11) fun x11 l11 c11 => mSl (τ 13) fun x13 l13 c13 => mSl (τ 15) fun x15 l15 c15 => mSl (τ 17) fun x17 l17 c17 => mSl (τ 19) fun x19 l19 c19 => l09_LangAlgebra_84 Q E x2 l2 c2 x9 l9 c9 x11 l11 c11 x13 l13 c13 x15 l15 c15 x17 l17 c17 x19 l19 c19 H

theorem l09_LangAlgebra_85ok (Q : QT) (E : ET) (τ : Tau) (H : Heap) (h : l09_LangAlgebra_84_M Q E τ H) : vc Pr l09_LangAlgebra_p68 τ (l09_LangAlgebra_q36 Q E) E H :=
  vSl (i := 2) h (fun x2 l2 c2 h => vSl (i := 9) h (fun x9 l9 c9 h => vSl (i := 11) h (fun x11 l11 c11 h => vSl (i := 13) h (fun x13 l13 c13 h => vSl (i := 15) h (fun x15 l15 c15 h => vSl (i := 17) h (fun x17 l17 c17 h => vSl (i := 19) h (fun x19 l19 c19 h => (conv (by kernel_rfl) h))))))))

theorem l09_LangAlgebra_86ok (Q : QT) (E : ET) (τ : Tau) (H : Heap) (h : l09_LangAlgebra_84_M Q E τ H) : vc Pr l09_LangAlgebra_p12 τ (l09_LangAlgebra_q2 Q E) E H :=
  (conv (B := vc Pr l09_LangAlgebra_p12 τ (l09_LangAlgebra_q2 Q E) E H) (by kernel_rfl) (vc_seq (K := (l09_LangAlgebra_81_M Q E)) (l09_LangAlgebra_85ok Q E τ H h) (l09_LangAlgebra_83ok Q E)))

theorem l09_LangAlgebra_87ok (Q : QT) (E : ET) (τ : Tau) (H : Heap) (h : l09_LangAlgebra_84_M Q E τ H) : vc Pr l09_LangAlgebra_p10 τ (l09_LangAlgebra_q1 Q E) E H :=
  (conv (B := vc Pr l09_LangAlgebra_p10 τ (l09_LangAlgebra_q1 Q E) E H) (by kernel_rfl) (vc_seq (K := (l09_LangAlgebra_1_M Q E)) (l09_LangAlgebra_86ok Q E τ H h) (l09_LangAlgebra_2ok Q E)))

@[reducible] noncomputable def l09_LangAlgebra_q37 (Q : QT) (E : ET) : Exit → Tau → Heap → Prop := (xthen (l09_LangAlgebra_84_M Q E) (l09_LangAlgebra_q1 Q E))

@[reducible] noncomputable def l09_LangAlgebra_p69 : Code := sA l09_LangAlgebra_p9

def l09_LangAlgebra_88 (Q : QT) (E : ET) (x2 : OA) (l2 : Nat) (c2 : Nat) (x7 : ByteArray) (x9 : OA) (l9 : Nat) (c9 : Nat) (x11 : OA) (l11 : Nat) (c11 : Nat) (x13 : OA) (l13 : Nat) (c13 : Nat) (x15 : OA) (l15 : Nat) (c15 : Nat) (x17 : OA) (l17 : Nat) (c17 : Nat) (H : Heap) : Prop :=
 (((⟨[40].toArray⟩ : ByteArray).size + (x7 : ByteArray).size : Nat) : Int) ≤ 9223372036854775807 ∧ ((((⟨[40].toArray⟩ ++ x7) : ByteArray).size + (⟨[41, 40].toArray⟩ : ByteArray).size : Nat) : Int) ≤ 9223372036854775807 ∧ (((((⟨[40].toArray⟩ ++ x7) ++ ⟨[41, 40].toArray⟩) : ByteArray).size + (x7 : ByteArray).size : Nat) : Int) ≤ 9223372036854775807 ∧ ((((((⟨[40].toArray⟩ ++ x7) ++ ⟨[41, 40].toArray⟩) ++ x7) : ByteArray).size + (⟨[41, 42].toArray⟩ : ByteArray).size : Nat) : Int) ≤ 9223372036854775807 ∧ Does Pr 23 #[(.string ((((⟨[40].toArray⟩ ++ x7) ++ ⟨[41, 40].toArray⟩) ++ x7) ++ ⟨[41, 42].toArray⟩))] H (fun v414 H415 =>
 ∃ (p416 : OA) (l417 c418 : Nat), ∃ n419 : Int, v414 = (.tuple #[(.slice p416 l417 c418), (.int .i64 n419)]) ∧ l09_LangAlgebra_84 Q E x2 l2 c2 x9 l9 c9 x11 l11 c11 x13 l13 c13 x15 l15 c15 x17 l17 c17 p416 l417 c418 H415) E

def l09_LangAlgebra_88_M (Q : QT) (E : ET) (τ : Tau) (H : Heap) : Prop := mSl (τ 2) fun x2 l2 c2 => mS (τ 7) fun x7 => mSl (τ 9) fun x9 l9 c9 => mSl (τ 11) fun x11 l11 c11 => mSl (τ 13) fun x13 l13 c13 => mSl (τ 15) fun x15 l15 c15 => mSl (τ 17) fun x17 l17 c17 => l09_LangAlgebra_88 Q E x2 l2 c2 x7 x9 l9 c9 x11 l11 c11 x13 l13 c13 x15 l15 c15 x17 l17 c17 H

theorem l09_LangAlgebra_89ok (Q : QT) (E : ET) (τ : Tau) (H : Heap) (h : l09_LangAlgebra_88_M Q E τ H) : vc Pr l09_LangAlgebra_p69 τ (l09_LangAlgebra_q37 Q E) E H :=
  vSl (i := 2) h (fun x2 l2 c2 h => vS (i := 7) h (fun x7 h => vSl (i := 9) h (fun x9 l9 c9 h => vSl (i := 11) h (fun x11 l11 c11 h => vSl (i := 13) h (fun x13 l13 c13 h => vSl (i := 15) h (fun x15 l15 c15 h => vSl (i := 17) h (fun x17 l17 c17 h => (conv (by kernel_rfl) h))))))))

theorem l09_LangAlgebra_90ok (Q : QT) (E : ET) (τ : Tau) (H : Heap) (h : l09_LangAlgebra_88_M Q E τ H) : vc Pr l09_LangAlgebra_p9 τ (l09_LangAlgebra_q1 Q E) E H :=
  (conv (B := vc Pr l09_LangAlgebra_p9 τ (l09_LangAlgebra_q1 Q E) E H) (by kernel_rfl) (vc_seq (K := (l09_LangAlgebra_84_M Q E)) (l09_LangAlgebra_89ok Q E τ H h) (l09_LangAlgebra_87ok Q E)))

@[reducible] noncomputable def l09_LangAlgebra_q38 (Q : QT) (E : ET) : Exit → Tau → Heap → Prop := (xthen (l09_LangAlgebra_88_M Q E) (l09_LangAlgebra_q1 Q E))

@[reducible] noncomputable def l09_LangAlgebra_p70 : Code := sA l09_LangAlgebra_p8

def l09_LangAlgebra_91 (Q : QT) (E : ET) (x2 : OA) (l2 : Nat) (c2 : Nat) (x7 : ByteArray) (x9 : OA) (l9 : Nat) (c9 : Nat) (x11 : OA) (l11 : Nat) (c11 : Nat) (x13 : OA) (l13 : Nat) (c13 : Nat) (x15 : OA) (l15 : Nat) (c15 : Nat) (H : Heap) : Prop :=
 (((⟨[40].toArray⟩ : ByteArray).size + (x7 : ByteArray).size : Nat) : Int) ≤ 9223372036854775807 ∧ ((((⟨[40].toArray⟩ ++ x7) : ByteArray).size + (⟨[41, 43].toArray⟩ : ByteArray).size : Nat) : Int) ≤ 9223372036854775807 ∧ Does Pr 23 #[(.string ((⟨[40].toArray⟩ ++ x7) ++ ⟨[41, 43].toArray⟩))] H (fun v420 H421 =>
 ∃ (p422 : OA) (l423 c424 : Nat), ∃ n425 : Int, v420 = (.tuple #[(.slice p422 l423 c424), (.int .i64 n425)]) ∧ l09_LangAlgebra_88 Q E x2 l2 c2 x7 x9 l9 c9 x11 l11 c11 x13 l13 c13 x15 l15 c15 p422 l423 c424 H421) E

def l09_LangAlgebra_91_M (Q : QT) (E : ET) (τ : Tau) (H : Heap) : Prop := mSl (τ 2) fun x2 l2 c2 => mS (τ 7) fun x7 => mSl (τ 9) fun x9 l9 c9 => mSl (τ 11) fun x11 l11 c11 => mSl (τ 13) fun x13 l13 c13 => mSl (τ 15) fun x15 l15 c15 => l09_LangAlgebra_91 Q E x2 l2 c2 x7 x9 l9 c9 x11 l11 c11 x13 l13 c13 x15 l15 c15 H

theorem l09_LangAlgebra_92ok (Q : QT) (E : ET) (τ : Tau) (H : Heap) (h : l09_LangAlgebra_91_M Q E τ H) : vc Pr l09_LangAlgebra_p70 τ (l09_LangAlgebra_q38 Q E) E H :=
  vSl (i := 2) h (fun x2 l2 c2 h => vS (i := 7) h (fun x7 h => vSl (i := 9) h (fun x9 l9 c9 h => vSl (i := 11) h (fun x11 l11 c11 h => vSl (i := 13) h (fun x13 l13 c13 h => vSl (i := 15) h (fun x15 l15 c15 h => (conv (by kernel_rfl) h)))))))

theorem l09_LangAlgebra_93ok (Q : QT) (E : ET) (τ : Tau) (H : Heap) (h : l09_LangAlgebra_91_M Q E τ H) : vc Pr l09_LangAlgebra_p8 τ (l09_LangAlgebra_q1 Q E) E H :=
  (conv (B := vc Pr l09_LangAlgebra_p8 τ (l09_LangAlgebra_q1 Q E) E H) (by kernel_rfl) (vc_seq (K := (l09_LangAlgebra_88_M Q E)) (l09_LangAlgebra_92ok Q E τ H h) (l09_LangAlgebra_90ok Q E)))

@[reducible] noncomputable def l09_LangAlgebra_q39 (Q : QT) (E : ET) : Exit → Tau → Heap → Prop := (xthen (l09_LangAlgebra_91_M Q E) (l09_LangAlgebra_q1 Q E))

@[reducible] noncomputable def l09_LangAlgebra_p71 : Code := sA l09_LangAlgebra_p7

def l09_LangAlgebra_94 (Q : QT) (E : ET) (x2 : OA) (l2 : Nat) (c2 : Nat) (x7 : ByteArray) (x8 : ByteArray) (x9 : OA) (l9 : Nat) (c9 : Nat) (x11 : OA) (l11 : Nat) (c11 : Nat) (x13 : OA) (l13 : Nat) (c13 : Nat) (H : Heap) : Prop :=
 (((⟨[40].toArray⟩ : ByteArray).size + (x7 : ByteArray).size : Nat) : Int) ≤ 9223372036854775807 ∧ ((((⟨[40].toArray⟩ ++ x7) : ByteArray).size + (⟨[41, 40].toArray⟩ : ByteArray).size : Nat) : Int) ≤ 9223372036854775807 ∧ (((((⟨[40].toArray⟩ ++ x7) ++ ⟨[41, 40].toArray⟩) : ByteArray).size + (x8 : ByteArray).size : Nat) : Int) ≤ 9223372036854775807 ∧ ((((((⟨[40].toArray⟩ ++ x7) ++ ⟨[41, 40].toArray⟩) ++ x8) : ByteArray).size + (⟨[41].toArray⟩ : ByteArray).size : Nat) : Int) ≤ 9223372036854775807 ∧ Does Pr 23 #[(.string ((((⟨[40].toArray⟩ ++ x7) ++ ⟨[41, 40].toArray⟩) ++ x8) ++ ⟨[41].toArray⟩))] H (fun v426 H427 =>
 ∃ (p428 : OA) (l429 c430 : Nat), ∃ n431 : Int, v426 = (.tuple #[(.slice p428 l429 c430), (.int .i64 n431)]) ∧ l09_LangAlgebra_91 Q E x2 l2 c2 x7 x9 l9 c9 x11 l11 c11 x13 l13 c13 p428 l429 c430 H427) E

def l09_LangAlgebra_94_M (Q : QT) (E : ET) (τ : Tau) (H : Heap) : Prop := mSl (τ 2) fun x2 l2 c2 => mS (τ 7) fun x7 => mS (τ 8) fun x8 => mSl (τ 9) fun x9 l9 c9 => mSl (τ 11) fun x11 l11 c11 => mSl (τ 13) fun x13 l13 c13 => l09_LangAlgebra_94 Q E x2 l2 c2 x7 x8 x9 l9 c9 x11 l11 c11 x13 l13 c13 H

theorem l09_LangAlgebra_95ok (Q : QT) (E : ET) (τ : Tau) (H : Heap) (h : l09_LangAlgebra_94_M Q E τ H) : vc Pr l09_LangAlgebra_p71 τ (l09_LangAlgebra_q39 Q E) E H :=
  vSl (i := 2) h (fun x2 l2 c2 h => vS (i := 7) h (fun x7 h => vS (i := 8) h (fun x8 h => vSl (i := 9) h (fun x9 l9 c9 h => vSl (i := 11) h (fun x11 l11 c11 h => vSl (i := 13) h (fun x13 l13 c13 h => (conv (by kernel_rfl) h)))))))

theorem l09_LangAlgebra_96ok (Q : QT) (E : ET) (τ : Tau) (H : Heap) (h : l09_LangAlgebra_94_M Q E τ H) : vc Pr l09_LangAlgebra_p7 τ (l09_LangAlgebra_q1 Q E) E H :=
  (conv (B := vc Pr l09_LangAlgebra_p7 τ (l09_LangAlgebra_q1 Q E) E H) (by kernel_rfl) (vc_seq (K := (l09_LangAlgebra_91_M Q E)) (l09_LangAlgebra_95ok Q E τ H h) (l09_LangAlgebra_93ok Q E)))

@[reducible] noncomputable def l09_LangAlgebra_q40 (Q : QT) (E : ET) : Exit → Tau → Heap → Prop := (xthen (l09_LangAlgebra_94_M Q E) (l09_LangAlgebra_q1 Q E))

@[reducible] noncomputable def l09_LangAlgebra_p72 : Code := sA l09_LangAlgebra_p6

def l09_LangAlgebra_97 (Q : QT) (E : ET) (x2 : OA) (l2 : Nat) (c2 : Nat) (x7 : ByteArray) (x8 : ByteArray) (x9 : OA) (l9 : Nat) (c9 : Nat) (x11 : OA) (l11 : Nat) (c11 : Nat) (H : Heap) : Prop :=
 (((x7 : ByteArray).size + (⟨[124].toArray⟩ : ByteArray).size : Nat) : Int) ≤ 9223372036854775807 ∧ ((((x7 ++ ⟨[124].toArray⟩) : ByteArray).size + (x8 : ByteArray).size : Nat) : Int) ≤ 9223372036854775807 ∧ Does Pr 23 #[(.string ((x7 ++ ⟨[124].toArray⟩) ++ x8))] H (fun v432 H433 =>
 ∃ (p434 : OA) (l435 c436 : Nat), ∃ n437 : Int, v432 = (.tuple #[(.slice p434 l435 c436), (.int .i64 n437)]) ∧ l09_LangAlgebra_94 Q E x2 l2 c2 x7 x8 x9 l9 c9 x11 l11 c11 p434 l435 c436 H433) E

def l09_LangAlgebra_97_M (Q : QT) (E : ET) (τ : Tau) (H : Heap) : Prop := mSl (τ 2) fun x2 l2 c2 => mS (τ 7) fun x7 => mS (τ 8) fun x8 => mSl (τ 9) fun x9 l9 c9 => mSl (τ 11) fun x11 l11 c11 => l09_LangAlgebra_97 Q E x2 l2 c2 x7 x8 x9 l9 c9 x11 l11 c11 H

theorem l09_LangAlgebra_98ok (Q : QT) (E : ET) (τ : Tau) (H : Heap) (h : l09_LangAlgebra_97_M Q E τ H) : vc Pr l09_LangAlgebra_p72 τ (l09_LangAlgebra_q40 Q E) E H :=
  vSl (i := 2) h (fun x2 l2 c2 h => vS (i := 7) h (fun x7 h => vS (i := 8) h (fun x8 h => vSl (i := 9) h (fun x9 l9 c9 h => vSl (i := 11) h (fun x11 l11 c11 h => (conv (by kernel_rfl) h))))))

theorem l09_LangAlgebra_99ok (Q : QT) (E : ET) (τ : Tau) (H : Heap) (h : l09_LangAlgebra_97_M Q E τ H) : vc Pr l09_LangAlgebra_p6 τ (l09_LangAlgebra_q1 Q E) E H :=
  (conv (B := vc Pr l09_LangAlgebra_p6 τ (l09_LangAlgebra_q1 Q E) E H) (by kernel_rfl) (vc_seq (K := (l09_LangAlgebra_94_M Q E)) (l09_LangAlgebra_98ok Q E τ H h) (l09_LangAlgebra_96ok Q E)))

@[reducible] noncomputable def l09_LangAlgebra_q41 (Q : QT) (E : ET) : Exit → Tau → Heap → Prop := (xthen (l09_LangAlgebra_97_M Q E) (l09_LangAlgebra_q1 Q E))

@[reducible] noncomputable def l09_LangAlgebra_p73 : Code := sA l09_LangAlgebra_p5

def l09_LangAlgebra_100 (Q : QT) (E : ET) (x2 : OA) (l2 : Nat) (c2 : Nat) (x7 : ByteArray) (x8 : ByteArray) (x9 : OA) (l9 : Nat) (c9 : Nat) (H : Heap) : Prop :=
 Does Pr 23 #[(.string x8)] H (fun v438 H439 =>
 ∃ (p440 : OA) (l441 c442 : Nat), ∃ n443 : Int, v438 = (.tuple #[(.slice p440 l441 c442), (.int .i64 n443)]) ∧ l09_LangAlgebra_97 Q E x2 l2 c2 x7 x8 x9 l9 c9 p440 l441 c442 H439) E

def l09_LangAlgebra_100_M (Q : QT) (E : ET) (τ : Tau) (H : Heap) : Prop := mSl (τ 2) fun x2 l2 c2 => mS (τ 7) fun x7 => mS (τ 8) fun x8 => mSl (τ 9) fun x9 l9 c9 => l09_LangAlgebra_100 Q E x2 l2 c2 x7 x8 x9 l9 c9 H

theorem l09_LangAlgebra_101ok (Q : QT) (E : ET) (τ : Tau) (H : Heap) (h : l09_LangAlgebra_100_M Q E τ H) : vc Pr l09_LangAlgebra_p73 τ (l09_LangAlgebra_q41 Q E) E H :=
  vSl (i := 2) h (fun x2 l2 c2 h => vS (i := 7) h (fun x7 h => vS (i := 8) h (fun x8 h => vSl (i := 9) h (fun x9 l9 c9 h => (conv (by kernel_rfl) h)))))

theorem l09_LangAlgebra_102ok (Q : QT) (E : ET) (τ : Tau) (H : Heap) (h : l09_LangAlgebra_100_M Q E τ H) : vc Pr l09_LangAlgebra_p5 τ (l09_LangAlgebra_q1 Q E) E H :=
  (conv (B := vc Pr l09_LangAlgebra_p5 τ (l09_LangAlgebra_q1 Q E) E H) (by kernel_rfl) (vc_seq (K := (l09_LangAlgebra_97_M Q E)) (l09_LangAlgebra_101ok Q E τ H h) (l09_LangAlgebra_99ok Q E)))

@[reducible] noncomputable def l09_LangAlgebra_q42 (Q : QT) (E : ET) : Exit → Tau → Heap → Prop := (xthen (l09_LangAlgebra_100_M Q E) (l09_LangAlgebra_q1 Q E))

@[reducible] noncomputable def l09_LangAlgebra_p74 : Code := sA l09_LangAlgebra_p4

def l09_LangAlgebra_103 (Q : QT) (E : ET) (x2 : OA) (l2 : Nat) (c2 : Nat) (x7 : ByteArray) (x8 : ByteArray) (H : Heap) : Prop :=
 Does Pr 23 #[(.string x7)] H (fun v444 H445 =>
 ∃ (p446 : OA) (l447 c448 : Nat), ∃ n449 : Int, v444 = (.tuple #[(.slice p446 l447 c448), (.int .i64 n449)]) ∧ l09_LangAlgebra_100 Q E x2 l2 c2 x7 x8 p446 l447 c448 H445) E

def l09_LangAlgebra_103_M (Q : QT) (E : ET) (τ : Tau) (H : Heap) : Prop := mSl (τ 2) fun x2 l2 c2 => mS (τ 7) fun x7 => mS (τ 8) fun x8 => l09_LangAlgebra_103 Q E x2 l2 c2 x7 x8 H

theorem l09_LangAlgebra_104ok (Q : QT) (E : ET) (τ : Tau) (H : Heap) (h : l09_LangAlgebra_103_M Q E τ H) : vc Pr l09_LangAlgebra_p74 τ (l09_LangAlgebra_q42 Q E) E H :=
  vSl (i := 2) h (fun x2 l2 c2 h => vS (i := 7) h (fun x7 h => vS (i := 8) h (fun x8 h => (conv (by kernel_rfl) h))))

theorem l09_LangAlgebra_105ok (Q : QT) (E : ET) (τ : Tau) (H : Heap) (h : l09_LangAlgebra_103_M Q E τ H) : vc Pr l09_LangAlgebra_p4 τ (l09_LangAlgebra_q1 Q E) E H :=
  (conv (B := vc Pr l09_LangAlgebra_p4 τ (l09_LangAlgebra_q1 Q E) E H) (by kernel_rfl) (vc_seq (K := (l09_LangAlgebra_100_M Q E)) (l09_LangAlgebra_104ok Q E τ H h) (l09_LangAlgebra_102ok Q E)))

@[reducible] noncomputable def l09_LangAlgebra_q43 (Q : QT) (E : ET) : Exit → Tau → Heap → Prop := (xthen (l09_LangAlgebra_103_M Q E) (l09_LangAlgebra_q1 Q E))

@[reducible] noncomputable def l09_LangAlgebra_p75 : Code := sA l09_LangAlgebra_p3

def l09_LangAlgebra_106 (Q : QT) (E : ET) (x0 : Int) (x1 : Int) (x2 : OA) (l2 : Nat) (c2 : Nat) (H : Heap) : Prop :=
 ∃ Z450 : Nat → Prop,
 Does Pr 21 #[] H (fun v451 H452 =>
 ∃ (p453 : OA) (l454 c455 : Nat), v451 = (.slice p453 l454 c455) ∧ Does Pr 22 #[(.int .i64 x0), (.int .i64 7)] H452 (fun v456 H457 =>
 ∃ n458 : Int, v456 = (.int .i64 n458) ∧ (0 ≤ (n458 : Int) ∧ (n458 : Int) < ((l454 : Nat) : Int)) ∧ ptr p453 fun q459 =>
 Z450 (Addr.block (Addr.add q459 ((n458 : Int).toNat * 1))) ∧ ldS (Addr.add q459 ((n458 : Int).toNat * 1)) H457 fun s460 =>
 Does Pr 21 #[] H457 (fun v461 H462 =>
 ∃ (p463 : OA) (l464 c465 : Nat), v461 = (.slice p463 l464 c465) ∧ (∀ z, Z450 z → H457 z ≠ none → H462 z = H457 z) ∧ Does Pr 22 #[(.int .i64 x1), (.int .i64 7)] H462 (fun v466 H467 =>
 ∃ n468 : Int, v466 = (.int .i64 n468) ∧ (∀ z, Z450 z → H462 z ≠ none → H467 z = H462 z) ∧ (0 ≤ (n468 : Int) ∧ (n468 : Int) < ((l464 : Nat) : Int)) ∧ ptr p463 fun q469 =>
 ldS (Addr.add q469 ((n468 : Int).toNat * 1)) H467 fun s470 =>
 l09_LangAlgebra_103 Q E x2 l2 c2 s460 s470 H467) (fun _ _ => False)) (fun _ _ => False)) (fun _ _ => False)) (fun _ _ => False)

def l09_LangAlgebra_106_M (Q : QT) (E : ET) (τ : Tau) (H : Heap) : Prop := mI .i64 (τ 0) fun x0 => mI .i64 (τ 1) fun x1 => mSl (τ 2) fun x2 l2 c2 => l09_LangAlgebra_106 Q E x0 x1 x2 l2 c2 H

theorem l09_LangAlgebra_107ok (Q : QT) (E : ET) (τ : Tau) (H : Heap) (h : l09_LangAlgebra_106_M Q E τ H) : vc Pr l09_LangAlgebra_p75 τ (l09_LangAlgebra_q43 Q E) E H :=
  vI (i := 0) h (fun x0 h => vI (i := 1) h (fun x1 h => vSl (i := 2) h (fun x2 l2 c2 h => (conv (by kernel_rfl) h))))

theorem l09_LangAlgebra_108ok (Q : QT) (E : ET) (τ : Tau) (H : Heap) (h : l09_LangAlgebra_106_M Q E τ H) : vc Pr l09_LangAlgebra_p3 τ (l09_LangAlgebra_q1 Q E) E H :=
  (conv (B := vc Pr l09_LangAlgebra_p3 τ (l09_LangAlgebra_q1 Q E) E H) (by kernel_rfl) (vc_seq (K := (l09_LangAlgebra_103_M Q E)) (l09_LangAlgebra_107ok Q E τ H h) (l09_LangAlgebra_105ok Q E)))

@[reducible] noncomputable def l09_LangAlgebra_q44 (Q : QT) (E : ET) : Exit → Tau → Heap → Prop := (xthen (l09_LangAlgebra_106_M Q E) (l09_LangAlgebra_q1 Q E))

@[reducible] noncomputable def l09_LangAlgebra_p76 : Code := sA l09_LangAlgebra_p2

def l09_LangAlgebra_109 (Q : QT) (E : ET) (x0 : Int) (x1 : Int) (x2 : OA) (l2 : Nat) (c2 : Nat) (H : Heap) : Prop :=
 sel (decide ((((l2 : Nat) : Int) : Int) > 12))
 (Q (.bool true) H)
 (l09_LangAlgebra_106 Q E x0 x1 x2 l2 c2 H)

def l09_LangAlgebra_109_M (Q : QT) (E : ET) (τ : Tau) (H : Heap) : Prop := mI .i64 (τ 0) fun x0 => mI .i64 (τ 1) fun x1 => mSl (τ 2) fun x2 l2 c2 => l09_LangAlgebra_109 Q E x0 x1 x2 l2 c2 H

theorem l09_LangAlgebra_110ok (Q : QT) (E : ET) (τ : Tau) (H : Heap) (h : l09_LangAlgebra_109_M Q E τ H) : vc Pr l09_LangAlgebra_p76 τ (l09_LangAlgebra_q44 Q E) E H :=
  vI (i := 0) h (fun x0 h => vI (i := 1) h (fun x1 h => vSl (i := 2) h (fun x2 l2 c2 h => (conv (by kernel_rfl) h))))

theorem l09_LangAlgebra_111ok (Q : QT) (E : ET) (τ : Tau) (H : Heap) (h : l09_LangAlgebra_109_M Q E τ H) : vc Pr l09_LangAlgebra_p2 τ (l09_LangAlgebra_q1 Q E) E H :=
  (conv (B := vc Pr l09_LangAlgebra_p2 τ (l09_LangAlgebra_q1 Q E) E H) (by kernel_rfl) (vc_seq (K := (l09_LangAlgebra_106_M Q E)) (l09_LangAlgebra_110ok Q E τ H h) (l09_LangAlgebra_108ok Q E)))

@[reducible] noncomputable def l09_LangAlgebra_q45 (Q : QT) (E : ET) : Exit → Tau → Heap → Prop := (xthen (l09_LangAlgebra_109_M Q E) (l09_LangAlgebra_q1 Q E))

@[reducible] noncomputable def l09_LangAlgebra_p77 : Code := sA l09_LangAlgebra_p1

def l09_LangAlgebra_112 (Q : QT) (E : ET) (x0 : Int) (x1 : Int) (x2 : OA) (l2 : Nat) (c2 : Nat) (H : Heap) : Prop :=
 Does Pr 17 #[] H (fun v471 H472 =>
 ∃ b473 : Bool, v471 = (.bool b473) ∧ sel (!b473)
 (Q (.bool false) H472)
 (l09_LangAlgebra_109 Q E x0 x1 x2 l2 c2 H472)) E

def l09_LangAlgebra_112_M (Q : QT) (E : ET) (τ : Tau) (H : Heap) : Prop := mI .i64 (τ 0) fun x0 => mI .i64 (τ 1) fun x1 => mSl (τ 2) fun x2 l2 c2 => l09_LangAlgebra_112 Q E x0 x1 x2 l2 c2 H

theorem l09_LangAlgebra_113ok (Q : QT) (E : ET) (τ : Tau) (H : Heap) (h : l09_LangAlgebra_112_M Q E τ H) : vc Pr l09_LangAlgebra_p77 τ (l09_LangAlgebra_q45 Q E) E H :=
  vI (i := 0) h (fun x0 h => vI (i := 1) h (fun x1 h => vSl (i := 2) h (fun x2 l2 c2 h => (conv (by kernel_rfl) h))))

theorem l09_LangAlgebra_114ok (Q : QT) (E : ET) (τ : Tau) (H : Heap) (h : l09_LangAlgebra_112_M Q E τ H) : vc Pr l09_LangAlgebra_p1 τ (l09_LangAlgebra_q1 Q E) E H :=
  (conv (B := vc Pr l09_LangAlgebra_p1 τ (l09_LangAlgebra_q1 Q E) E H) (by kernel_rfl) (vc_seq (K := (l09_LangAlgebra_109_M Q E)) (l09_LangAlgebra_113ok Q E τ H h) (l09_LangAlgebra_111ok Q E)))

@[reducible] noncomputable def l09_LangAlgebra_q46 (Q : QT) (E : ET) : Exit → Tau → Heap → Prop := (xthen (l09_LangAlgebra_112_M Q E) (l09_LangAlgebra_q1 Q E))

@[reducible] noncomputable def l09_LangAlgebra_p78 : Code := sA l09_LangAlgebra_p0

def l09_LangAlgebra (Q : QT) (E : ET) (a0 : Int) (a1 : Int) (a2 : OA) (a2l : Nat) (a2c : Nat) (H : Heap) : Prop :=
 l09_LangAlgebra_112 Q E a0 a1 a2 a2l a2c H

theorem l09_LangAlgebra_fn (a0 : Int) (a1 : Int) (a2 : OA) (a2l : Nat) (a2c : Nat) (Q : QT) (E : ET) (H : Heap) (h : l09_LangAlgebra Q E a0 a1 a2 a2l a2c H)   : Does Pr 5 #[(.int .i64 a0), (.int .i64 a1), (.slice a2 a2l a2c)] H Q E :=
  Fn_of_vc (fn := Try.f5) (c := l09_LangAlgebra_p0) (args := [(.int .i64 a0), (.int .i64 a1), (.slice a2 a2l a2c)]) mixed (by kernel_rfl) (by kernel_rfl) (by kernel_rfl) (by kernel_rfl) (by kernel_rfl) ((conv (B := vc Pr l09_LangAlgebra_p0 (argT [(.int .i64 a0), (.int .i64 a1), (.slice a2 a2l a2c)]) (l09_LangAlgebra_q1 Q E) E H) (by kernel_rfl) (vc_seq (K := (l09_LangAlgebra_112_M Q E)) (conv (B := vc Pr l09_LangAlgebra_p78 (argT [(.int .i64 a0), (.int .i64 a1), (.slice a2 a2l a2c)]) (l09_LangAlgebra_q46 Q E) E H) (by kernel_rfl) h) (l09_LangAlgebra_114ok Q E))))

end Go.Proofs.Ytaffcoiomggpfaa
