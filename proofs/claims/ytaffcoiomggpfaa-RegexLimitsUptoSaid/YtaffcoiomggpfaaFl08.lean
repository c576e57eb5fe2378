import Derived.Test.YtaffcoiomggpfaaVPr
/- Printed by gen.py: the Go functions of package l08 over a heap view, and that the model does so. -/
namespace Go.Proofs.Ytaffcoiomggpfaa
open Go.V
set_option linter.unusedVariables false
set_option maxRecDepth 100000
/-! jobmux/jobmuxlaw08.RegexLimits -/
@[reducible] noncomputable def l08_RegexLimits_q1 (Q : QT) (E : ET) : Exit → Tau → Heap → Prop := (retQ Pr (Try.f7).results.toList Q)

@[reducible] noncomputable def l08_RegexLimits_p0 : Code := bodyOf Try.f7

@[reducible] noncomputable def l08_RegexLimits_p1 : Code := sB l08_RegexLimits_p0

@[reducible] noncomputable def l08_RegexLimits_p2 : Code := sB l08_RegexLimits_p1

@[reducible] noncomputable def l08_RegexLimits_p3 : Code := sB l08_RegexLimits_p2

@[reducible] noncomputable def l08_RegexLimits_p4 : Code := sB l08_RegexLimits_p3

@[reducible] noncomputable def l08_RegexLimits_p5 : Code := sB l08_RegexLimits_p4

@[reducible] noncomputable def l08_RegexLimits_p6 : Code := sB l08_RegexLimits_p5

@[reducible] noncomputable def l08_RegexLimits_p7 : Code := sB l08_RegexLimits_p6

@[reducible] noncomputable def l08_RegexLimits_p8 : Code := sB l08_RegexLimits_p7

def l08_RegexLimits_1 (Q : QT) (E : ET)  (H : Heap) : Prop :=
 Q (.bool true) H

def l08_RegexLimits_1_M (Q : QT) (E : ET) (τ : Tau) (H : Heap) : Prop := l08_RegexLimits_1 Q E  H

theorem l08_RegexLimits_2ok (Q : QT) (E : ET) (τ : Tau) (H : Heap) (h : l08_RegexLimits_1_M Q E τ H) : vc Pr l08_RegexLimits_p8 τ (l08_RegexLimits_q1 Q E) E H :=
  (conv (B := vc Pr l08_RegexLimits_p8 τ (l08_RegexLimits_q1 Q E) E H) (by kernel_rfl) h)

@[reducible] noncomputable def l08_RegexLimits_q2 (Q : QT) (E : ET) : Exit → Tau → Heap → Prop := (xthen (l08_RegexLimits_1_M Q E) (l08_RegexLimits_q1 Q E))

@[reducible] noncomputable def l08_RegexLimits_p9 : Code := sA l08_RegexLimits_p7

@[reducible] noncomputable def l08_RegexLimits_p10 : Code := sB l08_RegexLimits_p9

@[reducible] noncomputable def l08_RegexLimits_q3 (Q : QT) (E : ET) : Exit → Tau → Heap → Prop := (xblock 4 (l08_RegexLimits_q2 Q E))

@[reducible] noncomputable def l08_RegexLimits_p11 : Code := sI l08_RegexLimits_p10

@[reducible] noncomputable def l08_RegexLimits_q4 (nx33 : Int → HP) (Q : QT) (E : ET) : Exit → Tau → Heap → Prop := (xthen (fun τ H => mI .i64 (τ 63) fun x63' => nx33 x63' H) (l08_RegexLimits_q3 Q E))

@[reducible] noncomputable def l08_RegexLimits_p12 : Code := sI l08_RegexLimits_p11

@[reducible] noncomputable def l08_RegexLimits_p13 : Code := sB l08_RegexLimits_p12

@[reducible] noncomputable def l08_RegexLimits_p14 : Code := sB l08_RegexLimits_p13

@[reducible] noncomputable def l08_RegexLimits_p15 : Code := sB l08_RegexLimits_p14

def l08_RegexLimits_3 (nx33 : Int → HP) (Q : QT) (E : ET) (x61 : OA) (l61 : Nat) (c61 : Nat) (x62 : Int) (x63 : Int) (H : Heap) : Prop :=
 nx33 (IntKind.wrap .i64 (x63 + 1)) H

def l08_RegexLimits_3_M (nx33 : Int → HP) (Q : QT) (E : ET) (τ : Tau) (H : Heap) : Prop := mSl (τ 61) fun x61 l61 c61 => mI .i64 (τ 62) fun x62 => mI .i64 (τ 63) fun x63 => l08_RegexLimits_3 nx33 Q E x61 l61 c61 x62 x63 H

theorem l08_RegexLimits_4ok (nx33 : Int → HP) (Q : QT) (E : ET) (τ : Tau) (H : Heap) (h : l08_RegexLimits_3_M nx33 Q E τ H) : vc Pr l08_RegexLimits_p15 τ (l08_RegexLimits_q4 nx33 Q E) E H :=
  vSl (i := 61) h (fun x61 l61 c61 h => vI (i := 62) h (fun x62 h => vI (i := 63) h (fun x63 h => (conv (by kernel_rfl) h))))

@[reducible] noncomputable def l08_RegexLimits_q5 (nx33 : Int → HP) (Q : QT) (E : ET) : Exit → Tau → Heap → Prop := (xthen (l08_RegexLimits_3_M nx33 Q E) (l08_RegexLimits_q4 nx33 Q E))

@[reducible] noncomputable def l08_RegexLimits_p16 : Code := sA l08_RegexLimits_p14

@[reducible] noncomputable def l08_RegexLimits_q6 (nx33 : Int → HP) (Q : QT) (E : ET) : Exit → Tau → Heap → Prop := (xblock 5 (l08_RegexLimits_q5 nx33 Q E))

@[reducible] noncomputable def l08_RegexLimits_p17 : Code := sI l08_RegexLimits_p16

@[reducible] noncomputable def l08_RegexLimits_p18 : Code := sB l08_RegexLimits_p17

@[reducible] noncomputable def l08_RegexLimits_p19 : Code := sB l08_RegexLimits_p18

@[reducible] noncomputable def l08_RegexLimits_p20 : Code := sB l08_RegexLimits_p19

@[reducible] noncomputable def l08_RegexLimits_p21 : Code := sB l08_RegexLimits_p20

def l08_RegexLimits_5 (nx33 : Int → HP) (Q : QT) (E : ET) (x61 : OA) (l61 : Nat) (c61 : Nat) (x62 : Int) (x63 : Int) (x85 : Bool) (H : Heap) : Prop :=
 sel x85
 (Q (.bool false) H)
 (l08_RegexLimits_3 nx33 Q E x61 l61 c61 x62 x63 H)

def l08_RegexLimits_5_M (nx33 : Int → HP) (Q : QT) (E : ET) (τ : Tau) (H : Heap) : Prop := mSl (τ 61) fun x61 l61 c61 => mI .i64 (τ 62) fun x62 => mI .i64 (τ 63) fun x63 => mB (τ 85) fun x85 => l08_RegexLimits_5 nx33 Q E x61 l61 c61 x62 x63 x85 H

theorem l08_RegexLimits_6ok (nx33 : Int → HP) (Q : QT) (E : ET) (τ : Tau) (H : Heap) (h : l08_RegexLimits_5_M nx33 Q E τ H) : vc Pr l08_RegexLimits_p21 τ (l08_RegexLimits_q6 nx33 Q E) E H :=
  vSl (i := 61) h (fun x61 l61 c61 h => vI (i := 62) h (fun x62 h => vI (i := 63) h (fun x63 h => vB (i := 85) h (fun x85 h => (conv (by kernel_rfl) h)))))

@[reducible] noncomputable def l08_RegexLimits_q7 (nx33 : Int → HP) (Q : QT) (E : ET) : Exit → Tau → Heap → Prop := (xthen (l08_RegexLimits_5_M nx33 Q E) (l08_RegexLimits_q6 nx33 Q E))

@[reducible] noncomputable def l08_RegexLimits_p22 : Code := sA l08_RegexLimits_p20

def l08_RegexLimits_7 (nx33 : Int → HP) (Q : QT) (E : ET) (x11 : OA) (l11 : Nat) (c11 : Nat) (x12 : Int) (x13 : OA) (l13 : Nat) (c13 : Nat) (x14 : Int) (x61 : OA) (l61 : Nat) (c61 : Nat) (x62 : Int) (x63 : Int) (H : Heap) : Prop :=
 sel ((x12 : Int) != x14)
 (l08_RegexLimits_5 nx33 Q E x61 l61 c61 x62 x63 true H)
 (Does Pr 29 #[(.slice x11 l11 c11), (.slice x13 l13 c13)] H (fun v68 H69 =>
 ∃ b70 : Bool, v68 = (.bool b70) ∧ l08_RegexLimits_5 nx33 Q E x61 l61 c61 x62 x63 (!b70) H69) E)

def l08_RegexLimits_7_M (nx33 : Int → HP) (Q : QT) (E : ET) (τ : Tau) (H : Heap) : Prop := mSl (τ 11) fun x11 l11 c11 => mI .i64 (τ 12) fun x12 => mSl (τ 13) fun x13 l13 c13 => mI .i64 (τ 14) fun x14 => mSl (τ 61) fun x61 l61 c61 => mI .i64 (τ 62) fun x62 => mI .i64 (τ 63) fun x63 => l08_RegexLimits_7 nx33 Q E x11 l11 c11 x12 x13 l13 c13 x14 x61 l61 c61 x62 x63 H

theorem l08_RegexLimits_8ok (nx33 : Int → HP) (Q : QT) (E : ET) (τ : Tau) (H : Heap) (h : l08_RegexLimits_7_M nx33 Q E τ H) : vc Pr l08_RegexLimits_p22 τ (l08_RegexLimits_q7 nx33 Q E) E H :=
  vSl (i := 11) h (fun x11 l11 c11 h => vI (i := 12) h (fun x12 h => vSl (i := 13) h (fun x13 l13 c13 h => vI (i := 14) h (fun x14 h => vSl (i := 61) h (fun x61 l61 c61 h => vI (i := 62) h (fun x62 h => vI (i := 63) h (fun x63 h => (conv (by kernel_rfl) h))))))))

theorem l08_RegexLimits_9ok (nx33 : Int → HP) (Q : QT) (E : ET) (τ : Tau) (H : Heap) (h : l08_RegexLimits_7_M nx33 Q E τ H) : vc Pr l08_RegexLimits_p20 τ (l08_RegexLimits_q6 nx33 Q E) E H :=
  (conv (B := vc Pr l08_RegexLimits_p20 τ (l08_RegexLimits_q6 nx33 Q E) E H) (by kernel_rfl) (vc_seq (K := (l08_RegexLimits_5_M nx33 Q E)) (l08_RegexLimits_8ok nx33 Q E τ H h) (l08_RegexLimits_6ok nx33 Q E)))

@[reducible] noncomputable def l08_RegexLimits_q8 (nx33 : Int → HP) (Q : QT) (E : ET) : Exit → Tau → Heap → Prop := (xthen (l08_RegexLimits_7_M nx33 Q E) (l08_RegexLimits_q6 nx33 Q E))

@[reducible] noncomputable def l08_RegexLimits_p23 : Code := sA l08_RegexLimits_p19

def l08_RegexLimits_10 (nx33 : Int → HP) (Q : QT) (E : ET) (x10 : ByteArray) (x11 : OA) (l11 : Nat) (c11 : Nat) (x12 : Int) (x61 : OA) (l61 : Nat) (c61 : Nat) (x62 : Int) (x63 : Int) (H : Heap) : Prop :=
 Does Pr 23 #[(.string x10)] H (fun v71 H72 =>
 ∃ (p73 : OA) (l74 c75 : Nat), ∃ n76 : Int, v71 = (.tuple #[(.slice p73 l74 c75), (.int .i64 n76)]) ∧ l08_RegexLimits_7 nx33 Q E x11 l11 c11 x12 p73 l74 c75 n76 x61 l61 c61 x62 x63 H72) E

def l08_RegexLimits_10_M (nx33 : Int → HP) (Q : QT) (E : ET) (τ : Tau) (H : Heap) : Prop := mS (τ 10) fun x10 => mSl (τ 11) fun x11 l11 c11 => mI .i64 (τ 12) fun x12 => mSl (τ 61) fun x61 l61 c61 => mI .i64 (τ 62) fun x62 => mI .i64 (τ 63) fun x63 => l08_RegexLimits_10 nx33 Q E x10 x11 l11 c11 x12 x61 l61 c61 x62 x63 H

theorem l08_RegexLimits_11ok (nx33 : Int → HP) (Q : QT) (E : ET) (τ : Tau) (H : Heap) (h : l08_RegexLimits_10_M nx33 Q E τ H) : vc Pr l08_RegexLimits_p23 τ (l08_RegexLimits_q8 nx33 Q E) E H :=
  vS (i := 10) h (fun x10 h => vSl (i := 11) h (fun x11 l11 c11 h => vI (i := 12) h (fun x12 h => vSl (i := 61) h (fun x61 l61 c61 h => vI (i := 62) h (fun x62 h => vI (i := 63) h (fun x63 h => (conv (by kernel_rfl) h)))))))

theorem l08_RegexLimits_12ok (nx33 : Int → HP) (Q : QT) (E : ET) (τ : Tau) (H : Heap) (h : l08_RegexLimits_10_M nx33 Q E τ H) : vc Pr l08_RegexLimits_p19 τ (l08_RegexLimits_q6 nx33 Q E) E H :=
  (conv (B := vc Pr l08_RegexLimits_p19 τ (l08_RegexLimits_q6 nx33 Q E) E H) (by kernel_rfl) (vc_seq (K := (l08_RegexLimits_7_M nx33 Q E)) (l08_RegexLimits_11ok nx33 Q E τ H h) (l08_RegexLimits_9ok nx33 Q E)))

@[reducible] noncomputable def l08_RegexLimits_q9 (nx33 : Int → HP) (Q : QT) (E : ET) : Exit → Tau → Heap → Prop := (xthen (l08_RegexLimits_10_M nx33 Q E) (l08_RegexLimits_q6 nx33 Q E))

@[reducible] noncomputable def l08_RegexLimits_p24 : Code := sA l08_RegexLimits_p18

def l08_RegexLimits_13 (nx33 : Int → HP) (Q : QT) (E : ET) (x10 : ByteArray) (x61 : OA) (l61 : Nat) (c61 : Nat) (x62 : Int) (x63 : Int) (H : Heap) : Prop :=
 Does Pr 28 #[(.string x10)] H (fun v77 H78 =>
 ∃ (p79 : OA) (l80 c81 : Nat), ∃ n82 : Int, v77 = (.tuple #[(.slice p79 l80 c81), (.int .i64 n82)]) ∧ l08_RegexLimits_10 nx33 Q E x10 p79 l80 c81 n82 x61 l61 c61 x62 x63 H78) E

def l08_RegexLimits_13_M (nx33 : Int → HP) (Q : QT) (E : ET) (τ : Tau) (H : Heap) : Prop := mS (τ 10) fun x10 => mSl (τ 61) fun x61 l61 c61 => mI .i64 (τ 62) fun x62 => mI .i64 (τ 63) fun x63 => l08_RegexLimits_13 nx33 Q E x10 x61 l61 c61 x62 x63 H

theorem l08_RegexLimits_14ok (nx33 : Int → HP) (Q : QT) (E : ET) (τ : Tau) (H : Heap) (h : l08_RegexLimits_13_M nx33 Q E τ H) : vc Pr l08_RegexLimits_p24 τ (l08_RegexLimits_q9 nx33 Q E) E H :=
  vS (i := 10) h (fun x10 h => vSl (i := 61) h (fun x61 l61 c61 h => vI (i := 62) h (fun x62 h => vI (i := 63) h (fun x63 h => (conv (by kernel_rfl) h)))))

theorem l08_RegexLimits_15ok (nx33 : Int → HP) (Q : QT) (E : ET) (τ : Tau) (H : Heap) (h : l08_RegexLimits_13_M nx33 Q E τ H) : vc Pr l08_RegexLimits_p18 τ (l08_RegexLimits_q6 nx33 Q E) E H :=
  (conv (B := vc Pr l08_RegexLimits_p18 τ (l08_RegexLimits_q6 nx33 Q E) E H) (by kernel_rfl) (vc_seq (K := (l08_RegexLimits_10_M nx33 Q E)) (l08_RegexLimits_14ok nx33 Q E τ H h) (l08_RegexLimits_12ok nx33 Q E)))

@[reducible] noncomputable def l08_RegexLimits_q10 (nx33 : Int → HP) (Q : QT) (E : ET) : Exit → Tau → Heap → Prop := (xthen (l08_RegexLimits_13_M nx33 Q E) (l08_RegexLimits_q6 nx33 Q E))

@[reducible] noncomputable def l08_RegexLimits_p25 : Code := sA l08_RegexLimits_p17

def l08_RegexLimits_16 (nx33 : Int → HP) (Q : QT) (E : ET) (x61 : OA) (l61 : Nat) (c61 : Nat) (x62 : Int) (x63 : Int) (H : Heap) : Prop :=
 (0 ≤ (x63 : Int) ∧ (x63 : Int) < ((l61 : Nat) : Int)) ∧ ptr x61 fun q83 =>
 ldS (Addr.add q83 ((x63 : Int).toNat * 1)) H fun s84 =>
 l08_RegexLimits_13 nx33 Q E s84 x61 l61 c61 x62 x63 H

def l08_RegexLimits_16_M (nx33 : Int → HP) (Q : QT) (E : ET) (τ : Tau) (H : Heap) : Prop := mSl (τ 61) fun x61 l61 c61 => mI .i64 (τ 62) fun x62 => mI .i64 (τ 63) fun x63 => l08_RegexLimits_16 nx33 Q E x61 l61 c61 x62 x63 H

theorem l08_RegexLimits_17ok (nx33 : Int → HP) (Q : QT) (E : ET) (τ : Tau) (H : Heap) (h : l08_RegexLimits_16_M nx33 Q E τ H) : vc Pr l08_RegexLimits_p25 τ (l08_RegexLimits_q10 nx33 Q E) E H :=
  vSl (i := 61) h (fun x61 l61 c61 h => vI (i := 62) h (fun x62 h => vI (i := 63) h (fun x63 h => (conv (by kernel_rfl) h))))

theorem l08_RegexLimits_18ok (nx33 : Int → HP) (Q : QT) (E : ET) (τ : Tau) (H : Heap) (h : l08_RegexLimits_16_M nx33 Q E τ H) : vc Pr l08_RegexLimits_p17 τ (l08_RegexLimits_q6 nx33 Q E) E H :=
  (conv (B := vc Pr l08_RegexLimits_p17 τ (l08_RegexLimits_q6 nx33 Q E) E H) (by kernel_rfl) (vc_seq (K := (l08_RegexLimits_13_M nx33 Q E)) (l08_RegexLimits_17ok nx33 Q E τ H h) (l08_RegexLimits_15ok nx33 Q E)))

theorem l08_RegexLimits_19ok (nx33 : Int → HP) (Q : QT) (E : ET) (τ : Tau) (H : Heap) (h : l08_RegexLimits_16_M nx33 Q E τ H) : vc Pr l08_RegexLimits_p16 τ (l08_RegexLimits_q5 nx33 Q E) E H :=
  (conv (B := vc Pr l08_RegexLimits_p16 τ (l08_RegexLimits_q5 nx33 Q E) E H) (by kernel_rfl) (l08_RegexLimits_18ok nx33 Q E τ H h))

theorem l08_RegexLimits_20ok (nx33 : Int → HP) (Q : QT) (E : ET) (τ : Tau) (H : Heap) (h : l08_RegexLimits_16_M nx33 Q E τ H) : vc Pr l08_RegexLimits_p14 τ (l08_RegexLimits_q4 nx33 Q E) E H :=
  (conv (B := vc Pr l08_RegexLimits_p14 τ (l08_RegexLimits_q4 nx33 Q E) E H) (by kernel_rfl) (vc_seq (K := (l08_RegexLimits_3_M nx33 Q E)) (l08_RegexLimits_19ok nx33 Q E τ H h) (l08_RegexLimits_4ok nx33 Q E)))

@[reducible] noncomputable def l08_RegexLimits_q11 (nx33 : Int → HP) (Q : QT) (E : ET) : Exit → Tau → Heap → Prop := (xthen (l08_RegexLimits_16_M nx33 Q E) (l08_RegexLimits_q4 nx33 Q E))

@[reducible] noncomputable def l08_RegexLimits_p26 : Code := sA l08_RegexLimits_p13

def l08_RegexLimits_21 (nx33 : Int → HP) (Q : QT) (E : ET) (x61 : OA) (l61 : Nat) (c61 : Nat) (x62 : Int) (x63 : Int) (x64 : Bool) (H : Heap) : Prop :=
 sel x64
 (l08_RegexLimits_16 nx33 Q E x61 l61 c61 x62 x63 H)
 (l08_RegexLimits_1 Q E  H)

def l08_RegexLimits_21_M (nx33 : Int → HP) (Q : QT) (E : ET) (τ : Tau) (H : Heap) : Prop := mSl (τ 61) fun x61 l61 c61 => mI .i64 (τ 62) fun x62 => mI .i64 (τ 63) fun x63 => mB (τ 64) fun x64 => l08_RegexLimits_21 nx33 Q E x61 l61 c61 x62 x63 x64 H

theorem l08_RegexLimits_22ok (nx33 : Int → HP) (Q : QT) (E : ET) (τ : Tau) (H : Heap) (h : l08_RegexLimits_21_M nx33 Q E τ H) : vc Pr l08_RegexLimits_p26 τ (l08_RegexLimits_q11 nx33 Q E) E H :=
  vSl (i := 61) h (fun x61 l61 c61 h => vI (i := 62) h (fun x62 h => vI (i := 63) h (fun x63 h => vB (i := 64) h (fun x64 h => (conv (by kernel_rfl) h)))))

theorem l08_RegexLimits_23ok (nx33 : Int → HP) (Q : QT) (E : ET) (τ : Tau) (H : Heap) (h : l08_RegexLimits_21_M nx33 Q E τ H) : vc Pr l08_RegexLimits_p13 τ (l08_RegexLimits_q4 nx33 Q E) E H :=
  (conv (B := vc Pr l08_RegexLimits_p13 τ (l08_RegexLimits_q4 nx33 Q E) E H) (by kernel_rfl) (vc_seq (K := (l08_RegexLimits_16_M nx33 Q E)) (l08_RegexLimits_22ok nx33 Q E τ H h) (l08_RegexLimits_20ok nx33 Q E)))

@[reducible] noncomputable def l08_RegexLimits_q12 (nx33 : Int → HP) (Q : QT) (E : ET) : Exit → Tau → Heap → Prop := (xthen (l08_RegexLimits_21_M nx33 Q E) (l08_RegexLimits_q4 nx33 Q E))

@[reducible] noncomputable def l08_RegexLimits_p27 : Code := sA l08_RegexLimits_p12

def l08_RegexLimits_24 (nx33 : Int → HP) (Q : QT) (E : ET) (x61 : OA) (l61 : Nat) (c61 : Nat) (x62 : Int) (x63 : Int) (H : Heap) : Prop :=
 l08_RegexLimits_21 nx33 Q E x61 l61 c61 x62 x63 (decide ((x63 : Int) < x62)) H

def l08_RegexLimits_24_M (nx33 : Int → HP) (Q : QT) (E : ET) (τ : Tau) (H : Heap) : Prop := mSl (τ 61) fun x61 l61 c61 => mI .i64 (τ 62) fun x62 => mI .i64 (τ 63) fun x63 => l08_RegexLimits_24 nx33 Q E x61 l61 c61 x62 x63 H

theorem l08_RegexLimits_25ok (nx33 : Int → HP) (Q : QT) (E : ET) (τ : Tau) (H : Heap) (h : l08_RegexLimits_24_M nx33 Q E τ H) : vc Pr l08_RegexLimits_p27 τ (l08_RegexLimits_q12 nx33 Q E) E H :=
  vSl (i := 61) h (fun x61 l61 c61 h => vI (i := 62) h (fun x62 h => vI (i := 63) h (fun x63 h => (conv (by kernel_rfl) h))))

theorem l08_RegexLimits_26ok (nx33 : Int → HP) (Q : QT) (E : ET) (τ : Tau) (H : Heap) (h : l08_RegexLimits_24_M nx33 Q E τ H) : vc Pr l08_RegexLimits_p12 τ (l08_RegexLimits_q4 nx33 Q E) E H :=
  (conv (B := vc Pr l08_RegexLimits_p12 τ (l08_RegexLimits_q4 nx33 Q E) E H) (by kernel_rfl) (vc_seq (K := (l08_RegexLimits_21_M nx33 Q E)) (l08_RegexLimits_25ok nx33 Q E τ H h) (l08_RegexLimits_23ok nx33 Q E)))

def l08_RegexLimits_27 (Q : QT) (E : ET) (x61 : OA) (l61 : Nat) (c61 : Nat) (x62 : Int) (x63 : Int) (H : Heap) : Prop :=
 ∃ (I : Int → HP) (μ : Int → Heap → Nat), I x63 H ∧ ∀ (x63 : Int) (H : Heap), I x63 H →
 l08_RegexLimits_24 (fun x63' H1 => I x63' H1 ∧ μ x63' H1 < μ x63 H) Q E x61 l61 c61 x62 x63 H

def l08_RegexLimits_27_M (Q : QT) (E : ET) (τ : Tau) (H : Heap) : Prop := mSl (τ 61) fun x61 l61 c61 => mI .i64 (τ 62) fun x62 => mI .i64 (τ 63) fun x63 => l08_RegexLimits_27 Q E x61 l61 c61 x62 x63 H

theorem l08_RegexLimits_28ok (Q : QT) (E : ET) (τ : Tau) (H : Heap) (h : l08_RegexLimits_27_M Q E τ H) : vc Pr l08_RegexLimits_p11 τ (l08_RegexLimits_q3 Q E) E H :=
  vSl (i := 61) h (fun x61 l61 c61 h => vI (i := 62) h (fun x62 h => vI (i := 63) h (fun x63 h => match h with | ⟨I, μ, h0, hr⟩ => (conv (B := vc Pr l08_RegexLimits_p11 (Tau.upd (Tau.upd (Tau.upd τ 61 (.slice x61 l61 c61)) 62 (.int .i64 x62)) 63 (.int .i64 x63)) (l08_RegexLimits_q3 Q E) E H) (by kernel_rfl) (vc_loop (c := sI l08_RegexLimits_p11) (τ := (Tau.upd (Tau.upd (Tau.upd τ 61 (.slice x61 l61 c61)) 62 (.int .i64 x62)) 63 (.int .i64 x63))) [61, 62] (fun τ H => mI .i64 (τ 63) fun x63' => I x63' H) (fun τ H => μ (gI (τ 63)) H) (by kernel_rfl) h0 (fun τ1 H1 hf hI => fix_elim (τ := τ1) (i := 61) (v := (.slice x61 l61 c61)) (G := fun τ => vc Pr (sI l08_RegexLimits_p11) τ (xthen (fun τ2 H2 => (mI .i64 (τ2 63) fun x63' => I x63' H2) ∧ μ (gI (τ2 63)) H2 < μ (gI (τ 63)) H1) (l08_RegexLimits_q3 Q E)) E H1) (hf 61 (by simp)) (fix_elim (τ := (Tau.upd τ1 61 (.slice x61 l61 c61))) (i := 62) (v := (.int .i64 x62)) (G := fun τ => vc Pr (sI l08_RegexLimits_p11) τ (xthen (fun τ2 H2 => (mI .i64 (τ2 63) fun x63' => I x63' H2) ∧ μ (gI (τ2 63)) H2 < μ (gI (τ 63)) H1) (l08_RegexLimits_q3 Q E)) E H1) (hf 62 (by simp)) (mI_elim (i := 63) (G := fun τ => vc Pr (sI l08_RegexLimits_p11) τ (xthen (fun τ2 H2 => (mI .i64 (τ2 63) fun x63' => I x63' H2) ∧ μ (gI (τ2 63)) H2 < μ (gI (τ 63)) H1) (l08_RegexLimits_q3 Q E)) E H1) hI (fun x63r h => (conv (B := vc Pr (sI l08_RegexLimits_p11) (Tau.upd (Tau.upd (Tau.upd τ1 61 (.slice x61 l61 c61)) 62 (.int .i64 x62)) 63 (.int .i64 x63r)) (xthen (fun τ2 H2 => (mI .i64 (τ2 63) fun x63' => I x63' H2) ∧ μ (gI (τ2 63)) H2 < μ (gI ((Tau.upd (Tau.upd (Tau.upd τ1 61 (.slice x61 l61 c61)) 62 (.int .i64 x62)) 63 (.int .i64 x63r)) 63)) H1) (l08_RegexLimits_q3 Q E)) E H1) (by kernel_rfl) (vc_xthen (l08_RegexLimits_26ok (fun x63' H2 => I x63' H2 ∧ μ x63' H2 < μ x63r H1) Q E (Tau.upd (Tau.upd (Tau.upd τ1 61 (.slice x61 l61 c61)) 62 (.int .i64 x62)) 63 (.int .i64 x63r)) H1 (conv (B := l08_RegexLimits_24_M (fun x63' H2 => I x63' H2 ∧ μ x63' H2 < μ x63r H1) Q E (Tau.upd (Tau.upd (Tau.upd τ1 61 (.slice x61 l61 c61)) 62 (.int .i64 x62)) 63 (.int .i64 x63r)) H1) (by kernel_rfl) (hr x63r H1 h))) (fun τ2 H2 hk => mI_elim (i := 63) (G := fun τ => (mI .i64 (τ 63) fun x63' => I x63' H2) ∧ μ (gI (τ 63)) H2 < μ x63r H1) hk (fun x63' h => h)))))))))))))

theorem l08_RegexLimits_29ok (Q : QT) (E : ET) (τ : Tau) (H : Heap) (h : l08_RegexLimits_27_M Q E τ H) : vc Pr l08_RegexLimits_p10 τ (l08_RegexLimits_q2 Q E) E H :=
  (conv (B := vc Pr l08_RegexLimits_p10 τ (l08_RegexLimits_q2 Q E) E H) (by kernel_rfl) (l08_RegexLimits_28ok Q E τ H h))

@[reducible] noncomputable def l08_RegexLimits_q13 (Q : QT) (E : ET) : Exit → Tau → Heap → Prop := (xthen (l08_RegexLimits_27_M Q E) (l08_RegexLimits_q2 Q E))

@[reducible] noncomputable def l08_RegexLimits_p28 : Code := sA l08_RegexLimits_p9

def l08_RegexLimits_30 (Q : QT) (E : ET) (x4 : ByteArray) (x5 : ByteArray) (x6 : ByteArray) (x8 : ByteArray) (H : Heap) : Prop :=
 (((x5 : ByteArray).size + (⟨[97].toArray⟩ : ByteArray).size : Nat) : Int) ≤ 9223372036854775807 ∧ ((((x5 ++ ⟨[97].toArray⟩) : ByteArray).size + (x8 : ByteArray).size : Nat) : Int) ≤ 9223372036854775807 ∧ (0 ≤ ((if (10 : Int) < ((ByteArray.size x6 : Nat) : Int) then 10 else ((ByteArray.size x6 : Nat) : Int)) : Int) ∧ ((if (10 : Int) < ((ByteArray.size x6 : Nat) : Int) then 10 else ((ByteArray.size x6 : Nat) : Int)) : Int) ≤ ((ByteArray.size x6 : Nat) : Int)) ∧ (((x6 : ByteArray).size + ((ByteArray.extract x6 0 (((if (10 : Int) < ((ByteArray.size x6 : Nat) : Int) then 10 else ((ByteArray.size x6 : Nat) : Int)) : Int).toNat)) : ByteArray).size : Nat) : Int) ≤ 9223372036854775807 ∧ nw (.cells #[(.string x4), (.string ((x5 ++ ⟨[97].toArray⟩) ++ x8)), (.string x5), (.string x6), (.string (x6 ++ (ByteArray.extract x6 0 (((if (10 : Int) < ((ByteArray.size x6 : Nat) : Int) then 10 else ((ByteArray.size x6 : Nat) : Int)) : Int).toNat))))] 9 (0, 0)) H fun i85 H86 =>
 l08_RegexLimits_27 Q E (some ⟨i85, 0, none⟩) 5 5 5 0 H86

def l08_RegexLimits_30_M (Q : QT) (E : ET) (τ : Tau) (H : Heap) : Prop := mS (τ 4) fun x4 => mS (τ 5) fun x5 => mS (τ 6) fun x6 => mS (τ 8) fun x8 => l08_RegexLimits_30 Q E x4 x5 x6 x8 H

theorem l08_RegexLimits_31ok (Q : QT) (E : ET) (τ : Tau) (H : Heap) (h : l08_RegexLimits_30_M Q E τ H) : vc Pr l08_RegexLimits_p28 τ (l08_RegexLimits_q13 Q E) E H :=
  vS (i := 4) h (fun x4 h => vS (i := 5) h (fun x5 h => vS (i := 6) h (fun x6 h => vS (i := 8) h (fun x8 h => (conv (by kernel_rfl) h)))))

theorem l08_RegexLimits_32ok (Q : QT) (E : ET) (τ : Tau) (H : Heap) (h : l08_RegexLimits_30_M Q E τ H) : vc Pr l08_RegexLimits_p9 τ (l08_RegexLimits_q2 Q E) E H :=
  (conv (B := vc Pr l08_RegexLimits_p9 τ (l08_RegexLimits_q2 Q E) E H) (by kernel_rfl) (vc_seq (K := (l08_RegexLimits_27_M Q E)) (l08_RegexLimits_31ok Q E τ H h) (l08_RegexLimits_29ok Q E)))

theorem l08_RegexLimits_33ok (Q : QT) (E : ET) (τ : Tau) (H : Heap) (h : l08_RegexLimits_30_M Q E τ H) : vc Pr l08_RegexLimits_p7 τ (l08_RegexLimits_q1 Q E) E H :=
  (conv (B := vc Pr l08_RegexLimits_p7 τ (l08_RegexLimits_q1 Q E) E H) (by kernel_rfl) (vc_seq (K := (l08_RegexLimits_1_M Q E)) (l08_RegexLimits_32ok Q E τ H h) (l08_RegexLimits_2ok Q E)))

@[reducible] noncomputable def l08_RegexLimits_q14 (Q : QT) (E : ET) : Exit → Tau → Heap → Prop := (xthen (l08_RegexLimits_30_M Q E) (l08_RegexLimits_q1 Q E))

@[reducible] noncomputable def l08_RegexLimits_p29 : Code := sA l08_RegexLimits_p6

@[reducible] noncomputable def l08_RegexLimits_p30 : Code := sB l08_RegexLimits_p29

@[reducible] noncomputable def l08_RegexLimits_q15 (Q : QT) (E : ET) : Exit → Tau → Heap → Prop := (xblock 2 (l08_RegexLimits_q14 Q E))

@[reducible] noncomputable def l08_RegexLimits_p31 : Code := sI l08_RegexLimits_p30

@[reducible] noncomputable def l08_RegexLimits_q16 (nx89 : ByteArray → HP) (Q : QT) (E : ET) : Exit → Tau → Heap → Prop := (xthen (fun τ H => mS (τ 8) fun x8' => nx89 x8' H) (l08_RegexLimits_q15 Q E))

@[reducible] noncomputable def l08_RegexLimits_p32 : Code := sI l08_RegexLimits_p31

@[reducible] noncomputable def l08_RegexLimits_p33 : Code := sB l08_RegexLimits_p32

@[reducible] noncomputable def l08_RegexLimits_p34 : Code := sB l08_RegexLimits_p33

def l08_RegexLimits_34 (nx89 : ByteArray → HP) (Q : QT) (E : ET) (x4 : ByteArray) (x5 : ByteArray) (x6 : ByteArray) (x8 : ByteArray) (x42 : OA) (H : Heap) : Prop :=
 (((x8 : ByteArray).size + (⟨[41].toArray⟩ : ByteArray).size : Nat) : Int) ≤ 9223372036854775807 ∧ nx89 (x8 ++ ⟨[41].toArray⟩) H

def l08_RegexLimits_34_M (nx89 : ByteArray → HP) (Q : QT) (E : ET) (τ : Tau) (H : Heap) : Prop := mS (τ 4) fun x4 => mS (τ 5) fun x5 => mS (τ 6) fun x6 => mS (τ 8) fun x8 => mP (τ 42) fun x42 => l08_RegexLimits_34 nx89 Q E x4 x5 x6 x8 x42 H

theorem l08_RegexLimits_35ok (nx89 : ByteArray → HP) (Q : QT) (E : ET) (τ : Tau) (H : Heap) (h : l08_RegexLimits_34_M nx89 Q E τ H) : vc Pr l08_RegexLimits_p34 τ (l08_RegexLimits_q16 nx89 Q E) E H :=
  vS (i := 4) h (fun x4 h => vS (i := 5) h (fun x5 h => vS (i := 6) h (fun x6 h => vS (i := 8) h (fun x8 h => vP (i := 42) h (fun x42 h => (conv (by kernel_rfl) h))))))

@[reducible] noncomputable def l08_RegexLimits_q17 (nx89 : ByteArray → HP) (Q : QT) (E : ET) : Exit → Tau → Heap → Prop := (xthen (l08_RegexLimits_34_M nx89 Q E) (l08_RegexLimits_q16 nx89 Q E))

@[reducible] noncomputable def l08_RegexLimits_p35 : Code := sA l08_RegexLimits_p33

def l08_RegexLimits_36 (nx89 : ByteArray → HP) (Q : QT) (E : ET) (x4 : ByteArray) (x5 : ByteArray) (x6 : ByteArray) (x8 : ByteArray) (x42 : OA) (x44 : Bool) (H : Heap) : Prop :=
 sel x44
 (l08_RegexLimits_34 nx89 Q E x4 x5 x6 x8 x42 H)
 (l08_RegexLimits_30 Q E x4 x5 x6 x8 H)

def l08_RegexLimits_36_M (nx89 : ByteArray → HP) (Q : QT) (E : ET) (τ : Tau) (H : Heap) : Prop := mS (τ 4) fun x4 => mS (τ 5) fun x5 => mS (τ 6) fun x6 => mS (τ 8) fun x8 => mP (τ 42) fun x42 => mB (τ 44) fun x44 => l08_RegexLimits_36 nx89 Q E x4 x5 x6 x8 x42 x44 H

theorem l08_RegexLimits_37ok (nx89 : ByteArray → HP) (Q : QT) (E : ET) (τ : Tau) (H : Heap) (h : l08_RegexLimits_36_M nx89 Q E τ H) : vc Pr l08_RegexLimits_p35 τ (l08_RegexLimits_q17 nx89 Q E) E H :=
  vS (i := 4) h (fun x4 h => vS (i := 5) h (fun x5 h => vS (i := 6) h (fun x6 h => vS (i := 8) h (fun x8 h => vP (i := 42) h (fun x42 h => vB (i := 44) h (fun x44 h => (conv (by kernel_rfl) h)))))))

theorem l08_RegexLimits_38ok (nx89 : ByteArray → HP) (Q : QT) (E : ET) (τ : Tau) (H : Heap) (h : l08_RegexLimits_36_M nx89 Q E τ H) : vc Pr l08_RegexLimits_p33 τ (l08_RegexLimits_q16 nx89 Q E) E H :=
  (conv (B := vc Pr l08_RegexLimits_p33 τ (l08_RegexLimits_q16 nx89 Q E) E H) (by kernel_rfl) (vc_seq (K := (l08_RegexLimits_34_M nx89 Q E)) (l08_RegexLimits_37ok nx89 Q E τ H h) (l08_RegexLimits_35ok nx89 Q E)))

@[reducible] noncomputable def l08_RegexLimits_q18 (nx89 : ByteArray → HP) (Q : QT) (E : ET) : Exit → Tau → Heap → Prop := (xthen (l08_RegexLimits_36_M nx89 Q E) (l08_RegexLimits_q16 nx89 Q E))

@[reducible] noncomputable def l08_RegexLimits_p36 : Code := sA l08_RegexLimits_p32

def l08_RegexLimits_39 (nx89 : ByteArray → HP) (Q : QT) (E : ET) (x4 : ByteArray) (x5 : ByteArray) (x6 : ByteArray) (x8 : ByteArray) (x42 : OA) (H : Heap) : Prop :=
 ptr x42 fun q95 =>
 nx q95 H
 (fun (p96 : Nat) (n97 : Int) H98 =>
 l08_RegexLimits_36 nx89 Q E x4 x5 x6 x8 x42 true H98)
 (fun H99 =>
 l08_RegexLimits_36 nx89 Q E x4 x5 x6 x8 x42 false H99)

def l08_RegexLimits_39_M (nx89 : ByteArray → HP) (Q : QT) (E : ET) (τ : Tau) (H : Heap) : Prop := mS (τ 4) fun x4 => mS (τ 5) fun x5 => mS (τ 6) fun x6 => mS (τ 8) fun x8 => mP (τ 42) fun x42 => l08_RegexLimits_39 nx89 Q E x4 x5 x6 x8 x42 H

theorem l08_RegexLimits_40ok (nx89 : ByteArray → HP) (Q : QT) (E : ET) (τ : Tau) (H : Heap) (h : l08_RegexLimits_39_M nx89 Q E τ H) : vc Pr l08_RegexLimits_p36 τ (l08_RegexLimits_q18 nx89 Q E) E H :=
  vS (i := 4) h (fun x4 h => vS (i := 5) h (fun x5 h => vS (i := 6) h (fun x6 h => vS (i := 8) h (fun x8 h => vP (i := 42) h (fun x42 h => (conv (by kernel_rfl) h))))))

theorem l08_RegexLimits_41ok (nx89 : ByteArray → HP) (Q : QT) (E : ET) (τ : Tau) (H : Heap) (h : l08_RegexLimits_39_M nx89 Q E τ H) : vc Pr l08_RegexLimits_p32 τ (l08_RegexLimits_q16 nx89 Q E) E H :=
  (conv (B := vc Pr l08_RegexLimits_p32 τ (l08_RegexLimits_q16 nx89 Q E) E H) (by kernel_rfl) (vc_seq (K := (l08_RegexLimits_36_M nx89 Q E)) (l08_RegexLimits_40ok nx89 Q E τ H h) (l08_RegexLimits_38ok nx89 Q E)))

def l08_RegexLimits_42 (Q : QT) (E : ET) (x4 : ByteArray) (x5 : ByteArray) (x6 : ByteArray) (x42 : OA) (x8 : ByteArray) (H : Heap) : Prop :=
 ∃ (I : ByteArray → HP) (μ : ByteArray → Heap → Nat), I x8 H ∧ ∀ (x8 : ByteArray) (H : Heap), I x8 H →
 l08_RegexLimits_39 (fun x8' H1 => I x8' H1 ∧ μ x8' H1 < μ x8 H) Q E x4 x5 x6 x8 x42 H

def l08_RegexLimits_42_M (Q : QT) (E : ET) (τ : Tau) (H : Heap) : Prop := mS (τ 4) fun x4 => mS (τ 5) fun x5 => mS (τ 6) fun x6 => mP (τ 42) fun x42 => mS (τ 8) fun x8 => l08_RegexLimits_42 Q E x4 x5 x6 x42 x8 H

theorem l08_RegexLimits_43ok (Q : QT) (E : ET) (τ : Tau) (H : Heap) (h : l08_RegexLimits_42_M Q E τ H) : vc Pr l08_RegexLimits_p31 τ (l08_RegexLimits_q15 Q E) E H :=
  vS (i := 4) h (fun x4 h => vS (i := 5) h (fun x5 h => vS (i := 6) h (fun x6 h => vP (i := 42) h (fun x42 h => vS (i := 8) h (fun x8 h => match h with | ⟨I, μ, h0, hr⟩ => (conv (B := vc Pr l08_RegexLimits_p31 (Tau.upd (Tau.upd (Tau.upd (Tau.upd (Tau.upd τ 4 (.string x4)) 5 (.string x5)) 6 (.string x6)) 42 (.pointer x42)) 8 (.string x8)) (l08_RegexLimits_q15 Q E) E H) (by kernel_rfl) (vc_loop (c := sI l08_RegexLimits_p31) (τ := (Tau.upd (Tau.upd (Tau.upd (Tau.upd (Tau.upd τ 4 (.string x4)) 5 (.string x5)) 6 (.string x6)) 42 (.pointer x42)) 8 (.string x8))) [4, 5, 6, 42] (fun τ H => mS (τ 8) fun x8' => I x8' H) (fun τ H => μ (gS (τ 8)) H) (by kernel_rfl) h0 (fun τ1 H1 hf hI => fix_elim (τ := τ1) (i := 4) (v := (.string x4)) (G := fun τ => vc Pr (sI l08_RegexLimits_p31) τ (xthen (fun τ2 H2 => (mS (τ2 8) fun x8' => I x8' H2) ∧ μ (gS (τ2 8)) H2 < μ (gS (τ 8)) H1) (l08_RegexLimits_q15 Q E)) E H1) (hf 4 (by simp)) (fix_elim (τ := (Tau.upd τ1 4 (.string x4))) (i := 5) (v := (.string x5)) (G := fun τ => vc Pr (sI l08_RegexLimits_p31) τ (xthen (fun τ2 H2 => (mS (τ2 8) fun x8' => I x8' H2) ∧ μ (gS (τ2 8)) H2 < μ (gS (τ 8)) H1) (l08_RegexLimits_q15 Q E)) E H1) (hf 5 (by simp)) (fix_elim (τ := (Tau.upd (Tau.upd τ1 4 (.string x4)) 5 (.string x5))) (i := 6) (v := (.string x6)) (G := fun τ => vc Pr (sI l08_RegexLimits_p31) τ (xthen (fun τ2 H2 => (mS (τ2 8) fun x8' => I x8' H2) ∧ μ (gS (τ2 8)) H2 < μ (gS (τ 8)) H1) (l08_RegexLimits_q15 Q E)) E H1) (hf 6 (by simp)) (fix_elim (τ := (Tau.upd (Tau.upd (Tau.upd τ1 4 (.string x4)) 5 (.string x5)) 6 (.string x6))) (i := 42) (v := (.pointer x42)) (G := fun τ => vc Pr (sI l08_RegexLimits_p31) τ (xthen (fun τ2 H2 => (mS (τ2 8) fun x8' => I x8' H2) ∧ μ (gS (τ2 8)) H2 < μ (gS (τ 8)) H1) (l08_RegexLimits_q15 Q E)) E H1) (hf 42 (by simp)) (mS_elim (i := 8) (G := fun τ => vc Pr (sI l08_RegexLimits_p31) τ (xthen (fun τ2 H2 => (mS (τ2 8) fun x8' => I x8' H2) ∧ μ (gS (τ2 8)) H2 < μ (gS (τ 8)) H1) (l08_RegexLimits_q15 Q E)) E H1) hI (fun x8r h => (conv (B := vc Pr (sI l08_RegexLimits_p31) (Tau.upd (Tau.upd (Tau.upd (Tau.upd (Tau.upd τ1 4 (.string x4)) 5 (.string x5)) 6 (.string x6)) 42 (.pointer x42)) 8 (.string x8r)) (xthen (fun τ2 H2 => (mS (τ2 8) fun x8' => I x8' H2) ∧ μ (gS (τ2 8)) H2 < μ (gS ((Tau.upd (Tau.upd (Tau.upd (Tau.upd (Tau.upd τ1 4 (.string x4)) 5 (.string x5)) 6 (.string x6)) 42 (.pointer x42)) 8 (.string x8r)) 8)) H1) (l08_RegexLimits_q15 Q E)) E H1) (by kernel_rfl) (vc_xthen (l08_RegexLimits_41ok (fun x8' H2 => I x8' H2 ∧ μ x8' H2 < μ x8r H1) Q E (Tau.upd (Tau.upd (Tau.upd (Tau.upd (Tau.upd τ1 4 (.string x4)) 5 (.string x5)) 6 (.string x6)) 42 (.pointer x42)) 8 (.string x8r)) H1 (conv (B := l08_RegexLimits_39_M (fun x8' H2 => I x8' H2 ∧ μ x8' H2 < μ x8r H1) Q E (Tau.upd (Tau.upd (Tau.upd (Tau.upd (Tau.upd τ1 4 (.string x4)) 5 (.string x5)) 6 (.string x6)) 42 (.pointer x42)) 8 (.string x8r)) H1) (by kernel_rfl) (hr x8r H1 h))) (fun τ2 H2 hk => mS_elim (i := 8) (G := fun τ => (mS (τ 8) fun x8' => I x8' H2) ∧ μ (gS (τ 8)) H2 < μ x8r H1) hk (fun x8' h => h)))))))))))))))))

theorem l08_RegexLimits_44ok (Q : QT) (E : ET) (τ : Tau) (H : Heap) (h : l08_RegexLimits_42_M Q E τ H) : vc Pr l08_RegexLimits_p30 τ (l08_RegexLimits_q14 Q E) E H :=
  (conv (B := vc Pr l08_RegexLimits_p30 τ (l08_RegexLimits_q14 Q E) E H) (by kernel_rfl) (l08_RegexLimits_43ok Q E τ H h))

@[reducible] noncomputable def l08_RegexLimits_q19 (Q : QT) (E : ET) : Exit → Tau → Heap → Prop := (xthen (l08_RegexLimits_42_M Q E) (l08_RegexLimits_q14 Q E))

@[reducible] noncomputable def l08_RegexLimits_p37 : Code := sA l08_RegexLimits_p29

def l08_RegexLimits_45 (Q : QT) (E : ET) (x4 : ByteArray) (x5 : ByteArray) (x6 : ByteArray) (x8 : ByteArray) (H : Heap) : Prop :=
 nw (.stringIter x5 0) H fun i100 H101 =>
 l08_RegexLimits_42 Q E x4 x5 x6 (some ⟨i100, 0, none⟩) x8 H101

def l08_RegexLimits_45_M (Q : QT) (E : ET) (τ : Tau) (H : Heap) : Prop := mS (τ 4) fun x4 => mS (τ 5) fun x5 => mS (τ 6) fun x6 => mS (τ 8) fun x8 => l08_RegexLimits_45 Q E x4 x5 x6 x8 H

theorem l08_RegexLimits_46ok (Q : QT) (E : ET) (τ : Tau) (H : Heap) (h : l08_RegexLimits_45_M Q E τ H) : vc Pr l08_RegexLimits_p37 τ (l08_RegexLimits_q19 Q E) E H :=
  vS (i := 4) h (fun x4 h => vS (i := 5) h (fun x5 h => vS (i := 6) h (fun x6 h => vS (i := 8) h (fun x8 h => (conv (by kernel_rfl) h)))))

theorem l08_RegexLimits_47ok (Q : QT) (E : ET) (τ : Tau) (H : Heap) (h : l08_RegexLimits_45_M Q E τ H) : vc Pr l08_RegexLimits_p29 τ (l08_RegexLimits_q14 Q E) E H :=
  (conv (B := vc Pr l08_RegexLimits_p29 τ (l08_RegexLimits_q14 Q E) E H) (by kernel_rfl) (vc_seq (K := (l08_RegexLimits_42_M Q E)) (l08_RegexLimits_46ok Q E τ H h) (l08_RegexLimits_44ok Q E)))

theorem l08_RegexLimits_48ok (Q : QT) (E : ET) (τ : Tau) (H : Heap) (h : l08_RegexLimits_45_M Q E τ H) : vc Pr l08_RegexLimits_p6 τ (l08_RegexLimits_q1 Q E) E H :=
  (conv (B := vc Pr l08_RegexLimits_p6 τ (l08_RegexLimits_q1 Q E) E H) (by kernel_rfl) (vc_seq (K := (l08_RegexLimits_30_M Q E)) (l08_RegexLimits_47ok Q E τ H h) (l08_RegexLimits_33ok Q E)))

@[reducible] noncomputable def l08_RegexLimits_q20 (Q : QT) (E : ET) : Exit → Tau → Heap → Prop := (xthen (l08_RegexLimits_45_M Q E) (l08_RegexLimits_q1 Q E))

@[reducible] noncomputable def l08_RegexLimits_p38 : Code := sA l08_RegexLimits_p5

def l08_RegexLimits_49 (Q : QT) (E : ET) (x4 : ByteArray) (x5 : ByteArray) (x6 : ByteArray) (H : Heap) : Prop :=
 l08_RegexLimits_45 Q E x4 x5 x6 (⟨#[]⟩) H

def l08_RegexLimits_49_M (Q : QT) (E : ET) (τ : Tau) (H : Heap) : Prop := mS (τ 4) fun x4 => mS (τ 5) fun x5 => mS (τ 6) fun x6 => l08_RegexLimits_49 Q E x4 x5 x6 H

theorem l08_RegexLimits_50ok (Q : QT) (E : ET) (τ : Tau) (H : Heap) (h : l08_RegexLimits_49_M Q E τ H) : vc Pr l08_RegexLimits_p38 τ (l08_RegexLimits_q20 Q E) E H :=
  vS (i := 4) h (fun x4 h => vS (i := 5) h (fun x5 h => vS (i := 6) h (fun x6 h => (conv (by kernel_rfl) h))))

theorem l08_RegexLimits_51ok (Q : QT) (E : ET) (τ : Tau) (H : Heap) (h : l08_RegexLimits_49_M Q E τ H) : vc Pr l08_RegexLimits_p5 τ (l08_RegexLimits_q1 Q E) E H :=
  (conv (B := vc Pr l08_RegexLimits_p5 τ (l08_RegexLimits_q1 Q E) E H) (by kernel_rfl) (vc_seq (K := (l08_RegexLimits_45_M Q E)) (l08_RegexLimits_50ok Q E τ H h) (l08_RegexLimits_48ok Q E)))

@[reducible] noncomputable def l08_RegexLimits_q21 (Q : QT) (E : ET) : Exit → Tau → Heap → Prop := (xthen (l08_RegexLimits_49_M Q E) (l08_RegexLimits_q1 Q E))

@[reducible] noncomputable def l08_RegexLimits_p39 : Code := sA l08_RegexLimits_p4

@[reducible] noncomputable def l08_RegexLimits_p40 : Code := sB l08_RegexLimits_p39

@[reducible] noncomputable def l08_RegexLimits_q22 (Q : QT) (E : ET) : Exit → Tau → Heap → Prop := (xblock 0 (l08_RegexLimits_q21 Q E))

@[reducible] noncomputable def l08_RegexLimits_p41 : Code := sI l08_RegexLimits_p40

@[reducible] noncomputable def l08_RegexLimits_q23 (nx102 : ByteArray → ByteArray → ByteArray → Int → HP) (Q : QT) (E : ET) : Exit → Tau → Heap → Prop := (xthen (fun τ H => mS (τ 4) fun x4' => mS (τ 5) fun x5' => mS (τ 6) fun x6' => mI .i64 (τ 7) fun x7' => nx102 x4' x5' x6' x7' H) (l08_RegexLimits_q22 Q E))

@[reducible] noncomputable def l08_RegexLimits_p42 : Code := sI l08_RegexLimits_p41

@[reducible] noncomputable def l08_RegexLimits_p43 : Code := sB l08_RegexLimits_p42

@[reducible] noncomputable def l08_RegexLimits_p44 : Code := sB l08_RegexLimits_p43

def l08_RegexLimits_52 (nx102 : ByteArray → ByteArray → ByteArray → Int → HP) (Q : QT) (E : ET) (x3 : Int) (x4 : ByteArray) (x5 : ByteArray) (x6 : ByteArray) (x7 : Int) (H : Heap) : Prop :=
 nx102 x4 x5 x6 (IntKind.wrap .i64 (x7 + 1)) H

def l08_RegexLimits_52_M (nx102 : ByteArray → ByteArray → ByteArray → Int → HP) (Q : QT) (E : ET) (τ : Tau) (H : Heap) : Prop := mI .i64 (τ 3) fun x3 => mS (τ 4) fun x4 => mS (τ 5) fun x5 => mS (τ 6) fun x6 => mI .i64 (τ 7) fun x7 => l08_RegexLimits_52 nx102 Q E x3 x4 x5 x6 x7 H

theorem l08_RegexLimits_53ok (nx102 : ByteArray → ByteArray → ByteArray → Int → HP) (Q : QT) (E : ET) (τ : Tau) (H : Heap) (h : l08_RegexLimits_52_M nx102 Q E τ H) : vc Pr l08_RegexLimits_p44 τ (l08_RegexLimits_q23 nx102 Q E) E H :=
  vI (i := 3) h (fun x3 h => vS (i := 4) h (fun x4 h => vS (i := 5) h (fun x5 h => vS (i := 6) h (fun x6 h => vI (i := 7) h (fun x7 h => (conv (by kernel_rfl) h))))))

@[reducible] noncomputable def l08_RegexLimits_q24 (nx102 : ByteArray → ByteArray → ByteArray → Int → HP) (Q : QT) (E : ET) : Exit → Tau → Heap → Prop := (xthen (l08_RegexLimits_52_M nx102 Q E) (l08_RegexLimits_q23 nx102 Q E))

@[reducible] noncomputable def l08_RegexLimits_p45 : Code := sA l08_RegexLimits_p43

@[reducible] noncomputable def l08_RegexLimits_q25 (nx102 : ByteArray → ByteArray → ByteArray → Int → HP) (Q : QT) (E : ET) : Exit → Tau → Heap → Prop := (xblock 1 (l08_RegexLimits_q24 nx102 Q E))

@[reducible] noncomputable def l08_RegexLimits_p46 : Code := sI l08_RegexLimits_p45

@[reducible] noncomputable def l08_RegexLimits_p47 : Code := sB l08_RegexLimits_p46

@[reducible] noncomputable def l08_RegexLimits_p48 : Code := sB l08_RegexLimits_p47

def l08_RegexLimits_54 (nx102 : ByteArray → ByteArray → ByteArray → Int → HP) (Q : QT) (E : ET) (x3 : Int) (x4 : ByteArray) (x5 : ByteArray) (x6 : ByteArray) (x7 : Int) (H : Heap) : Prop :=
 sel (decide ((((ByteArray.size x6 : Nat) : Int) : Int) < (IntKind.wrap .i64 (2 * (IntKind.wrap .i64 (60 + x3))))))
 ((((x6 : ByteArray).size + (⟨[124, 97].toArray⟩ : ByteArray).size : Nat) : Int) ≤ 9223372036854775807 ∧ l08_RegexLimits_52 nx102 Q E x3 x4 x5 (x6 ++ ⟨[124, 97].toArray⟩) x7 H)
 (l08_RegexLimits_52 nx102 Q E x3 x4 x5 x6 x7 H)

def l08_RegexLimits_54_M (nx102 : ByteArray → ByteArray → ByteArray → Int → HP) (Q : QT) (E : ET) (τ : Tau) (H : Heap) : Prop := mI .i64 (τ 3) fun x3 => mS (τ 4) fun x4 => mS (τ 5) fun x5 => mS (τ 6) fun x6 => mI .i64 (τ 7) fun x7 => l08_RegexLimits_54 nx102 Q E x3 x4 x5 x6 x7 H

theorem l08_RegexLimits_55ok (nx102 : ByteArray → ByteArray → ByteArray → Int → HP) (Q : QT) (E : ET) (τ : Tau) (H : Heap) (h : l08_RegexLimits_54_M nx102 Q E τ H) : vc Pr l08_RegexLimits_p48 τ (l08_RegexLimits_q25 nx102 Q E) E H :=
  vI (i := 3) h (fun x3 h => vS (i := 4) h (fun x4 h => vS (i := 5) h (fun x5 h => vS (i := 6) h (fun x6 h => vI (i := 7) h (fun x7 h => (conv (by kernel_rfl) h))))))

@[reducible] noncomputable def l08_RegexLimits_q26 (nx102 : ByteArray → ByteArray → ByteArray → Int → HP) (Q : QT) (E : ET) : Exit → Tau → Heap → Prop := (xthen (l08_RegexLimits_54_M nx102 Q E) (l08_RegexLimits_q25 nx102 Q E))

@[reducible] noncomputable def l08_RegexLimits_p49 : Code := sA l08_RegexLimits_p47

def l08_RegexLimits_56 (nx102 : ByteArray → ByteArray → ByteArray → Int → HP) (Q : QT) (E : ET) (x3 : Int) (x4 : ByteArray) (x5 : ByteArray) (x6 : ByteArray) (x7 : Int) (H : Heap) : Prop :=
 sel (decide ((x7 : Int) < (IntKind.wrap .i64 (23 + x3))))
 ((((x5 : ByteArray).size + (⟨[40].toArray⟩ : ByteArray).size : Nat) : Int) ≤ 9223372036854775807 ∧ l08_RegexLimits_54 nx102 Q E x3 x4 (x5 ++ ⟨[40].toArray⟩) x6 x7 H)
 (l08_RegexLimits_54 nx102 Q E x3 x4 x5 x6 x7 H)

def l08_RegexLimits_56_M (nx102 : ByteArray → ByteArray → ByteArray → Int → HP) (Q : QT) (E : ET) (τ : Tau) (H : Heap) : Prop := mI .i64 (τ 3) fun x3 => mS (τ 4) fun x4 => mS (τ 5) fun x5 => mS (τ 6) fun x6 => mI .i64 (τ 7) fun x7 => l08_RegexLimits_56 nx102 Q E x3 x4 x5 x6 x7 H

theorem l08_RegexLimits_57ok (nx102 : ByteArray → ByteArray → ByteArray → Int → HP) (Q : QT) (E : ET) (τ : Tau) (H : Heap) (h : l08_RegexLimits_56_M nx102 Q E τ H) : vc Pr l08_RegexLimits_p49 τ (l08_RegexLimits_q26 nx102 Q E) E H :=
  vI (i := 3) h (fun x3 h => vS (i := 4) h (fun x4 h => vS (i := 5) h (fun x5 h => vS (i := 6) h (fun x6 h => vI (i := 7) h (fun x7 h => (conv (by kernel_rfl) h))))))

theorem l08_RegexLimits_58ok (nx102 : ByteArray → ByteArray → ByteArray → Int → HP) (Q : QT) (E : ET) (τ : Tau) (H : Heap) (h : l08_RegexLimits_56_M nx102 Q E τ H) : vc Pr l08_RegexLimits_p47 τ (l08_RegexLimits_q25 nx102 Q E) E H :=
  (conv (B := vc Pr l08_RegexLimits_p47 τ (l08_RegexLimits_q25 nx102 Q E) E H) (by kernel_rfl) (vc_seq (K := (l08_RegexLimits_54_M nx102 Q E)) (l08_RegexLimits_57ok nx102 Q E τ H h) (l08_RegexLimits_55ok nx102 Q E)))

@[reducible] noncomputable def l08_RegexLimits_q27 (nx102 : ByteArray → ByteArray → ByteArray → Int → HP) (Q : QT) (E : ET) : Exit → Tau → Heap → Prop := (xthen (l08_RegexLimits_56_M nx102 Q E) (l08_RegexLimits_q25 nx102 Q E))

@[reducible] noncomputable def l08_RegexLimits_p50 : Code := sA l08_RegexLimits_p46

def l08_RegexLimits_59 (nx102 : ByteArray → ByteArray → ByteArray → Int → HP) (Q : QT) (E : ET) (x3 : Int) (x4 : ByteArray) (x5 : ByteArray) (x6 : ByteArray) (x7 : Int) (H : Heap) : Prop :=
 (((x4 : ByteArray).size + (⟨[97].toArray⟩ : ByteArray).size : Nat) : Int) ≤ 9223372036854775807 ∧ l08_RegexLimits_56 nx102 Q E x3 (x4 ++ ⟨[97].toArray⟩) x5 x6 x7 H

def l08_RegexLimits_59_M (nx102 : ByteArray → ByteArray → ByteArray → Int → HP) (Q : QT) (E : ET) (τ : Tau) (H : Heap) : Prop := mI .i64 (τ 3) fun x3 => mS (τ 4) fun x4 => mS (τ 5) fun x5 => mS (τ 6) fun x6 => mI .i64 (τ 7) fun x7 => l08_RegexLimits_59 nx102 Q E x3 x4 x5 x6 x7 H

theorem l08_RegexLimits_60ok (nx102 : ByteArray → ByteArray → ByteArray → Int → HP) (Q : QT) (E : ET) (τ : Tau) (H : Heap) (h : l08_RegexLimits_59_M nx102 Q E τ H) : vc Pr l08_RegexLimits_p50 τ (l08_RegexLimits_q27 nx102 Q E) E H :=
  vI (i := 3) h (fun x3 h => vS (i := 4) h (fun x4 h => vS (i := 5) h (fun x5 h => vS (i := 6) h (fun x6 h => vI (i := 7) h (fun x7 h => (conv (by kernel_rfl) h))))))

theorem l08_RegexLimits_61ok (nx102 : ByteArray → ByteArray → ByteArray → Int → HP) (Q : QT) (E : ET) (τ : Tau) (H : Heap) (h : l08_RegexLimits_59_M nx102 Q E τ H) : vc Pr l08_RegexLimits_p46 τ (l08_RegexLimits_q25 nx102 Q E) E H :=
  (conv (B := vc Pr l08_RegexLimits_p46 τ (l08_RegexLimits_q25 nx102 Q E) E H) (by kernel_rfl) (vc_seq (K := (l08_RegexLimits_56_M nx102 Q E)) (l08_RegexLimits_60ok nx102 Q E τ H h) (l08_RegexLimits_58ok nx102 Q E)))

theorem l08_RegexLimits_62ok (nx102 : ByteArray → ByteArray → ByteArray → Int → HP) (Q : QT) (E : ET) (τ : Tau) (H : Heap) (h : l08_RegexLimits_59_M nx102 Q E τ H) : vc Pr l08_RegexLimits_p45 τ (l08_RegexLimits_q24 nx102 Q E) E H :=
  (conv (B := vc Pr l08_RegexLimits_p45 τ (l08_RegexLimits_q24 nx102 Q E) E H) (by kernel_rfl) (l08_RegexLimits_61ok nx102 Q E τ H h))

theorem l08_RegexLimits_63ok (nx102 : ByteArray → ByteArray → ByteArray → Int → HP) (Q : QT) (E : ET) (τ : Tau) (H : Heap) (h : l08_RegexLimits_59_M nx102 Q E τ H) : vc Pr l08_RegexLimits_p43 τ (l08_RegexLimits_q23 nx102 Q E) E H :=
  (conv (B := vc Pr l08_RegexLimits_p43 τ (l08_RegexLimits_q23 nx102 Q E) E H) (by kernel_rfl) (vc_seq (K := (l08_RegexLimits_52_M nx102 Q E)) (l08_RegexLimits_62ok nx102 Q E τ H h) (l08_RegexLimits_53ok nx102 Q E)))

@[reducible] noncomputable def l08_RegexLimits_q28 (nx102 : ByteArray → ByteArray → ByteArray → Int → HP) (Q : QT) (E : ET) : Exit → Tau → Heap → Prop := (xthen (l08_RegexLimits_59_M nx102 Q E) (l08_RegexLimits_q23 nx102 Q E))

@[reducible] noncomputable def l08_RegexLimits_p51 : Code := sA l08_RegexLimits_p42

def l08_RegexLimits_64 (nx102 : ByteArray → ByteArray → ByteArray → Int → HP) (Q : QT) (E : ET) (x3 : Int) (x4 : ByteArray) (x5 : ByteArray) (x6 : ByteArray) (x7 : Int) (H : Heap) : Prop :=
 sel (decide ((x7 : Int) < (IntKind.wrap .i64 (127 + x3))))
 (l08_RegexLimits_59 nx102 Q E x3 x4 x5 x6 x7 H)
 (l08_RegexLimits_49 Q E x4 x5 x6 H)

def l08_RegexLimits_64_M (nx102 : ByteArray → ByteArray → ByteArray → Int → HP) (Q : QT) (E : ET) (τ : Tau) (H : Heap) : Prop := mI .i64 (τ 3) fun x3 => mS (τ 4) fun x4 => mS (τ 5) fun x5 => mS (τ 6) fun x6 => mI .i64 (τ 7) fun x7 => l08_RegexLimits_64 nx102 Q E x3 x4 x5 x6 x7 H

theorem l08_RegexLimits_65ok (nx102 : ByteArray → ByteArray → ByteArray → Int → HP) (Q : QT) (E : ET) (τ : Tau) (H : Heap) (h : l08_RegexLimits_64_M nx102 Q E τ H) : vc Pr l08_RegexLimits_p51 τ (l08_RegexLimits_q28 nx102 Q E) E H :=
  vI (i := 3) h (fun x3 h => vS (i := 4) h (fun x4 h => vS (i := 5) h (fun x5 h => vS (i := 6) h (fun x6 h => vI (i := 7) h (fun x7 h => (conv (by kernel_rfl) h))))))

theorem l08_RegexLimits_66ok (nx102 : ByteArray → ByteArray → ByteArray → Int → HP) (Q : QT) (E : ET) (τ : Tau) (H : Heap) (h : l08_RegexLimits_64_M nx102 Q E τ H) : vc Pr l08_RegexLimits_p42 τ (l08_RegexLimits_q23 nx102 Q E) E H :=
  (conv (B := vc Pr l08_RegexLimits_p42 τ (l08_RegexLimits_q23 nx102 Q E) E H) (by kernel_rfl) (vc_seq (K := (l08_RegexLimits_59_M nx102 Q E)) (l08_RegexLimits_65ok nx102 Q E τ H h) (l08_RegexLimits_63ok nx102 Q E)))

def l08_RegexLimits_67 (Q : QT) (E : ET) (x3 : Int) (x4 : ByteArray) (x5 : ByteArray) (x6 : ByteArray) (x7 : Int) (H : Heap) : Prop :=
 ∃ (I : ByteArray → ByteArray → ByteArray → Int → HP) (μ : ByteArray → ByteArray → ByteArray → Int → Heap → Nat), I x4 x5 x6 x7 H ∧ ∀ (x4 : ByteArray) (x5 : ByteArray) (x6 : ByteArray) (x7 : Int) (H : Heap), I x4 x5 x6 x7 H →
 l08_RegexLimits_64 (fun x4' x5' x6' x7' H1 => I x4' x5' x6' x7' H1 ∧ μ x4' x5' x6' x7' H1 < μ x4 x5 x6 x7 H) Q E x3 x4 x5 x6 x7 H

def l08_RegexLimits_67_M (Q : QT) (E : ET) (τ : Tau) (H : Heap) : Prop := mI .i64 (τ 3) fun x3 => mS (τ 4) fun x4 => mS (τ 5) fun x5 => mS (τ 6) fun x6 => mI .i64 (τ 7) fun x7 => l08_RegexLimits_67 Q E x3 x4 x5 x6 x7 H

theorem l08_RegexLimits_68ok (Q : QT) (E : ET) (τ : Tau) (H : Heap) (h : l08_RegexLimits_67_M Q E τ H) : vc Pr l08_RegexLimits_p41 τ (l08_RegexLimits_q22 Q E) E H :=
  vI (i := 3) h (fun x3 h => vS (i := 4) h (fun x4 h => vS (i := 5) h (fun x5 h => vS (i := 6) h (fun x6 h => vI (i := 7) h (fun x7 h => match h with | ⟨I, μ, h0, hr⟩ => (conv (B := vc Pr l08_RegexLimits_p41 (Tau.upd (Tau.upd (Tau.upd (Tau.upd (Tau.upd τ 3 (.int .i64 x3)) 4 (.string x4)) 5 (.string x5)) 6 (.string x6)) 7 (.int .i64 x7)) (l08_RegexLimits_q22 Q E) E H) (by kernel_rfl) (vc_loop (c := sI l08_RegexLimits_p41) (τ := (Tau.upd (Tau.upd (Tau.upd (Tau.upd (Tau.upd τ 3 (.int .i64 x3)) 4 (.string x4)) 5 (.string x5)) 6 (.string x6)) 7 (.int .i64 x7))) [3] (fun τ H => mS (τ 4) fun x4' => mS (τ 5) fun x5' => mS (τ 6) fun x6' => mI .i64 (τ 7) fun x7' => I x4' x5' x6' x7' H) (fun τ H => μ (gS (τ 4)) (gS (τ 5)) (gS (τ 6)) (gI (τ 7)) H) (by kernel_rfl) h0 (fun τ1 H1 hf hI => fix_elim (τ := τ1) (i := 3) (v := (.int .i64 x3)) (G := fun τ => vc Pr (sI l08_RegexLimits_p41) τ (xthen (fun τ2 H2 => (mS (τ2 4) fun x4' => mS (τ2 5) fun x5' => mS (τ2 6) fun x6' => mI .i64 (τ2 7) fun x7' => I x4' x5' x6' x7' H2) ∧ μ (gS (τ2 4)) (gS (τ2 5)) (gS (τ2 6)) (gI (τ2 7)) H2 < μ (gS (τ 4)) (gS (τ 5)) (gS (τ 6)) (gI (τ 7)) H1) (l08_RegexLimits_q22 Q E)) E H1) (hf 3 (by simp)) (mS_elim (i := 4) (G := fun τ => vc Pr (sI l08_RegexLimits_p41) τ (xthen (fun τ2 H2 => (mS (τ2 4) fun x4' => mS (τ2 5) fun x5' => mS (τ2 6) fun x6' => mI .i64 (τ2 7) fun x7' => I x4' x5' x6' x7' H2) ∧ μ (gS (τ2 4)) (gS (τ2 5)) (gS (τ2 6)) (gI (τ2 7)) H2 < μ (gS (τ 4)) (gS (τ 5)) (gS (τ 6)) (gI (τ 7)) H1) (l08_RegexLimits_q22 Q E)) E H1) hI (fun x4r h => mS_elim (i := 5) (G := fun τ => vc Pr (sI l08_RegexLimits_p41) τ (xthen (fun τ2 H2 => (mS (τ2 4) fun x4' => mS (τ2 5) fun x5' => mS (τ2 6) fun x6' => mI .i64 (τ2 7) fun x7' => I x4' x5' x6' x7' H2) ∧ μ (gS (τ2 4)) (gS (τ2 5)) (gS (τ2 6)) (gI (τ2 7)) H2 < μ (gS (τ 4)) (gS (τ 5)) (gS (τ 6)) (gI (τ 7)) H1) (l08_RegexLimits_q22 Q E)) E H1) h (fun x5r h => mS_elim (i := 6) (G := fun τ => vc Pr (sI l08_RegexLimits_p41) τ (xthen (fun τ2 H2 => (mS (τ2 4) fun x4' => mS (τ2 5) fun x5' => mS (τ2 6) fun x6' => mI .i64 (τ2 7) fun x7' => I x4' x5' x6' x7' H2) ∧ μ (gS (τ2 4)) (gS (τ2 5)) (gS (τ2 6)) (gI (τ2 7)) H2 < μ (gS (τ 4)) (gS (τ 5)) (gS (τ 6)) (gI (τ 7)) H1) (l08_RegexLimits_q22 Q E)) E H1) h (fun x6r h => mI_elim (i := 7) (G := fun τ => vc Pr (sI l08_RegexLimits_p41) τ (xthen (fun τ2 H2 => (mS (τ2 4) fun x4' => mS (τ2 5) fun x5' => mS (τ2 6) fun x6' => mI .i64 (τ2 7) fun x7' => I x4' x5' x6' x7' H2) ∧ μ (gS (τ2 4)) (gS (τ2 5)) (gS (τ2 6)) (gI (τ2 7)) H2 < μ (gS (τ 4)) (gS (τ 5)) (gS (τ 6)) (gI (τ 7)) H1) (l08_RegexLimits_q22 Q E)) E H1) h (fun x7r h => (conv (B := vc Pr (sI l08_RegexLimits_p41) (Tau.upd (Tau.upd (Tau.upd (Tau.upd (Tau.upd τ1 3 (.int .i64 x3)) 4 (.string x4r)) 5 (.string x5r)) 6 (.string x6r)) 7 (.int .i64 x7r)) (xthen (fun τ2 H2 => (mS (τ2 4) fun x4' => mS (τ2 5) fun x5' => mS (τ2 6) fun x6' => mI .i64 (τ2 7) fun x7' => I x4' x5' x6' x7' H2) ∧ μ (gS (τ2 4)) (gS (τ2 5)) (gS (τ2 6)) (gI (τ2 7)) H2 < μ (gS ((Tau.upd (Tau.upd (Tau.upd (Tau.upd (Tau.upd τ1 3 (.int .i64 x3)) 4 (.string x4r)) 5 (.string x5r)) 6 (.string x6r)) 7 (.int .i64 x7r)) 4)) (gS ((Tau.upd (Tau.upd (Tau.upd (Tau.upd (Tau.upd τ1 3 (.int .i64 x3)) 4 (.string x4r)) 5 (.string x5r)) 6 (.string x6r)) 7 (.int .i64 x7r)) 5)) (gS ((Tau.upd (Tau.upd (Tau.upd (Tau.upd (Tau.upd τ1 3 (.int .i64 x3)) 4 (.string x4r)) 5 (.string x5r)) 6 (.string x6r)) 7 (.int .i64 x7r)) 6)) (gI ((Tau.upd (Tau.upd (Tau.upd (Tau.upd (Tau.upd τ1 3 (.int .i64 x3)) 4 (.string x4r)) 5 (.string x5r)) 6 (.string x6r)) 7 (.int .i64 x7r)) 7)) H1) (l08_RegexLimits_q22 Q E)) E H1) (by kernel_rfl) (vc_xthen (l08_RegexLimits_66ok (fun x4' x5' x6' x7' H2 => I x4' x5' x6' x7' H2 ∧ μ x4' x5' x6' x7' H2 < μ x4r x5r x6r x7r H1) Q E (Tau.upd (Tau.upd (Tau.upd (Tau.upd (Tau.upd τ1 3 (.int .i64 x3)) 4 (.string x4r)) 5 (.string x5r)) 6 (.string x6r)) 7 (.int .i64 x7r)) H1 (conv (B := l08_RegexLimits_64_M (fun x4' x5' x6' x7' H2 => I x4' x5' x6' x7' H2 ∧ μ x4' x5' x6' x7' H2 < μ x4r x5r x6r x7r H1) Q E (Tau.upd (Tau.upd (Tau.upd (Tau.upd (Tau.upd τ1 3 (.int .i64 x3)) 4 (.string x4r)) 5 (.string x5r)) 6 (.string x6r)) 7 (.int .i64 x7r)) H1) (by kernel_rfl) (hr x4r x5r x6r x7r H1 h))) (fun τ2 H2 hk => mS_elim (i := 4) (G := fun τ => (mS (τ 4) fun x4' => mS (τ 5) fun x5' => mS (τ 6) fun x6' => mI .i64 (τ 7) fun x7' => I x4' x5' x6' x7' H2) ∧ μ (gS (τ 4)) (gS (τ 5)) (gS (τ 6)) (gI (τ 7)) H2 < μ x4r x5r x6r x7r H1) hk (fun x4' h => mS_elim (i := 5) (G := fun τ => (mS (τ 4) fun x4' => mS (τ 5) fun x5' => mS (τ 6) fun x6' => mI .i64 (τ 7) fun x7' => I x4' x5' x6' x7' H2) ∧ μ (gS (τ 4)) (gS (τ 5)) (gS (τ 6)) (gI (τ 7)) H2 < μ x4r x5r x6r x7r H1) h (fun x5' h => mS_elim (i := 6) (G := fun τ => (mS (τ 4) fun x4' => mS (τ 5) fun x5' => mS (τ 6) fun x6' => mI .i64 (τ 7) fun x7' => I x4' x5' x6' x7' H2) ∧ μ (gS (τ 4)) (gS (τ 5)) (gS (τ 6)) (gI (τ 7)) H2 < μ x4r x5r x6r x7r H1) h (fun x6' h => mI_elim (i := 7) (G := fun τ => (mS (τ 4) fun x4' => mS (τ 5) fun x5' => mS (τ 6) fun x6' => mI .i64 (τ 7) fun x7' => I x4' x5' x6' x7' H2) ∧ μ (gS (τ 4)) (gS (τ 5)) (gS (τ 6)) (gI (τ 7)) H2 < μ x4r x5r x6r x7r H1) h (fun x7' h => h))))))))))))))))))))

theorem l08_RegexLimits_69ok (Q : QT) (E : ET) (τ : Tau) (H : Heap) (h : l08_RegexLimits_67_M Q E τ H) : vc Pr l08_RegexLimits_p40 τ (l08_RegexLimits_q21 Q E) E H :=
  (conv (B := vc Pr l08_RegexLimits_p40 τ (l08_RegexLimits_q21 Q E) E H) (by kernel_rfl) (l08_RegexLimits_68ok Q E τ H h))

@[reducible] noncomputable def l08_RegexLimits_q29 (Q : QT) (E : ET) : Exit → Tau → Heap → Prop := (xthen (l08_RegexLimits_67_M Q E) (l08_RegexLimits_q21 Q E))

@[reducible] noncomputable def l08_RegexLimits_p52 : Code := sA l08_RegexLimits_p39

def l08_RegexLimits_70 (Q : QT) (E : ET) (x3 : Int) (x4 : ByteArray) (x5 : ByteArray) (x6 : ByteArray) (H : Heap) : Prop :=
 l08_RegexLimits_67 Q E x3 x4 x5 x6 0 H

def l08_RegexLimits_70_M (Q : QT) (E : ET) (τ : Tau) (H : Heap) : Prop := mI .i64 (τ 3) fun x3 => mS (τ 4) fun x4 => mS (τ 5) fun x5 => mS (τ 6) fun x6 => l08_RegexLimits_70 Q E x3 x4 x5 x6 H

theorem l08_RegexLimits_71ok (Q : QT) (E : ET) (τ : Tau) (H : Heap) (h : l08_RegexLimits_70_M Q E τ H) : vc Pr l08_RegexLimits_p52 τ (l08_RegexLimits_q29 Q E) E H :=
  vI (i := 3) h (fun x3 h => vS (i := 4) h (fun x4 h => vS (i := 5) h (fun x5 h => vS (i := 6) h (fun x6 h => (conv (by kernel_rfl) h)))))

theorem l08_RegexLimits_72ok (Q : QT) (E : ET) (τ : Tau) (H : Heap) (h : l08_RegexLimits_70_M Q E τ H) : vc Pr l08_RegexLimits_p39 τ (l08_RegexLimits_q21 Q E) E H :=
  (conv (B := vc Pr l08_RegexLimits_p39 τ (l08_RegexLimits_q21 Q E) E H) (by kernel_rfl) (vc_seq (K := (l08_RegexLimits_67_M Q E)) (l08_RegexLimits_71ok Q E τ H h) (l08_RegexLimits_69ok Q E)))

theorem l08_RegexLimits_73ok (Q : QT) (E : ET) (τ : Tau) (H : Heap) (h : l08_RegexLimits_70_M Q E τ H) : vc Pr l08_RegexLimits_p4 τ (l08_RegexLimits_q1 Q E) E H :=
  (conv (B := vc Pr l08_RegexLimits_p4 τ (l08_RegexLimits_q1 Q E) E H) (by kernel_rfl) (vc_seq (K := (l08_RegexLimits_49_M Q E)) (l08_RegexLimits_72ok Q E τ H h) (l08_RegexLimits_51ok Q E)))

@[reducible] noncomputable def l08_RegexLimits_q30 (Q : QT) (E : ET) : Exit → Tau → Heap → Prop := (xthen (l08_RegexLimits_70_M Q E) (l08_RegexLimits_q1 Q E))

@[reducible] noncomputable def l08_RegexLimits_p53 : Code := sA l08_RegexLimits_p3

def l08_RegexLimits_74 (Q : QT) (E : ET) (x3 : Int) (H : Heap) : Prop :=
 l08_RegexLimits_70 Q E x3 (⟨#[]⟩) (⟨#[]⟩) (⟨#[]⟩) H

def l08_RegexLimits_74_M (Q : QT) (E : ET) (τ : Tau) (H : Heap) : Prop := mI .i64 (τ 3) fun x3 => l08_RegexLimits_74 Q E x3 H

theorem l08_RegexLimits_75ok (Q : QT) (E : ET) (τ : Tau) (H : Heap) (h : l08_RegexLimits_74_M Q E τ H) : vc Pr l08_RegexLimits_p53 τ (l08_RegexLimits_q30 Q E) E H :=
  vI (i := 3) h (fun x3 h => (conv (by kernel_rfl) h))

theorem l08_RegexLimits_76ok (Q : QT) (E : ET) (τ : Tau) (H : Heap) (h : l08_RegexLimits_74_M Q E τ H) : vc Pr l08_RegexLimits_p3 τ (l08_RegexLimits_q1 Q E) E H :=
  (conv (B := vc Pr l08_RegexLimits_p3 τ (l08_RegexLimits_q1 Q E) E H) (by kernel_rfl) (vc_seq (K := (l08_RegexLimits_70_M Q E)) (l08_RegexLimits_75ok Q E τ H h) (l08_RegexLimits_73ok Q E)))

@[reducible] noncomputable def l08_RegexLimits_q31 (Q : QT) (E : ET) : Exit → Tau → Heap → Prop := (xthen (l08_RegexLimits_74_M Q E) (l08_RegexLimits_q1 Q E))

@[reducible] noncomputable def l08_RegexLimits_p54 : Code := sA l08_RegexLimits_p2

def l08_RegexLimits_77 (Q : QT) (E : ET) (x0 : Int) (H : Heap) : Prop :=
 Does Pr 22 #[(.int .i64 x0), (.int .i64 3)] H (fun v103 H104 =>
 ∃ n105 : Int, v103 = (.int .i64 n105) ∧ l08_RegexLimits_74 Q E n105 H104) E

def l08_RegexLimits_77_M (Q : QT) (E : ET) (τ : Tau) (H : Heap) : Prop := mI .i64 (τ 0) fun x0 => l08_RegexLimits_77 Q E x0 H

theorem l08_RegexLimits_78ok (Q : QT) (E : ET) (τ : Tau) (H : Heap) (h : l08_RegexLimits_77_M Q E τ H) : vc Pr l08_RegexLimits_p54 τ (l08_RegexLimits_q31 Q E) E H :=
  vI (i := 0) h (fun x0 h => (conv (by kernel_rfl) h))

theorem l08_RegexLimits_79ok (Q : QT) (E : ET) (τ : Tau) (H : Heap) (h : l08_RegexLimits_77_M Q E τ H) : vc Pr l08_RegexLimits_p2 τ (l08_RegexLimits_q1 Q E) E H :=
  (conv (B := vc Pr l08_RegexLimits_p2 τ (l08_RegexLimits_q1 Q E) E H) (by kernel_rfl) (vc_seq (K := (l08_RegexLimits_74_M Q E)) (l08_RegexLimits_78ok Q E τ H h) (l08_RegexLimits_76ok Q E)))

@[reducible] noncomputable def l08_RegexLimits_q32 (Q : QT) (E : ET) : Exit → Tau → Heap → Prop := (xthen (l08_RegexLimits_77_M Q E) (l08_RegexLimits_q1 Q E))

@[reducible] noncomputable def l08_RegexLimits_p55 : Code := sA l08_RegexLimits_p1

def l08_RegexLimits_80 (Q : QT) (E : ET) (x0 : Int) (H : Heap) : Prop :=
 Does Pr 27 #[] H (fun v106 H107 =>
 ∃ b108 : Bool, v106 = (.bool b108) ∧ sel (!b108)
 (Q (.bool false) H107)
 (l08_RegexLimits_77 Q E x0 H107)) E

def l08_RegexLimits_80_M (Q : QT) (E : ET) (τ : Tau) (H : Heap) : Prop := mI .i64 (τ 0) fun x0 => l08_RegexLimits_80 Q E x0 H

theorem l08_RegexLimits_81ok (Q : QT) (E : ET) (τ : Tau) (H : Heap) (h : l08_RegexLimits_80_M Q E τ H) : vc Pr l08_RegexLimits_p55 τ (l08_RegexLimits_q32 Q E) E H :=
  vI (i := 0) h (fun x0 h => (conv (by kernel_rfl) h))

theorem l08_RegexLimits_82ok (Q : QT) (E : ET) (τ : Tau) (H : Heap) (h : l08_RegexLimits_80_M Q E τ H) : vc Pr l08_RegexLimits_p1 τ (l08_RegexLimits_q1 Q E) E H :=
  (conv (B := vc Pr l08_RegexLimits_p1 τ (l08_RegexLimits_q1 Q E) E H) (by kernel_rfl) (vc_seq (K := (l08_RegexLimits_77_M Q E)) (l08_RegexLimits_81ok Q E τ H h) (l08_RegexLimits_79ok Q E)))

@[reducible] noncomputable def l08_RegexLimits_q33 (Q : QT) (E : ET) : Exit → Tau → Heap → Prop := (xthen (l08_RegexLimits_80_M Q E) (l08_RegexLimits_q1 Q E))

@[reducible] noncomputable def l08_RegexLimits_p56 : Code := sA l08_RegexLimits_p0

def l08_RegexLimits (Q : QT) (E : ET) (a0 : Int) (H : Heap) : Prop :=
 l08_RegexLimits_80 Q E a0 H

theorem l08_RegexLimits_fn (a0 : Int) (Q : QT) (E : ET) (H : Heap) (h : l08_RegexLimits Q E a0 H)   : Does Pr 7 #[(.int .i64 a0)] H Q E :=
  Fn_of_vc (fn := Try.f7) (c := l08_RegexLimits_p0) (args := [(.int .i64 a0)]) mixed (by kernel_rfl) (by kernel_rfl) (by kernel_rfl) (by kernel_rfl) (by kernel_rfl) ((conv (B := vc Pr l08_RegexLimits_p0 (argT [(.int .i64 a0)]) (l08_RegexLimits_q1 Q E) E H) (by kernel_rfl) (vc_seq (K := (l08_RegexLimits_80_M Q E)) (conv (B := vc Pr l08_RegexLimits_p56 (argT [(.int .i64 a0)]) (l08_RegexLimits_q33 Q E) E H) (by kernel_rfl) h) (l08_RegexLimits_82ok Q E))))

/-! jobmux/jobmuxlaw08.sane -/
@[reducible] noncomputable def l08_sane_q1 (Q : QT) (E : ET) : Exit → Tau → Heap → Prop := (retQ Pr (Try.f27).results.toList Q)

@[reducible] noncomputable def l08_sane_p0 : Code := bodyOf Try.f27

def l08_sane (Q : QT) (E : ET)  (H : Heap) : Prop :=
 Does Pr 28 #[(.string ⟨[97, 124, 98, 42].toArray⟩)] H (fun v1 H2 =>
 ∃ (p3 : OA) (l4 c5 : Nat), ∃ n6 : Int, v1 = (.tuple #[(.slice p3 l4 c5), (.int .i64 n6)]) ∧ Does Pr 28 #[(.string ⟨[42, 97].toArray⟩)] H2 (fun v7 H8 =>
 ∃ (p9 : OA) (l10 c11 : Nat), ∃ n12 : Int, v7 = (.tuple #[(.slice p9 l10 c11), (.int .i64 n12)]) ∧ Does Pr 28 #[(.string ⟨[40, 97].toArray⟩)] H8 (fun v13 H14 =>
 ∃ (p15 : OA) (l16 c17 : Nat), ∃ n18 : Int, v13 = (.tuple #[(.slice p15 l16 c17), (.int .i64 n18)]) ∧ Does Pr 28 #[(.string ⟨[91, 98, 45, 97, 93].toArray⟩)] H14 (fun v19 H20 =>
 ∃ (p21 : OA) (l22 c23 : Nat), ∃ n24 : Int, v19 = (.tuple #[(.slice p21 l22 c23), (.int .i64 n24)]) ∧ sel ((n6 : Int) == 0)
 (sel ((((l4 : Nat) : Int) : Int) == 4)
 ((0 ≤ (2 : Int) ∧ (2 : Int) < ((l4 : Nat) : Int)) ∧ ptr p3 fun q25 =>
 ldI .i64 (Addr.add q25 14) H20 fun n26 =>
 sel ((n26 : Int) == 5)
 ((0 ≤ (2 : Int) ∧ (2 : Int) < ((l4 : Nat) : Int)) ∧ ptr p3 fun q27 =>
 ldI .i64 (Addr.add (Addr.add q27 14) 1) H20 fun n28 =>
 sel ((n28 : Int) == 1)
 ((0 ≤ (3 : Int) ∧ (3 : Int) < ((l4 : Nat) : Int)) ∧ ptr p3 fun q29 =>
 ldI .i64 (Addr.add (Addr.add q29 21) 2) H20 fun n30 =>
 sel ((n30 : Int) == 2)
 (sel ((n12 : Int) == 81)
 (sel ((n18 : Int) == 83)
 (Q (.bool ((n24 : Int) == 80)) H20)
 (Q (.bool false) H20))
 (Q (.bool false) H20))
 (Q (.bool false) H20))
 (Q (.bool false) H20))
 (Q (.bool false) H20))
 (Q (.bool false) H20))
 (Q (.bool false) H20)) E) E) E) E

theorem l08_sane_fn  (Q : QT) (E : ET) (H : Heap) (h : l08_sane Q E  H)   : Does Pr 27 #[] H Q E :=
  Fn_of_vc (fn := Try.f27) (c := l08_sane_p0) (args := []) mixed (by kernel_rfl) (by kernel_rfl) (by kernel_rfl) (by kernel_rfl) (by kernel_rfl) ((conv (B := vc Pr l08_sane_p0 (argT []) (l08_sane_q1 Q E) E H) (by kernel_rfl) h))

/-! jobmux/jobmuxlaw08.text -/
@[reducible] noncomputable def l08_text_q1 (Q : QT) (E : ET) : Exit → Tau → Heap → Prop := (retQ Pr (Try.f30).results.toList Q)

@[reducible] noncomputable def l08_text_p0 : Code := bodyOf Try.f30

@[reducible] noncomputable def l08_text_p1 : Code := sB l08_text_p0

@[reducible] noncomputable def l08_text_p2 : Code := sB l08_text_p1

@[reducible] noncomputable def l08_text_p3 : Code := sB l08_text_p2

@[reducible] noncomputable def l08_text_p4 : Code := sB l08_text_p3

def l08_text_1 (Q : QT) (E : ET) (x4 : OA) (l4 : Nat) (c4 : Nat) (H : Heap) : Prop :=
 ∃ bs16 : List UInt8, bs16.length = l4 ∧ Heap.rdS H x4 (bs16.map byteV) ∧ Q (.string (⟨bs16.toArray⟩ : ByteArray)) H

def l08_text_1_M (Q : QT) (E : ET) (τ : Tau) (H : Heap) : Prop := mSl (τ 4) fun x4 l4 c4 => l08_text_1 Q E x4 l4 c4 H

theorem l08_text_2ok (Q : QT) (E : ET) (τ : Tau) (H : Heap) (h : l08_text_1_M Q E τ H) : vc Pr l08_text_p4 τ (l08_text_q1 Q E) E H :=
  vSl (i := 4) h (fun x4 l4 c4 h => (conv (by kernel_rfl) h))

@[reducible] noncomputable def l08_text_q2 (Q : QT) (E : ET) : Exit → Tau → Heap → Prop := (xthen (l08_text_1_M Q E) (l08_text_q1 Q E))

@[reducible] noncomputable def l08_text_p5 : Code := sA l08_text_p3

@[reducible] noncomputable def l08_text_q3 (Q : QT) (E : ET) : Exit → Tau → Heap → Prop := (xblock 0 (l08_text_q2 Q E))

@[reducible] noncomputable def l08_text_p6 : Code := sI l08_text_p5

@[reducible] noncomputable def l08_text_q4 (nx17 : Option Addr → Nat → Nat → HP) (Q : QT) (E : ET) : Exit → Tau → Heap → Prop := (xthen (fun τ H => mSl (τ 4) fun x4' l4' c4' => nx17 x4' l4' c4' H) (l08_text_q3 Q E))

@[reducible] noncomputable def l08_text_p7 : Code := sI l08_text_p6

@[reducible] noncomputable def l08_text_p8 : Code := sB l08_text_p7

def l08_text_3 (nx17 : Option Addr → Nat → Nat → HP) (Q : QT) (E : ET) (x3 : OA) (x4 : OA) (l4 : Nat) (c4 : Nat) (H : Heap) : Prop :=
 Does Pr 49 #[(.pointer x3), (.int .i64 21)] H (fun v21 H22 =>
 ∃ n23 : Int, v21 = (.int .i64 n23) ∧ (0 ≤ (n23 : Int) ∧ (n23 : Int) < ((ByteArray.size ⟨[97, 98, 40, 41, 124, 42, 43, 63, 46, 94, 36, 91, 93, 94, 45, 92, 100, 119, 110, 120, 40].toArray⟩ : Nat) : Int)) ∧ nw (.cells #[(.int .u8 (sAt ⟨[97, 98, 40, 41, 124, 42, 43, 63, 46, 94, 36, 91, 93, 94, 45, 92, 100, 119, 110, 120, 40].toArray⟩ n23))] 5 (0, 0)) H22 fun i24 H25 =>
 app Pr 24 x4 l4 c4 (.slice (some ⟨i24, 0, none⟩) 1 1) H25 fun p26 l27 c28 H29 =>
 nx17 p26 l27 c28 H29) E

def l08_text_3_M (nx17 : Option Addr → Nat → Nat → HP) (Q : QT) (E : ET) (τ : Tau) (H : Heap) : Prop := mP (τ 3) fun x3 => mSl (τ 4) fun x4 l4 c4 => l08_text_3 nx17 Q E x3 x4 l4 c4 H

theorem l08_text_4ok (nx17 : Option Addr → Nat → Nat → HP) (Q : QT) (E : ET) (τ : Tau) (H : Heap) (h : l08_text_3_M nx17 Q E τ H) : vc Pr l08_text_p8 τ (l08_text_q4 nx17 Q E) E H :=
  vP (i := 3) h (fun x3 h => vSl (i := 4) h (fun x4 l4 c4 h => (conv (by kernel_rfl) h)))

@[reducible] noncomputable def l08_text_q5 (nx17 : Option Addr → Nat → Nat → HP) (Q : QT) (E : ET) : Exit → Tau → Heap → Prop := (xthen (l08_text_3_M nx17 Q E) (l08_text_q4 nx17 Q E))

@[reducible] noncomputable def l08_text_p9 : Code := sA l08_text_p7

@[reducible] noncomputable def l08_text_p10 : Code := sB l08_text_p9

def l08_text_5 (nx17 : Option Addr → Nat → Nat → HP) (Q : QT) (E : ET) (x3 : OA) (x4 : OA) (l4 : Nat) (c4 : Nat) (x13 : Bool) (H : Heap) : Prop :=
 sel x13
 (l08_text_3 nx17 Q E x3 x4 l4 c4 H)
 (l08_text_1 Q E x4 l4 c4 H)

def l08_text_5_M (nx17 : Option Addr → Nat → Nat → HP) (Q : QT) (E : ET) (τ : Tau) (H : Heap) : Prop := mP (τ 3) fun x3 => mSl (τ 4) fun x4 l4 c4 => mB (τ 13) fun x13 => l08_text_5 nx17 Q E x3 x4 l4 c4 x13 H

theorem l08_text_6ok (nx17 : Option Addr → Nat → Nat → HP) (Q : QT) (E : ET) (τ : Tau) (H : Heap) (h : l08_text_5_M nx17 Q E τ H) : vc Pr l08_text_p10 τ (l08_text_q5 nx17 Q E) E H :=
  vP (i := 3) h (fun x3 h => vSl (i := 4) h (fun x4 l4 c4 h => vB (i := 13) h (fun x13 h => (conv (by kernel_rfl) h))))

@[reducible] noncomputable def l08_text_q6 (nx17 : Option Addr → Nat → Nat → HP) (Q : QT) (E : ET) : Exit → Tau → Heap → Prop := (xthen (l08_text_5_M nx17 Q E) (l08_text_q5 nx17 Q E))

@[reducible] noncomputable def l08_text_p11 : Code := sA l08_text_p9

def l08_text_7 (nx17 : Option Addr → Nat → Nat → HP) (Q : QT) (E : ET) (x3 : OA) (x4 : OA) (l4 : Nat) (c4 : Nat) (H : Heap) : Prop :=
 Does Pr 61 #[(.pointer x3)] H (fun v33 H34 =>
 ∃ b35 : Bool, v33 = (.bool b35) ∧ sel b35
 (l08_text_5 nx17 Q E x3 x4 l4 c4 (decide ((((l4 : Nat) : Int) : Int) < 40)) H34)
 (l08_text_5 nx17 Q E x3 x4 l4 c4 false H34)) E

def l08_text_7_M (nx17 : Option Addr → Nat → Nat → HP) (Q : QT) (E : ET) (τ : Tau) (H : Heap) : Prop := mP (τ 3) fun x3 => mSl (τ 4) fun x4 l4 c4 => l08_text_7 nx17 Q E x3 x4 l4 c4 H

theorem l08_text_8ok (nx17 : Option Addr → Nat → Nat → HP) (Q : QT) (E : ET) (τ : Tau) (H : Heap) (h : l08_text_7_M nx17 Q E τ H) : vc Pr l08_text_p11 τ (l08_text_q6 nx17 Q E) E H :=
  vP (i := 3) h (fun x3 h => vSl (i := 4) h (fun x4 l4 c4 h => (conv (by kernel_rfl) h)))

theorem l08_text_9ok (nx17 : Option Addr → Nat → Nat → HP) (Q : QT) (E : ET) (τ : Tau) (H : Heap) (h : l08_text_7_M nx17 Q E τ H) : vc Pr l08_text_p9 τ (l08_text_q5 nx17 Q E) E H :=
  (conv (B := vc Pr l08_text_p9 τ (l08_text_q5 nx17 Q E) E H) (by kernel_rfl) (vc_seq (K := (l08_text_5_M nx17 Q E)) (l08_text_8ok nx17 Q E τ H h) (l08_text_6ok nx17 Q E)))

theorem l08_text_10ok (nx17 : Option Addr → Nat → Nat → HP) (Q : QT) (E : ET) (τ : Tau) (H : Heap) (h : l08_text_7_M nx17 Q E τ H) : vc Pr l08_text_p7 τ (l08_text_q4 nx17 Q E) E H :=
  (conv (B := vc Pr l08_text_p7 τ (l08_text_q4 nx17 Q E) E H) (by kernel_rfl) (vc_seq (K := (l08_text_3_M nx17 Q E)) (l08_text_9ok nx17 Q E τ H h) (l08_text_4ok nx17 Q E)))

def l08_text_11 (Q : QT) (E : ET) (x3 : OA) (x4 : OA) (l4 : Nat) (c4 : Nat) (H : Heap) : Prop :=
 ∃ (I : Option Addr → Nat → Nat → HP) (μ : Option Addr → Nat → Nat → Heap → Nat), I x4 l4 c4 H ∧ ∀ (x4 : OA) (l4 : Nat) (c4 : Nat) (H : Heap), I x4 l4 c4 H →
 l08_text_7 (fun x4' l4' c4' H1 => I x4' l4' c4' H1 ∧ μ x4' l4' c4' H1 < μ x4 l4 c4 H) Q E x3 x4 l4 c4 H

def l08_text_11_M (Q : QT) (E : ET) (τ : Tau) (H : Heap) : Prop := mP (τ 3) fun x3 => mSl (τ 4) fun x4 l4 c4 => l08_text_11 Q E x3 x4 l4 c4 H

theorem l08_text_12ok (Q : QT) (E : ET) (τ : Tau) (H : Heap) (h : l08_text_11_M Q E τ H) : vc Pr l08_text_p6 τ (l08_text_q3 Q E) E H :=
  vP (i := 3) h (fun x3 h => vSl (i := 4) h (fun x4 l4 c4 h => match h with | ⟨I, μ, h0, hr⟩ => (conv (B := vc Pr l08_text_p6 (Tau.upd (Tau.upd τ 3 (.pointer x3)) 4 (.slice x4 l4 c4)) (l08_text_q3 Q E) E H) (by kernel_rfl) (vc_loop (c := sI l08_text_p6) (τ := (Tau.upd (Tau.upd τ 3 (.pointer x3)) 4 (.slice x4 l4 c4))) [3] (fun τ H => mSl (τ 4) fun x4' l4' c4' => I x4' l4' c4' H) (fun τ H => μ (gL1 (τ 4)) (gL2 (τ 4)) (gL3 (τ 4)) H) (by kernel_rfl) h0 (fun τ1 H1 hf hI => fix_elim (τ := τ1) (i := 3) (v := (.pointer x3)) (G := fun τ => vc Pr (sI l08_text_p6) τ (xthen (fun τ2 H2 => (mSl (τ2 4) fun x4' l4' c4' => I x4' l4' c4' H2) ∧ μ (gL1 (τ2 4)) (gL2 (τ2 4)) (gL3 (τ2 4)) H2 < μ (gL1 (τ 4)) (gL2 (τ 4)) (gL3 (τ 4)) H1) (l08_text_q3 Q E)) E H1) (hf 3 (by simp)) (mSl_elim (i := 4) (G := fun τ => vc Pr (sI l08_text_p6) τ (xthen (fun τ2 H2 => (mSl (τ2 4) fun x4' l4' c4' => I x4' l4' c4' H2) ∧ μ (gL1 (τ2 4)) (gL2 (τ2 4)) (gL3 (τ2 4)) H2 < μ (gL1 (τ 4)) (gL2 (τ 4)) (gL3 (τ 4)) H1) (l08_text_q3 Q E)) E H1) hI (fun x4r l4r c4r h => (conv (B := vc Pr (sI l08_text_p6) (Tau.upd (Tau.upd τ1 3 (.pointer x3)) 4 (.slice x4r l4r c4r)) (xthen (fun τ2 H2 => (mSl (τ2 4) fun x4' l4' c4' => I x4' l4' c4' H2) ∧ μ (gL1 (τ2 4)) (gL2 (τ2 4)) (gL3 (τ2 4)) H2 < μ (gL1 ((Tau.upd (Tau.upd τ1 3 (.pointer x3)) 4 (.slice x4r l4r c4r)) 4)) (gL2 ((Tau.upd (Tau.upd τ1 3 (.pointer x3)) 4 (.slice x4r l4r c4r)) 4)) (gL3 ((Tau.upd (Tau.upd τ1 3 (.pointer x3)) 4 (.slice x4r l4r c4r)) 4)) H1) (l08_text_q3 Q E)) E H1) (by kernel_rfl) (vc_xthen (l08_text_10ok (fun x4' l4' c4' H2 => I x4' l4' c4' H2 ∧ μ x4' l4' c4' H2 < μ x4r l4r c4r H1) Q E (Tau.upd (Tau.upd τ1 3 (.pointer x3)) 4 (.slice x4r l4r c4r)) H1 (conv (B := l08_text_7_M (fun x4' l4' c4' H2 => I x4' l4' c4' H2 ∧ μ x4' l4' c4' H2 < μ x4r l4r c4r H1) Q E (Tau.upd (Tau.upd τ1 3 (.pointer x3)) 4 (.slice x4r l4r c4r)) H1) (by kernel_rfl) (hr x4r l4r c4r H1 h))) (fun τ2 H2 hk => mSl_elim (i := 4) (G := fun τ => (mSl (τ 4) fun x4' l4' c4' => I x4' l4' c4' H2) ∧ μ (gL1 (τ 4)) (gL2 (τ 4)) (gL3 (τ 4)) H2 < μ x4r l4r c4r H1) hk (fun x4' l4' c4' h => h)))))))))))

theorem l08_text_13ok (Q : QT) (E : ET) (τ : Tau) (H : Heap) (h : l08_text_11_M Q E τ H) : vc Pr l08_text_p5 τ (l08_text_q2 Q E) E H :=
  (conv (B := vc Pr l08_text_p5 τ (l08_text_q2 Q E) E H) (by kernel_rfl) (l08_text_12ok Q E τ H h))

theorem l08_text_14ok (Q : QT) (E : ET) (τ : Tau) (H : Heap) (h : l08_text_11_M Q E τ H) : vc Pr l08_text_p3 τ (l08_text_q1 Q E) E H :=
  (conv (B := vc Pr l08_text_p3 τ (l08_text_q1 Q E) E H) (by kernel_rfl) (vc_seq (K := (l08_text_1_M Q E)) (l08_text_13ok Q E τ H h) (l08_text_2ok Q E)))

@[reducible] noncomputable def l08_text_q7 (Q : QT) (E : ET) : Exit → Tau → Heap → Prop := (xthen (l08_text_11_M Q E) (l08_text_q1 Q E))

@[reducible] noncomputable def l08_text_p12 : Code := sA l08_text_p2

def l08_text_15 (Q : QT) (E : ET) (x3 : OA) (H : Heap) : Prop :=
 l08_text_11 Q E x3 none 0 0 H

def l08_text_15_M (Q : QT) (E : ET) (τ : Tau) (H : Heap) : Prop := mP (τ 3) fun x3 => l08_text_15 Q E x3 H

theorem l08_text_16ok (Q : QT) (E : ET) (τ : Tau) (H : Heap) (h : l08_text_15_M Q E τ H) : vc Pr l08_text_p12 τ (l08_text_q7 Q E) E H :=
  vP (i := 3) h (fun x3 h => (conv (by kernel_rfl) h))

theorem l08_text_17ok (Q : QT) (E : ET) (τ : Tau) (H : Heap) (h : l08_text_15_M Q E τ H) : vc Pr l08_text_p2 τ (l08_text_q1 Q E) E H :=
  (conv (B := vc Pr l08_text_p2 τ (l08_text_q1 Q E) E H) (by kernel_rfl) (vc_seq (K := (l08_text_11_M Q E)) (l08_text_16ok Q E τ H h) (l08_text_14ok Q E)))

@[reducible] noncomputable def l08_text_q8 (Q : QT) (E : ET) : Exit → Tau → Heap → Prop := (xthen (l08_text_15_M Q E) (l08_text_q1 Q E))

@[reducible] noncomputable def l08_text_p13 : Code := sA l08_text_p1

def l08_text_18 (Q : QT) (E : ET) (x0 : OA) (l0 : Nat) (c0 : Nat) (H : Heap) : Prop :=
 Does Pr 47 #[(.slice x0 l0 c0)] H (fun v36 H37 =>
 ∃ p38 : Option Addr, v36 = (.pointer p38) ∧ l08_text_15 Q E p38 H37) E

def l08_text_18_M (Q : QT) (E : ET) (τ : Tau) (H : Heap) : Prop := mSl (τ 0) fun x0 l0 c0 => l08_text_18 Q E x0 l0 c0 H

theorem l08_text_19ok (Q : QT) (E : ET) (τ : Tau) (H : Heap) (h : l08_text_18_M Q E τ H) : vc Pr l08_text_p13 τ (l08_text_q8 Q E) E H :=
  vSl (i := 0) h (fun x0 l0 c0 h => (conv (by kernel_rfl) h))

theorem l08_text_20ok (Q : QT) (E : ET) (τ : Tau) (H : Heap) (h : l08_text_18_M Q E τ H) : vc Pr l08_text_p1 τ (l08_text_q1 Q E) E H :=
  (conv (B := vc Pr l08_text_p1 τ (l08_text_q1 Q E) E H) (by kernel_rfl) (vc_seq (K := (l08_text_15_M Q E)) (l08_text_19ok Q E τ H h) (l08_text_17ok Q E)))

@[reducible] noncomputable def l08_text_q9 (Q : QT) (E : ET) : Exit → Tau → Heap → Prop := (xthen (l08_text_18_M Q E) (l08_text_q1 Q E))

@[reducible] noncomputable def l08_text_p14 : Code := sA l08_text_p0

def l08_text (Q : QT) (E : ET) (a0 : OA) (a0l : Nat) (a0c : Nat) (H : Heap) : Prop :=
 l08_text_18 Q E a0 a0l a0c H

theorem l08_text_fn (a0 : OA) (a0l : Nat) (a0c : Nat) (Q : QT) (E : ET) (H : Heap) (h : l08_text Q E a0 a0l a0c H)   : Does Pr 30 #[(.slice a0 a0l a0c)] H Q E :=
  Fn_of_vc (fn := Try.f30) (c := l08_text_p0) (args := [(.slice a0 a0l a0c)]) mixed (by kernel_rfl) (by kernel_rfl) (by kernel_rfl) (by kernel_rfl) (by kernel_rfl) ((conv (B := vc Pr l08_text_p0 (argT [(.slice a0 a0l a0c)]) (l08_text_q1 Q E) E H) (by kernel_rfl) (vc_seq (K := (l08_text_18_M Q E)) (conv (B := vc Pr l08_text_p14 (argT [(.slice a0 a0l a0c)]) (l08_text_q9 Q E) E H) (by kernel_rfl) h) (l08_text_20ok Q E))))

end Go.Proofs.Ytaffcoiomggpfaa
