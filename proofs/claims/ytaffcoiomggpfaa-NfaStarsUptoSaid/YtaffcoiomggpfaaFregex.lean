import Derived.Test.YtaffcoiomggpfaaVPr
/- Printed by gen.py: the Go functions of package regex over a heap view, and that the model does so. -/
namespace Go.Proofs.Ytaffcoiomggpfaa
open Go.V
set_option linter.unusedVariables false
set_option maxRecDepth 100000
variable (Q : QT) (E : ET)
/-! jobmux/regex.Valid -/
noncomputable def zqt_q1 (Q : QT) (E : ET)  : XT := (retQ Pr (Try.f40).results.toList Q)

noncomputable def zqt_p1 : Code := sB (bodyOf Try.f40)

noncomputable def zqt_p3 : Code := sB (sB zqt_p1)

def zqt_1 (Q : QT) (E : ET) (x0 : OA) (l0 c0 : Nat) (x3 : OA) (l3 c3 : Nat) (H : Heap) : Prop :=
 (0 ≤ ((IntKind.wrap .i64 ((l0 : Int) - 1)) : Int) ∧ ((IntKind.wrap .i64 ((l0 : Int) - 1)) : Int) < (l3 : Int)) ∧ ptr x3 fun q33 =>
 ldI .i64 (Addr.add q33 (((IntKind.wrap .i64 ((l0 : Int) - 1)) : Int).toNat * 1)) H fun n34 =>
 Q (.bool (n34 == (l0 : Int))) H

def zqt_1_M  (τ : Tau) (H : Heap) : Prop := mSl (τ 0) fun x0 l0 c0 => mSl (τ 3) fun x3 l3 c3 => zqt_1 Q E x0 l0 c0 x3 l3 c3 H

theorem zqt_2ok  : Ok Pr (zqt_1_M Q E) (sB zqt_p3) (zqt_q1 Q E) E := fun τ H h =>
  wSl 0 h (fun x0 l0 c0 h => wSl 3 h (fun x3 l3 c3 h => (conv (by kernel_rfl) h)))

noncomputable def zqt_q2  : XT := (xthen (zqt_1_M Q E) (zqt_q1 Q E))

noncomputable def zqt_q3  : XT := (xblock 0 (zqt_q2 Q E))

noncomputable def zqt_p7 : Code := sI (sB (sA zqt_p3))

noncomputable def zqt_q4 (nx35 : Int → HP) : XT := (xthen (fun τ H => mI .i64 (τ 21) fun x21' => nx35 x21' H) (zqt_q3 Q E))

noncomputable def zqt_p9 : Code := sB (sI zqt_p7)

def zqt_3 (nx35 : Int → HP) (Q : QT) (E : ET) (x0 : OA) (l0 c0 : Nat) (x3 : OA) (l3 c3 : Nat) (x19 : OA) (l19 c19 : Nat) (x20 x21 : Int) (H : Heap) : Prop :=
 nx35 (IntKind.wrap .i64 (x21 + 1)) H

def zqt_3_M (nx35 : Int → HP) (τ : Tau) (H : Heap) : Prop := mSl (τ 0) fun x0 l0 c0 => mSl (τ 3) fun x3 l3 c3 => mSl (τ 19) fun x19 l19 c19 => mI .i64 (τ 20) fun x20 => mI .i64 (τ 21) fun x21 => zqt_3 nx35 Q E x0 l0 c0 x3 l3 c3 x19 l19 c19 x20 x21 H

theorem zqt_4ok (nx35 : Int → HP) : Ok Pr (zqt_3_M Q E nx35) (sB (sB zqt_p9)) (zqt_q4 Q E nx35) E := fun τ H h =>
  wSl 0 h (fun x0 l0 c0 h => wSl 3 h (fun x3 l3 c3 h => wSl 19 h (fun x19 l19 c19 h => wI 20 h (fun x20 h => wI 21 h (fun x21 h => (conv (by kernel_rfl) h))))))

noncomputable def zqt_q6 (nx35 : Int → HP) : XT := (xblock 1 (xthen (zqt_3_M Q E nx35) (zqt_q4 Q E nx35)))

noncomputable def zqt_p13 : Code := sI (sA (sB zqt_p9))

noncomputable def zqt_p16 : Code := sB (sB (sB zqt_p13))

noncomputable def zqt_p18 : Code := sB (sB zqt_p16)

def zqt_5 (nx35 : Int → HP) (Q : QT) (E : ET) (x0 : OA) (l0 c0 : Nat) (x3 : OA) (l3 c3 : Nat) (x19 : OA) (l19 c19 : Nat) (x20 x21 : Int) (x88 : Bool) (H : Heap) : Prop :=
 sel x88
 (Q (.bool false) H)
 (zqt_3 nx35 Q E x0 l0 c0 x3 l3 c3 x19 l19 c19 x20 x21 H)

def zqt_5_M (nx35 : Int → HP) (τ : Tau) (H : Heap) : Prop := mSl (τ 0) fun x0 l0 c0 => mSl (τ 3) fun x3 l3 c3 => mSl (τ 19) fun x19 l19 c19 => mI .i64 (τ 20) fun x20 => mI .i64 (τ 21) fun x21 => mB (τ 88) fun x88 => zqt_5 nx35 Q E x0 l0 c0 x3 l3 c3 x19 l19 c19 x20 x21 x88 H

theorem zqt_6ok (nx35 : Int → HP) : Ok Pr (zqt_5_M Q E nx35) (sB zqt_p18) (zqt_q6 Q E nx35) E := fun τ H h =>
  wSl 0 h (fun x0 l0 c0 h => wSl 3 h (fun x3 l3 c3 h => wSl 19 h (fun x19 l19 c19 h => wI 20 h (fun x20 h => wI 21 h (fun x21 h => wB 88 h (fun x88 h => (conv (by kernel_rfl) h)))))))

noncomputable def zqt_q7 (nx35 : Int → HP) : XT := (xthen (zqt_5_M Q E nx35) (zqt_q6 Q E nx35))

def zqt_7 (nx35 : Int → HP) (Q : QT) (E : ET) (x0 : OA) (l0 c0 : Nat) (x3 : OA) (l3 c3 : Nat) (x5 : OA) (x6 x7 : Int) (x19 : OA) (l19 c19 : Nat) (x20 x21 : Int) (H : Heap) : Prop :=
 ptr x5 fun q112 =>
 ldI .i64 (Addr.add q112 1) H fun n113 =>
 sel (n113 != x6)
 (zqt_5 nx35 Q E x0 l0 c0 x3 l3 c3 x19 l19 c19 x20 x21 true H)
 (ptr x5 fun q114 =>
 ldI .i64 (Addr.add q114 2) H fun n115 =>
 zqt_5 nx35 Q E x0 l0 c0 x3 l3 c3 x19 l19 c19 x20 x21 (n115 != x7) H)

def zqt_7_M (nx35 : Int → HP) (τ : Tau) (H : Heap) : Prop := mSl (τ 0) fun x0 l0 c0 => mSl (τ 3) fun x3 l3 c3 => mP (τ 5) fun x5 => mI .i64 (τ 6) fun x6 => mI .i64 (τ 7) fun x7 => mSl (τ 19) fun x19 l19 c19 => mI .i64 (τ 20) fun x20 => mI .i64 (τ 21) fun x21 => zqt_7 nx35 Q E x0 l0 c0 x3 l3 c3 x5 x6 x7 x19 l19 c19 x20 x21 H

theorem zqt_8ok (nx35 : Int → HP) : Ok Pr (zqt_7_M Q E nx35) (sA zqt_p18) (zqt_q7 Q E nx35) E := fun τ H h =>
  wSl 0 h (fun x0 l0 c0 h => wSl 3 h (fun x3 l3 c3 h => wP 5 h (fun x5 h => wI 6 h (fun x6 h => wI 7 h (fun x7 h => wSl 19 h (fun x19 l19 c19 h => wI 20 h (fun x20 h => wI 21 h (fun x21 h => (conv (by kernel_rfl) h)))))))))

theorem zqt_9ok (nx35 : Int → HP) : Ok Pr (zqt_7_M Q E nx35) zqt_p18 (zqt_q6 Q E nx35) E := fun τ H h =>
  (conv (by kernel_rfl) (vc_seq (K := (zqt_5_M Q E nx35)) (zqt_8ok Q E nx35 τ H h) (zqt_6ok Q E nx35)))

noncomputable def zqt_q8 (nx35 : Int → HP) : XT := (xthen (zqt_7_M Q E nx35) (zqt_q6 Q E nx35))

noncomputable def zqt_p21 : Code := sA (sB zqt_p16)

def zqt_10 (nx35 : Int → HP) (Q : QT) (E : ET)  (H : Heap) : Prop :=
 Q (.bool false) H

def zqt_10_M (nx35 : Int → HP) (τ : Tau) (H : Heap) : Prop := zqt_10 nx35 Q E  H

theorem zqt_11ok (nx35 : Int → HP) : Ok Pr (zqt_10_M Q E nx35) (sB (sI (sB zqt_p21))) (xblock 2 (zqt_q8 Q E nx35)) E := fun τ H h =>
  (conv (by kernel_rfl) h)

noncomputable def zqt_q10 (nx35 : Int → HP) : XT := (xthen (zqt_10_M Q E nx35) (xblock 2 (zqt_q8 Q E nx35)))

noncomputable def zqt_p27 : Code := sB (sI (sA (sI (sB zqt_p21))))

noncomputable def zqt_q12 (nx35 : Int → HP) : XT := (xthen (fun τ H => vc Pr (sB zqt_p27) τ (xblock 6 (zqt_q10 Q E nx35)) E H) (xblock 6 (zqt_q10 Q E nx35)))

noncomputable def zqt_p29 : Code := sB (sA zqt_p27)

def zqt_12 (nx35 : Int → HP) (Q : QT) (E : ET) (x0 : OA) (l0 c0 : Nat) (x3 : OA) (l3 c3 : Nat) (x4 : Int) (x5 : OA) (x6 x7 : Int) (x19 : OA) (l19 c19 : Nat) (x20 x21 : Int) (H : Heap) : Prop :=
 (0 ≤ x4 ∧ x4 < (l3 : Int)) ∧ ptr x3 fun q150 =>
 ldI .i64 (Addr.add q150 (x4.toNat * 1)) H fun n151 =>
 (0 ≤ x6 ∧ x6 < (l3 : Int)) ∧ ptr x3 fun q152 =>
 ldI .i64 (Addr.add q152 (x6.toNat * 1)) H fun n153 =>
 (0 ≤ x4 ∧ x4 < (l3 : Int)) ∧ ptr x3 fun q154 =>
 wr (Addr.add q154 (x4.toNat * 1)) [(.int .i64 (IntKind.wrap .i64 (n151 + n153)))] H fun H155 =>
 zqt_7 nx35 Q E x0 l0 c0 x3 l3 c3 x5 x6 x7 x19 l19 c19 x20 x21 H155

def zqt_12_M (nx35 : Int → HP) (τ : Tau) (H : Heap) : Prop := mSl (τ 0) fun x0 l0 c0 => mSl (τ 3) fun x3 l3 c3 => mI .i64 (τ 4) fun x4 => mP (τ 5) fun x5 => mI .i64 (τ 6) fun x6 => mI .i64 (τ 7) fun x7 => mSl (τ 19) fun x19 l19 c19 => mI .i64 (τ 20) fun x20 => mI .i64 (τ 21) fun x21 => zqt_12 nx35 Q E x0 l0 c0 x3 l3 c3 x4 x5 x6 x7 x19 l19 c19 x20 x21 H

theorem zqt_13ok (nx35 : Int → HP) : Ok Pr (zqt_12_M Q E nx35) (sB zqt_p29) (zqt_q12 Q E nx35) E := fun τ H h =>
  wSl 0 h (fun x0 l0 c0 h => wSl 3 h (fun x3 l3 c3 h => wI 4 h (fun x4 h => wP 5 h (fun x5 h => wI 6 h (fun x6 h => wI 7 h (fun x7 h => wSl 19 h (fun x19 l19 c19 h => wI 20 h (fun x20 h => wI 21 h (fun x21 h => (conv (by kernel_rfl) h))))))))))

noncomputable def zqt_q13 (nx35 : Int → HP) : XT := (xthen (zqt_12_M Q E nx35) (zqt_q12 Q E nx35))

def zqt_14 (nx35 : Int → HP) (Q : QT) (E : ET) (x0 : OA) (l0 c0 : Nat) (x3 : OA) (l3 c3 : Nat) (x4 : Int) (x5 : OA) (x6 x7 : Int) (x19 : OA) (l19 c19 : Nat) (x20 x21 : Int) (H : Heap) : Prop :=
 sel (decide (x6 < 0))
 (Q (.bool false) H)
 (zqt_12 nx35 Q E x0 l0 c0 x3 l3 c3 x4 x5 x6 x7 x19 l19 c19 x20 x21 H)

def zqt_14_M (nx35 : Int → HP) (τ : Tau) (H : Heap) : Prop := mSl (τ 0) fun x0 l0 c0 => mSl (τ 3) fun x3 l3 c3 => mI .i64 (τ 4) fun x4 => mP (τ 5) fun x5 => mI .i64 (τ 6) fun x6 => mI .i64 (τ 7) fun x7 => mSl (τ 19) fun x19 l19 c19 => mI .i64 (τ 20) fun x20 => mI .i64 (τ 21) fun x21 => zqt_14 nx35 Q E x0 l0 c0 x3 l3 c3 x4 x5 x6 x7 x19 l19 c19 x20 x21 H

theorem zqt_15ok (nx35 : Int → HP) : Ok Pr (zqt_14_M Q E nx35) (sA zqt_p29) (zqt_q13 Q E nx35) E := fun τ H h =>
  wSl 0 h (fun x0 l0 c0 h => wSl 3 h (fun x3 l3 c3 h => wI 4 h (fun x4 h => wP 5 h (fun x5 h => wI 6 h (fun x6 h => wI 7 h (fun x7 h => wSl 19 h (fun x19 l19 c19 h => wI 20 h (fun x20 h => wI 21 h (fun x21 h => (conv (by kernel_rfl) h))))))))))

theorem zqt_16ok (nx35 : Int → HP) : Ok Pr (zqt_14_M Q E nx35) zqt_p29 (zqt_q12 Q E nx35) E := fun τ H h =>
  (conv (by kernel_rfl) (vc_seq (K := (zqt_12_M Q E nx35)) (zqt_15ok Q E nx35 τ H h) (zqt_13ok Q E nx35)))

noncomputable def zqt_q14 (nx35 : Int → HP) : XT := (xthen (zqt_14_M Q E nx35) (zqt_q12 Q E nx35))

def zqt_17 (nx35 : Int → HP) (Q : QT) (E : ET) (x0 : OA) (l0 c0 : Nat) (x3 : OA) (l3 c3 : Nat) (x4 : Int) (x5 : OA) (x7 : Int) (x19 : OA) (l19 c19 : Nat) (x20 x21 : Int) (H : Heap) : Prop :=
 (0 ≤ x4 ∧ x4 < (l3 : Int)) ∧ ptr x3 fun q156 =>
 ldI .i64 (Addr.add q156 (x4.toNat * 1)) H fun n157 =>
 zqt_14 nx35 Q E x0 l0 c0 x3 l3 c3 x4 x5 (IntKind.wrap .i64 (x4 - n157)) x7 x19 l19 c19 x20 x21 H

def zqt_17_M (nx35 : Int → HP) (τ : Tau) (H : Heap) : Prop := mSl (τ 0) fun x0 l0 c0 => mSl (τ 3) fun x3 l3 c3 => mI .i64 (τ 4) fun x4 => mP (τ 5) fun x5 => mI .i64 (τ 7) fun x7 => mSl (τ 19) fun x19 l19 c19 => mI .i64 (τ 20) fun x20 => mI .i64 (τ 21) fun x21 => zqt_17 nx35 Q E x0 l0 c0 x3 l3 c3 x4 x5 x7 x19 l19 c19 x20 x21 H

theorem zqt_18ok (nx35 : Int → HP) : Ok Pr (zqt_17_M Q E nx35) (sA (sA zqt_p27)) (zqt_q14 Q E nx35) E := fun τ H h =>
  wSl 0 h (fun x0 l0 c0 h => wSl 3 h (fun x3 l3 c3 h => wI 4 h (fun x4 h => wP 5 h (fun x5 h => wI 7 h (fun x7 h => wSl 19 h (fun x19 l19 c19 h => wI 20 h (fun x20 h => wI 21 h (fun x21 h => (conv (by kernel_rfl) h)))))))))

theorem zqt_19ok (nx35 : Int → HP) : Ok Pr (zqt_17_M Q E nx35) (sA zqt_p27) (zqt_q12 Q E nx35) E := fun τ H h =>
  (conv (by kernel_rfl) (vc_seq (K := (zqt_14_M Q E nx35)) (zqt_18ok Q E nx35 τ H h) (zqt_16ok Q E nx35)))

theorem zqt_20ok (nx35 : Int → HP) : Ok Pr (zqt_17_M Q E nx35) zqt_p27 (xblock 6 (zqt_q10 Q E nx35)) E := fun τ H h =>
  (conv (by kernel_rfl) (zqt_19ok Q E nx35 τ H h))

noncomputable def zqt_q16 (nx35 : Int → HP) : XT := (xblock 5 (xthen (zqt_17_M Q E nx35) (xblock 6 (zqt_q10 Q E nx35))))

noncomputable def zqt_p34 : Code := sI (sA (sI (sA (sI (sB zqt_p21)))))

noncomputable def zqt_p36 : Code := sB (sB zqt_p34)

def zqt_21 (nx35 : Int → HP) (Q : QT) (E : ET) (x0 : OA) (l0 c0 : Nat) (x3 : OA) (l3 c3 : Nat) (x4 : Int) (x5 : OA) (x7 : Int) (x19 : OA) (l19 c19 : Nat) (x20 x21 : Int) (H : Heap) : Prop :=
 (0 ≤ x4 ∧ x4 < (l3 : Int)) ∧ ptr x3 fun q158 =>
 ldI .i64 (Addr.add q158 (x4.toNat * 1)) H fun n159 =>
 (0 ≤ x7 ∧ x7 < (l3 : Int)) ∧ ptr x3 fun q160 =>
 ldI .i64 (Addr.add q160 (x7.toNat * 1)) H fun n161 =>
 (0 ≤ x4 ∧ x4 < (l3 : Int)) ∧ ptr x3 fun q162 =>
 wr (Addr.add q162 (x4.toNat * 1)) [(.int .i64 (IntKind.wrap .i64 (n159 + n161)))] H fun H163 =>
 zqt_17 nx35 Q E x0 l0 c0 x3 l3 c3 x4 x5 x7 x19 l19 c19 x20 x21 H163

def zqt_21_M (nx35 : Int → HP) (τ : Tau) (H : Heap) : Prop := mSl (τ 0) fun x0 l0 c0 => mSl (τ 3) fun x3 l3 c3 => mI .i64 (τ 4) fun x4 => mP (τ 5) fun x5 => mI .i64 (τ 7) fun x7 => mSl (τ 19) fun x19 l19 c19 => mI .i64 (τ 20) fun x20 => mI .i64 (τ 21) fun x21 => zqt_21 nx35 Q E x0 l0 c0 x3 l3 c3 x4 x5 x7 x19 l19 c19 x20 x21 H

theorem zqt_22ok (nx35 : Int → HP) : Ok Pr (zqt_21_M Q E nx35) (sB zqt_p36) (zqt_q16 Q E nx35) E := fun τ H h =>
  wSl 0 h (fun x0 l0 c0 h => wSl 3 h (fun x3 l3 c3 h => wI 4 h (fun x4 h => wP 5 h (fun x5 h => wI 7 h (fun x7 h => wSl 19 h (fun x19 l19 c19 h => wI 20 h (fun x20 h => wI 21 h (fun x21 h => (conv (by kernel_rfl) h)))))))))

noncomputable def zqt_q17 (nx35 : Int → HP) : XT := (xthen (zqt_21_M Q E nx35) (zqt_q16 Q E nx35))

def zqt_23 (nx35 : Int → HP) (Q : QT) (E : ET) (x0 : OA) (l0 c0 : Nat) (x3 : OA) (l3 c3 : Nat) (x4 : Int) (x5 : OA) (x7 : Int) (x19 : OA) (l19 c19 : Nat) (x20 x21 : Int) (H : Heap) : Prop :=
 sel (decide (x7 < 0))
 (Q (.bool false) H)
 (zqt_21 nx35 Q E x0 l0 c0 x3 l3 c3 x4 x5 x7 x19 l19 c19 x20 x21 H)

def zqt_23_M (nx35 : Int → HP) (τ : Tau) (H : Heap) : Prop := mSl (τ 0) fun x0 l0 c0 => mSl (τ 3) fun x3 l3 c3 => mI .i64 (τ 4) fun x4 => mP (τ 5) fun x5 => mI .i64 (τ 7) fun x7 => mSl (τ 19) fun x19 l19 c19 => mI .i64 (τ 20) fun x20 => mI .i64 (τ 21) fun x21 => zqt_23 nx35 Q E x0 l0 c0 x3 l3 c3 x4 x5 x7 x19 l19 c19 x20 x21 H

theorem zqt_24ok (nx35 : Int → HP) : Ok Pr (zqt_23_M Q E nx35) (sA zqt_p36) (zqt_q17 Q E nx35) E := fun τ H h =>
  wSl 0 h (fun x0 l0 c0 h => wSl 3 h (fun x3 l3 c3 h => wI 4 h (fun x4 h => wP 5 h (fun x5 h => wI 7 h (fun x7 h => wSl 19 h (fun x19 l19 c19 h => wI 20 h (fun x20 h => wI 21 h (fun x21 h => (conv (by kernel_rfl) h)))))))))

theorem zqt_25ok (nx35 : Int → HP) : Ok Pr (zqt_23_M Q E nx35) zqt_p36 (zqt_q16 Q E nx35) E := fun τ H h =>
  (conv (by kernel_rfl) (vc_seq (K := (zqt_21_M Q E nx35)) (zqt_24ok Q E nx35 τ H h) (zqt_22ok Q E nx35)))

noncomputable def zqt_q18 (nx35 : Int → HP) : XT := (xthen (zqt_23_M Q E nx35) (zqt_q16 Q E nx35))

def zqt_26 (nx35 : Int → HP) (Q : QT) (E : ET) (x0 : OA) (l0 c0 : Nat) (x3 : OA) (l3 c3 : Nat) (x4 : Int) (x5 x19 : OA) (l19 c19 : Nat) (x20 x21 : Int) (H : Heap) : Prop :=
 zqt_23 nx35 Q E x0 l0 c0 x3 l3 c3 x4 x5 (IntKind.wrap .i64 (x4 - 1)) x19 l19 c19 x20 x21 H

def zqt_26_M (nx35 : Int → HP) (τ : Tau) (H : Heap) : Prop := mSl (τ 0) fun x0 l0 c0 => mSl (τ 3) fun x3 l3 c3 => mI .i64 (τ 4) fun x4 => mP (τ 5) fun x5 => mSl (τ 19) fun x19 l19 c19 => mI .i64 (τ 20) fun x20 => mI .i64 (τ 21) fun x21 => zqt_26 nx35 Q E x0 l0 c0 x3 l3 c3 x4 x5 x19 l19 c19 x20 x21 H

theorem zqt_27ok (nx35 : Int → HP) : Ok Pr (zqt_26_M Q E nx35) (sA (sB zqt_p34)) (zqt_q18 Q E nx35) E := fun τ H h =>
  wSl 0 h (fun x0 l0 c0 h => wSl 3 h (fun x3 l3 c3 h => wI 4 h (fun x4 h => wP 5 h (fun x5 h => wSl 19 h (fun x19 l19 c19 h => wI 20 h (fun x20 h => wI 21 h (fun x21 h => (conv (by kernel_rfl) h))))))))

theorem zqt_28ok (nx35 : Int → HP) : Ok Pr (zqt_26_M Q E nx35) (sB zqt_p34) (zqt_q16 Q E nx35) E := fun τ H h =>
  (conv (by kernel_rfl) (vc_seq (K := (zqt_23_M Q E nx35)) (zqt_27ok Q E nx35 τ H h) (zqt_25ok Q E nx35)))

noncomputable def zqt_q19 (nx35 : Int → HP) : XT := (xthen (zqt_26_M Q E nx35) (zqt_q16 Q E nx35))

noncomputable def zqt_q21 (nx35 : Int → HP) : XT := (xthen (fun τ H => vc Pr (sB (sI (sA zqt_p34))) τ (xblock 4 (zqt_q19 Q E nx35)) E H) (xblock 4 (zqt_q19 Q E nx35)))

noncomputable def zqt_p43 : Code := sI (sA (sI (sA zqt_p34)))

noncomputable def zqt_q23 (nx35 : Int → HP) : XT := (xthen (fun τ H => vc Pr (sB zqt_p43) τ (xblock 3 (zqt_q21 Q E nx35)) E H) (xblock 3 (zqt_q21 Q E nx35)))

noncomputable def zqt_p45 : Code := sB (sA zqt_p43)

def zqt_29 (nx35 : Int → HP) (Q : QT) (E : ET) (x0 : OA) (l0 c0 : Nat) (x3 : OA) (l3 c3 : Nat) (x4 : Int) (x5 : OA) (x7 : Int) (x19 : OA) (l19 c19 : Nat) (x20 x21 x40 : Int) (H : Heap) : Prop :=
 sel (x40 == 1)
 (zqt_17 nx35 Q E x0 l0 c0 x3 l3 c3 x4 x5 x7 x19 l19 c19 x20 x21 H)
 (zqt_10 nx35 Q E  H)

def zqt_29_M (nx35 : Int → HP) (τ : Tau) (H : Heap) : Prop := mSl (τ 0) fun x0 l0 c0 => mSl (τ 3) fun x3 l3 c3 => mI .i64 (τ 4) fun x4 => mP (τ 5) fun x5 => mI .i64 (τ 7) fun x7 => mSl (τ 19) fun x19 l19 c19 => mI .i64 (τ 20) fun x20 => mI .i64 (τ 21) fun x21 => mI .i64 (τ 40) fun x40 => zqt_29 nx35 Q E x0 l0 c0 x3 l3 c3 x4 x5 x7 x19 l19 c19 x20 x21 x40 H

theorem zqt_30ok (nx35 : Int → HP) : Ok Pr (zqt_29_M Q E nx35) (sB zqt_p45) (zqt_q23 Q E nx35) E := fun τ H h =>
  wSl 0 h (fun x0 l0 c0 h => wSl 3 h (fun x3 l3 c3 h => wI 4 h (fun x4 h => wP 5 h (fun x5 h => wI 7 h (fun x7 h => wSl 19 h (fun x19 l19 c19 h => wI 20 h (fun x20 h => wI 21 h (fun x21 h => wI 40 h (fun x40 h => (conv (by kernel_rfl) h))))))))))

noncomputable def zqt_q24 (nx35 : Int → HP) : XT := (xthen (zqt_29_M Q E nx35) (zqt_q23 Q E nx35))

def zqt_31 (nx35 : Int → HP) (Q : QT) (E : ET) (x0 : OA) (l0 c0 : Nat) (x3 : OA) (l3 c3 : Nat) (x4 : Int) (x5 : OA) (x7 : Int) (x19 : OA) (l19 c19 : Nat) (x20 x21 x40 : Int) (H : Heap) : Prop :=
 sel (x40 == 2)
 (zqt_26 nx35 Q E x0 l0 c0 x3 l3 c3 x4 x5 x19 l19 c19 x20 x21 H)
 (zqt_29 nx35 Q E x0 l0 c0 x3 l3 c3 x4 x5 x7 x19 l19 c19 x20 x21 x40 H)

def zqt_31_M (nx35 : Int → HP) (τ : Tau) (H : Heap) : Prop := mSl (τ 0) fun x0 l0 c0 => mSl (τ 3) fun x3 l3 c3 => mI .i64 (τ 4) fun x4 => mP (τ 5) fun x5 => mI .i64 (τ 7) fun x7 => mSl (τ 19) fun x19 l19 c19 => mI .i64 (τ 20) fun x20 => mI .i64 (τ 21) fun x21 => mI .i64 (τ 40) fun x40 => zqt_31 nx35 Q E x0 l0 c0 x3 l3 c3 x4 x5 x7 x19 l19 c19 x20 x21 x40 H

theorem zqt_32ok (nx35 : Int → HP) : Ok Pr (zqt_31_M Q E nx35) (sA zqt_p45) (zqt_q24 Q E nx35) E := fun τ H h =>
  wSl 0 h (fun x0 l0 c0 h => wSl 3 h (fun x3 l3 c3 h => wI 4 h (fun x4 h => wP 5 h (fun x5 h => wI 7 h (fun x7 h => wSl 19 h (fun x19 l19 c19 h => wI 20 h (fun x20 h => wI 21 h (fun x21 h => wI 40 h (fun x40 h => (conv (by kernel_rfl) h))))))))))

theorem zqt_33ok (nx35 : Int → HP) : Ok Pr (zqt_31_M Q E nx35) zqt_p45 (zqt_q23 Q E nx35) E := fun τ H h =>
  (conv (by kernel_rfl) (vc_seq (K := (zqt_29_M Q E nx35)) (zqt_32ok Q E nx35 τ H h) (zqt_30ok Q E nx35)))

noncomputable def zqt_q25 (nx35 : Int → HP) : XT := (xthen (zqt_31_M Q E nx35) (zqt_q23 Q E nx35))

def zqt_34 (nx35 : Int → HP) (Q : QT) (E : ET) (x0 : OA) (l0 c0 : Nat) (x3 : OA) (l3 c3 : Nat) (x4 : Int) (x5 : OA) (x6 x7 : Int) (x19 : OA) (l19 c19 : Nat) (x20 x21 x40 : Int) (H : Heap) : Prop :=
 sel (x40 == 0)
 (zqt_7 nx35 Q E x0 l0 c0 x3 l3 c3 x5 x6 x7 x19 l19 c19 x20 x21 H)
 (zqt_31 nx35 Q E x0 l0 c0 x3 l3 c3 x4 x5 x7 x19 l19 c19 x20 x21 x40 H)

def zqt_34_M (nx35 : Int → HP) (τ : Tau) (H : Heap) : Prop := mSl (τ 0) fun x0 l0 c0 => mSl (τ 3) fun x3 l3 c3 => mI .i64 (τ 4) fun x4 => mP (τ 5) fun x5 => mI .i64 (τ 6) fun x6 => mI .i64 (τ 7) fun x7 => mSl (τ 19) fun x19 l19 c19 => mI .i64 (τ 20) fun x20 => mI .i64 (τ 21) fun x21 => mI .i64 (τ 40) fun x40 => zqt_34 nx35 Q E x0 l0 c0 x3 l3 c3 x4 x5 x6 x7 x19 l19 c19 x20 x21 x40 H

theorem zqt_35ok (nx35 : Int → HP) : Ok Pr (zqt_34_M Q E nx35) (sA (sA zqt_p43)) (zqt_q25 Q E nx35) E := fun τ H h =>
  wSl 0 h (fun x0 l0 c0 h => wSl 3 h (fun x3 l3 c3 h => wI 4 h (fun x4 h => wP 5 h (fun x5 h => wI 6 h (fun x6 h => wI 7 h (fun x7 h => wSl 19 h (fun x19 l19 c19 h => wI 20 h (fun x20 h => wI 21 h (fun x21 h => wI 40 h (fun x40 h => (conv (by kernel_rfl) h)))))))))))

theorem zqt_36ok (nx35 : Int → HP) : Ok Pr (zqt_34_M Q E nx35) (sA zqt_p43) (zqt_q23 Q E nx35) E := fun τ H h =>
  (conv (by kernel_rfl) (vc_seq (K := (zqt_31_M Q E nx35)) (zqt_35ok Q E nx35 τ H h) (zqt_33ok Q E nx35)))

theorem zqt_37ok (nx35 : Int → HP) : Ok Pr (zqt_34_M Q E nx35) zqt_p43 (xblock 3 (zqt_q21 Q E nx35)) E := fun τ H h =>
  (conv (by kernel_rfl) (zqt_36ok Q E nx35 τ H h))

theorem zqt_38ok (nx35 : Int → HP) : Ok Pr (zqt_34_M Q E nx35) (sA (sI (sA zqt_p34))) (zqt_q21 Q E nx35) E := fun τ H h =>
  (conv (by kernel_rfl) (zqt_37ok Q E nx35 τ H h))

theorem zqt_39ok (nx35 : Int → HP) : Ok Pr (zqt_34_M Q E nx35) (sI (sA zqt_p34)) (xblock 4 (zqt_q19 Q E nx35)) E := fun τ H h =>
  (conv (by kernel_rfl) (zqt_38ok Q E nx35 τ H h))

theorem zqt_40ok (nx35 : Int → HP) : Ok Pr (zqt_34_M Q E nx35) (sA zqt_p34) (zqt_q19 Q E nx35) E := fun τ H h =>
  (conv (by kernel_rfl) (zqt_39ok Q E nx35 τ H h))

theorem zqt_41ok (nx35 : Int → HP) : Ok Pr (zqt_34_M Q E nx35) zqt_p34 (zqt_q16 Q E nx35) E := fun τ H h =>
  (conv (by kernel_rfl) (vc_seq (K := (zqt_26_M Q E nx35)) (zqt_40ok Q E nx35 τ H h) (zqt_28ok Q E nx35)))

theorem zqt_42ok (nx35 : Int → HP) : Ok Pr (zqt_34_M Q E nx35) (sA (sI (sA (sI (sB zqt_p21))))) (xthen (zqt_17_M Q E nx35) (xblock 6 (zqt_q10 Q E nx35))) E := fun τ H h =>
  (conv (by kernel_rfl) (zqt_41ok Q E nx35 τ H h))

theorem zqt_43ok (nx35 : Int → HP) : Ok Pr (zqt_34_M Q E nx35) (sI (sA (sI (sB zqt_p21)))) (xblock 6 (zqt_q10 Q E nx35)) E := fun τ H h =>
  (conv (by kernel_rfl) (vc_seq (K := (zqt_17_M Q E nx35)) (zqt_42ok Q E nx35 τ H h) (zqt_20ok Q E nx35)))

theorem zqt_44ok (nx35 : Int → HP) : Ok Pr (zqt_34_M Q E nx35) (sA (sI (sB zqt_p21))) (zqt_q10 Q E nx35) E := fun τ H h =>
  (conv (by kernel_rfl) (zqt_43ok Q E nx35 τ H h))

theorem zqt_45ok (nx35 : Int → HP) : Ok Pr (zqt_34_M Q E nx35) (sI (sB zqt_p21)) (xblock 2 (zqt_q8 Q E nx35)) E := fun τ H h =>
  (conv (by kernel_rfl) (vc_seq (K := (zqt_10_M Q E nx35)) (zqt_44ok Q E nx35 τ H h) (zqt_11ok Q E nx35)))

theorem zqt_46ok (nx35 : Int → HP) : Ok Pr (zqt_34_M Q E nx35) (sB zqt_p21) (zqt_q8 Q E nx35) E := fun τ H h =>
  (conv (by kernel_rfl) (zqt_45ok Q E nx35 τ H h))

noncomputable def zqt_q26 (nx35 : Int → HP) : XT := (xthen (zqt_34_M Q E nx35) (zqt_q8 Q E nx35))

def zqt_47 (nx35 : Int → HP) (Q : QT) (E : ET) (x0 : OA) (l0 c0 : Nat) (x3 : OA) (l3 c3 : Nat) (x4 : Int) (x5 : OA) (x6 x7 : Int) (x19 : OA) (l19 c19 : Nat) (x20 x21 : Int) (H : Heap) : Prop :=
 ptr x5 fun q164 =>
 ldI .i64 q164 H fun n165 =>
 Does Pr 74 #[(.int .i64 n165)] H (fun v166 H167 =>
 ∃ n168 : Int, v166 = (.int .i64 n168) ∧ zqt_34 nx35 Q E x0 l0 c0 x3 l3 c3 x4 x5 x6 x7 x19 l19 c19 x20 x21 n168 H167) E

def zqt_47_M (nx35 : Int → HP) (τ : Tau) (H : Heap) : Prop := mSl (τ 0) fun x0 l0 c0 => mSl (τ 3) fun x3 l3 c3 => mI .i64 (τ 4) fun x4 => mP (τ 5) fun x5 => mI .i64 (τ 6) fun x6 => mI .i64 (τ 7) fun x7 => mSl (τ 19) fun x19 l19 c19 => mI .i64 (τ 20) fun x20 => mI .i64 (τ 21) fun x21 => zqt_47 nx35 Q E x0 l0 c0 x3 l3 c3 x4 x5 x6 x7 x19 l19 c19 x20 x21 H

theorem zqt_48ok (nx35 : Int → HP) : Ok Pr (zqt_47_M Q E nx35) (sA zqt_p21) (zqt_q26 Q E nx35) E := fun τ H h =>
  wSl 0 h (fun x0 l0 c0 h => wSl 3 h (fun x3 l3 c3 h => wI 4 h (fun x4 h => wP 5 h (fun x5 h => wI 6 h (fun x6 h => wI 7 h (fun x7 h => wSl 19 h (fun x19 l19 c19 h => wI 20 h (fun x20 h => wI 21 h (fun x21 h => (conv (by kernel_rfl) h))))))))))

theorem zqt_49ok (nx35 : Int → HP) : Ok Pr (zqt_47_M Q E nx35) zqt_p21 (zqt_q8 Q E nx35) E := fun τ H h =>
  (conv (by kernel_rfl) (vc_seq (K := (zqt_34_M Q E nx35)) (zqt_48ok Q E nx35 τ H h) (zqt_46ok Q E nx35)))

theorem zqt_50ok (nx35 : Int → HP) : Ok Pr (zqt_47_M Q E nx35) (sB zqt_p16) (zqt_q6 Q E nx35) E := fun τ H h =>
  (conv (by kernel_rfl) (vc_seq (K := (zqt_7_M Q E nx35)) (zqt_49ok Q E nx35 τ H h) (zqt_9ok Q E nx35)))

noncomputable def zqt_q27 (nx35 : Int → HP) : XT := (xthen (zqt_47_M Q E nx35) (zqt_q6 Q E nx35))

def zqt_51 (nx35 : Int → HP) (Q : QT) (E : ET) (x0 : OA) (l0 c0 : Nat) (x3 : OA) (l3 c3 : Nat) (x4 : Int) (x5 : OA) (x6 x7 : Int) (x19 : OA) (l19 c19 : Nat) (x20 x21 : Int) (H : Heap) : Prop :=
 (0 ≤ x4 ∧ x4 < (l3 : Int)) ∧ ptr x3 fun q169 =>
 wr (Addr.add q169 (x4.toNat * 1)) [(.int .i64 1)] H fun H170 =>
 zqt_47 nx35 Q E x0 l0 c0 x3 l3 c3 x4 x5 x6 x7 x19 l19 c19 x20 x21 H170

def zqt_51_M (nx35 : Int → HP) (τ : Tau) (H : Heap) : Prop := mSl (τ 0) fun x0 l0 c0 => mSl (τ 3) fun x3 l3 c3 => mI .i64 (τ 4) fun x4 => mP (τ 5) fun x5 => mI .i64 (τ 6) fun x6 => mI .i64 (τ 7) fun x7 => mSl (τ 19) fun x19 l19 c19 => mI .i64 (τ 20) fun x20 => mI .i64 (τ 21) fun x21 => zqt_51 nx35 Q E x0 l0 c0 x3 l3 c3 x4 x5 x6 x7 x19 l19 c19 x20 x21 H

theorem zqt_52ok (nx35 : Int → HP) : Ok Pr (zqt_51_M Q E nx35) (sA zqt_p16) (zqt_q27 Q E nx35) E := fun τ H h =>
  wSl 0 h (fun x0 l0 c0 h => wSl 3 h (fun x3 l3 c3 h => wI 4 h (fun x4 h => wP 5 h (fun x5 h => wI 6 h (fun x6 h => wI 7 h (fun x7 h => wSl 19 h (fun x19 l19 c19 h => wI 20 h (fun x20 h => wI 21 h (fun x21 h => (conv (by kernel_rfl) h))))))))))

theorem zqt_53ok (nx35 : Int → HP) : Ok Pr (zqt_51_M Q E nx35) zqt_p16 (zqt_q6 Q E nx35) E := fun τ H h =>
  (conv (by kernel_rfl) (vc_seq (K := (zqt_47_M Q E nx35)) (zqt_52ok Q E nx35 τ H h) (zqt_50ok Q E nx35)))

noncomputable def zqt_q28 (nx35 : Int → HP) : XT := (xthen (zqt_51_M Q E nx35) (zqt_q6 Q E nx35))

def zqt_54 (nx35 : Int → HP) (Q : QT) (E : ET) (x0 : OA) (l0 c0 : Nat) (x3 : OA) (l3 c3 : Nat) (x4 : Int) (x5 x19 : OA) (l19 c19 : Nat) (x20 x21 : Int) (H : Heap) : Prop :=
 zqt_51 nx35 Q E x0 l0 c0 x3 l3 c3 x4 x5 0 0 x19 l19 c19 x20 x21 H

def zqt_54_M (nx35 : Int → HP) (τ : Tau) (H : Heap) : Prop := mSl (τ 0) fun x0 l0 c0 => mSl (τ 3) fun x3 l3 c3 => mI .i64 (τ 4) fun x4 => mP (τ 5) fun x5 => mSl (τ 19) fun x19 l19 c19 => mI .i64 (τ 20) fun x20 => mI .i64 (τ 21) fun x21 => zqt_54 nx35 Q E x0 l0 c0 x3 l3 c3 x4 x5 x19 l19 c19 x20 x21 H

theorem zqt_55ok (nx35 : Int → HP) : Ok Pr (zqt_54_M Q E nx35) (sA (sB (sB zqt_p13))) (zqt_q28 Q E nx35) E := fun τ H h =>
  wSl 0 h (fun x0 l0 c0 h => wSl 3 h (fun x3 l3 c3 h => wI 4 h (fun x4 h => wP 5 h (fun x5 h => wSl 19 h (fun x19 l19 c19 h => wI 20 h (fun x20 h => wI 21 h (fun x21 h => (conv (by kernel_rfl) h))))))))

theorem zqt_56ok (nx35 : Int → HP) : Ok Pr (zqt_54_M Q E nx35) (sB (sB zqt_p13)) (zqt_q6 Q E nx35) E := fun τ H h =>
  (conv (by kernel_rfl) (vc_seq (K := (zqt_51_M Q E nx35)) (zqt_55ok Q E nx35 τ H h) (zqt_53ok Q E nx35)))

noncomputable def zqt_q29 (nx35 : Int → HP) : XT := (xthen (zqt_54_M Q E nx35) (zqt_q6 Q E nx35))

noncomputable def zqt_p52 : Code := sA (sB zqt_p13)

def zqt_57 (nx35 : Int → HP) (Q : QT) (E : ET) (x0 : OA) (l0 c0 : Nat) (x3 : OA) (l3 c3 : Nat) (x4 : Int) (x5 x19 : OA) (l19 c19 : Nat) (x20 x21 : Int) (x34 : Bool) (H : Heap) : Prop :=
 sel x34
 (Q (.bool false) H)
 (zqt_54 nx35 Q E x0 l0 c0 x3 l3 c3 x4 x5 x19 l19 c19 x20 x21 H)

def zqt_57_M (nx35 : Int → HP) (τ : Tau) (H : Heap) : Prop := mSl (τ 0) fun x0 l0 c0 => mSl (τ 3) fun x3 l3 c3 => mI .i64 (τ 4) fun x4 => mP (τ 5) fun x5 => mSl (τ 19) fun x19 l19 c19 => mI .i64 (τ 20) fun x20 => mI .i64 (τ 21) fun x21 => mB (τ 34) fun x34 => zqt_57 nx35 Q E x0 l0 c0 x3 l3 c3 x4 x5 x19 l19 c19 x20 x21 x34 H

theorem zqt_58ok (nx35 : Int → HP) : Ok Pr (zqt_57_M Q E nx35) (sB zqt_p52) (zqt_q29 Q E nx35) E := fun τ H h =>
  wSl 0 h (fun x0 l0 c0 h => wSl 3 h (fun x3 l3 c3 h => wI 4 h (fun x4 h => wP 5 h (fun x5 h => wSl 19 h (fun x19 l19 c19 h => wI 20 h (fun x20 h => wI 21 h (fun x21 h => wB 34 h (fun x34 h => (conv (by kernel_rfl) h)))))))))

noncomputable def zqt_q30 (nx35 : Int → HP) : XT := (xthen (zqt_57_M Q E nx35) (zqt_q29 Q E nx35))

def zqt_59 (nx35 : Int → HP) (Q : QT) (E : ET) (x0 : OA) (l0 c0 : Nat) (x3 : OA) (l3 c3 : Nat) (x4 : Int) (x5 x19 : OA) (l19 c19 : Nat) (x20 x21 : Int) (H : Heap) : Prop :=
 ptr x5 fun q176 =>
 ldI .i64 q176 H fun n177 =>
 sel (n177 != 2)
 (ptr x5 fun q178 =>
 ∃ n179 n180 n181 n182 : Int, Heap.rd H (Addr.add q178 3) 0 [(.int .u64 n179), (.int .u64 n180), (.int .u64 n181), (.int .u64 n182)] ∧ zqt_57 nx35 Q E x0 l0 c0 x3 l3 c3 x4 x5 x19 l19 c19 x20 x21 (!(eqVs [(.int .u64 n179), (.int .u64 n180), (.int .u64 n181), (.int .u64 n182)] [(.int .u64 0), (.int .u64 0), (.int .u64 0), (.int .u64 0)])) H)
 (zqt_57 nx35 Q E x0 l0 c0 x3 l3 c3 x4 x5 x19 l19 c19 x20 x21 false H)

def zqt_59_M (nx35 : Int → HP) (τ : Tau) (H : Heap) : Prop := mSl (τ 0) fun x0 l0 c0 => mSl (τ 3) fun x3 l3 c3 => mI .i64 (τ 4) fun x4 => mP (τ 5) fun x5 => mSl (τ 19) fun x19 l19 c19 => mI .i64 (τ 20) fun x20 => mI .i64 (τ 21) fun x21 => zqt_59 nx35 Q E x0 l0 c0 x3 l3 c3 x4 x5 x19 l19 c19 x20 x21 H

theorem zqt_60ok (nx35 : Int → HP) : Ok Pr (zqt_59_M Q E nx35) (sA zqt_p52) (zqt_q30 Q E nx35) E := fun τ H h =>
  wSl 0 h (fun x0 l0 c0 h => wSl 3 h (fun x3 l3 c3 h => wI 4 h (fun x4 h => wP 5 h (fun x5 h => wSl 19 h (fun x19 l19 c19 h => wI 20 h (fun x20 h => wI 21 h (fun x21 h => (conv (by kernel_rfl) h))))))))

theorem zqt_61ok (nx35 : Int → HP) : Ok Pr (zqt_59_M Q E nx35) zqt_p52 (zqt_q29 Q E nx35) E := fun τ H h =>
  (conv (by kernel_rfl) (vc_seq (K := (zqt_57_M Q E nx35)) (zqt_60ok Q E nx35 τ H h) (zqt_58ok Q E nx35)))

theorem zqt_62ok (nx35 : Int → HP) : Ok Pr (zqt_59_M Q E nx35) (sB zqt_p13) (zqt_q6 Q E nx35) E := fun τ H h =>
  (conv (by kernel_rfl) (vc_seq (K := (zqt_54_M Q E nx35)) (zqt_61ok Q E nx35 τ H h) (zqt_56ok Q E nx35)))

noncomputable def zqt_q31 (nx35 : Int → HP) : XT := (xthen (zqt_59_M Q E nx35) (zqt_q6 Q E nx35))

def zqt_63 (nx35 : Int → HP) (Q : QT) (E : ET) (x0 : OA) (l0 c0 : Nat) (x3 : OA) (l3 c3 : Nat) (x19 : OA) (l19 c19 : Nat) (x20 x21 : Int) (H : Heap) : Prop :=
 (0 ≤ x21 ∧ x21 < (l19 : Int)) ∧ ptr x19 fun q183 =>
 ∃ n184 n185 n186 n187 n188 n189 n190 : Int, Heap.rd H (Addr.add q183 (x21.toNat * 7)) 0 [(.int .i64 n184), (.int .i64 n185), (.int .i64 n186), (.int .u64 n187), (.int .u64 n188), (.int .u64 n189), (.int .u64 n190)] ∧ nw (.cells #[(.int .i64 0), (.int .i64 0), (.int .i64 0), (.int .u64 0), (.int .u64 0), (.int .u64 0), (.int .u64 0)] 48 (0, 0)) H fun i191 H192 =>
 wr ⟨i191, 0, none⟩ [(.int .i64 n184), (.int .i64 n185), (.int .i64 n186), (.int .u64 n187), (.int .u64 n188), (.int .u64 n189), (.int .u64 n190)] H192 fun H193 =>
 zqt_59 nx35 Q E x0 l0 c0 x3 l3 c3 x21 (some ⟨i191, 0, none⟩) x19 l19 c19 x20 x21 H193

def zqt_63_M (nx35 : Int → HP) (τ : Tau) (H : Heap) : Prop := mSl (τ 0) fun x0 l0 c0 => mSl (τ 3) fun x3 l3 c3 => mSl (τ 19) fun x19 l19 c19 => mI .i64 (τ 20) fun x20 => mI .i64 (τ 21) fun x21 => zqt_63 nx35 Q E x0 l0 c0 x3 l3 c3 x19 l19 c19 x20 x21 H

theorem zqt_64ok (nx35 : Int → HP) : Ok Pr (zqt_63_M Q E nx35) (sA zqt_p13) (zqt_q31 Q E nx35) E := fun τ H h =>
  wSl 0 h (fun x0 l0 c0 h => wSl 3 h (fun x3 l3 c3 h => wSl 19 h (fun x19 l19 c19 h => wI 20 h (fun x20 h => wI 21 h (fun x21 h => (conv (by kernel_rfl) h))))))

theorem zqt_65ok (nx35 : Int → HP) : Ok Pr (zqt_63_M Q E nx35) zqt_p13 (zqt_q6 Q E nx35) E := fun τ H h =>
  (conv (by kernel_rfl) (vc_seq (K := (zqt_59_M Q E nx35)) (zqt_64ok Q E nx35 τ H h) (zqt_62ok Q E nx35)))

theorem zqt_66ok (nx35 : Int → HP) : Ok Pr (zqt_63_M Q E nx35) (sA (sB zqt_p9)) (xthen (zqt_3_M Q E nx35) (zqt_q4 Q E nx35)) E := fun τ H h =>
  (conv (by kernel_rfl) (zqt_65ok Q E nx35 τ H h))

theorem zqt_67ok (nx35 : Int → HP) : Ok Pr (zqt_63_M Q E nx35) (sB zqt_p9) (zqt_q4 Q E nx35) E := fun τ H h =>
  (conv (by kernel_rfl) (vc_seq (K := (zqt_3_M Q E nx35)) (zqt_66ok Q E nx35 τ H h) (zqt_4ok Q E nx35)))

noncomputable def zqt_q32 (nx35 : Int → HP) : XT := (xthen (zqt_63_M Q E nx35) (zqt_q4 Q E nx35))

def zqt_68 (nx35 : Int → HP) (Q : QT) (E : ET) (x0 : OA) (l0 c0 : Nat) (x3 : OA) (l3 c3 : Nat) (x19 : OA) (l19 c19 : Nat) (x20 x21 : Int) (x22 : Bool) (H : Heap) : Prop :=
 sel x22
 (zqt_63 nx35 Q E x0 l0 c0 x3 l3 c3 x19 l19 c19 x20 x21 H)
 (zqt_1 Q E x0 l0 c0 x3 l3 c3 H)

def zqt_68_M (nx35 : Int → HP) (τ : Tau) (H : Heap) : Prop := mSl (τ 0) fun x0 l0 c0 => mSl (τ 3) fun x3 l3 c3 => mSl (τ 19) fun x19 l19 c19 => mI .i64 (τ 20) fun x20 => mI .i64 (τ 21) fun x21 => mB (τ 22) fun x22 => zqt_68 nx35 Q E x0 l0 c0 x3 l3 c3 x19 l19 c19 x20 x21 x22 H

theorem zqt_69ok (nx35 : Int → HP) : Ok Pr (zqt_68_M Q E nx35) (sA zqt_p9) (zqt_q32 Q E nx35) E := fun τ H h =>
  wSl 0 h (fun x0 l0 c0 h => wSl 3 h (fun x3 l3 c3 h => wSl 19 h (fun x19 l19 c19 h => wI 20 h (fun x20 h => wI 21 h (fun x21 h => wB 22 h (fun x22 h => (conv (by kernel_rfl) h)))))))

theorem zqt_70ok (nx35 : Int → HP) : Ok Pr (zqt_68_M Q E nx35) zqt_p9 (zqt_q4 Q E nx35) E := fun τ H h =>
  (conv (by kernel_rfl) (vc_seq (K := (zqt_63_M Q E nx35)) (zqt_69ok Q E nx35 τ H h) (zqt_67ok Q E nx35)))

noncomputable def zqt_q33 (nx35 : Int → HP) : XT := (xthen (zqt_68_M Q E nx35) (zqt_q4 Q E nx35))

def zqt_71 (nx35 : Int → HP) (Q : QT) (E : ET) (x0 : OA) (l0 c0 : Nat) (x3 : OA) (l3 c3 : Nat) (x19 : OA) (l19 c19 : Nat) (x20 x21 : Int) (H : Heap) : Prop :=
 zqt_68 nx35 Q E x0 l0 c0 x3 l3 c3 x19 l19 c19 x20 x21 (decide (x21 < x20)) H

def zqt_71_M (nx35 : Int → HP) (τ : Tau) (H : Heap) : Prop := mSl (τ 0) fun x0 l0 c0 => mSl (τ 3) fun x3 l3 c3 => mSl (τ 19) fun x19 l19 c19 => mI .i64 (τ 20) fun x20 => mI .i64 (τ 21) fun x21 => zqt_71 nx35 Q E x0 l0 c0 x3 l3 c3 x19 l19 c19 x20 x21 H

theorem zqt_72ok (nx35 : Int → HP) : Ok Pr (zqt_71_M Q E nx35) (sA (sI zqt_p7)) (zqt_q33 Q E nx35) E := fun τ H h =>
  wSl 0 h (fun x0 l0 c0 h => wSl 3 h (fun x3 l3 c3 h => wSl 19 h (fun x19 l19 c19 h => wI 20 h (fun x20 h => wI 21 h (fun x21 h => (conv (by kernel_rfl) h))))))

theorem zqt_73ok (nx35 : Int → HP) : Ok Pr (zqt_71_M Q E nx35) (sI zqt_p7) (zqt_q4 Q E nx35) E := fun τ H h =>
  (conv (by kernel_rfl) (vc_seq (K := (zqt_68_M Q E nx35)) (zqt_72ok Q E nx35 τ H h) (zqt_70ok Q E nx35)))

def zqt_74 (Q : QT) (E : ET) (x0 : OA) (l0 c0 : Nat) (x3 : OA) (l3 c3 : Nat) (x19 : OA) (l19 c19 : Nat) (x20 x21 : Int) (H : Heap) : Prop :=
 ∃ (I : Int → HP) (μ : Int → Heap → Nat), I x21 H ∧ ∀ (x21 : Int) (H : Heap), I x21 H →
 zqt_71 (fun x21' H1 => I x21' H1 ∧ μ x21' H1 < μ x21 H) Q E x0 l0 c0 x3 l3 c3 x19 l19 c19 x20 x21 H

def zqt_74_M  (τ : Tau) (H : Heap) : Prop := mSl (τ 0) fun x0 l0 c0 => mSl (τ 3) fun x3 l3 c3 => mSl (τ 19) fun x19 l19 c19 => mI .i64 (τ 20) fun x20 => mI .i64 (τ 21) fun x21 => zqt_74 Q E x0 l0 c0 x3 l3 c3 x19 l19 c19 x20 x21 H

theorem zqt_75ok  : Ok Pr (zqt_74_M Q E) zqt_p7 (zqt_q3 Q E) E := fun τ H h =>
  wSl 0 h (fun x0 l0 c0 h => wSl 3 h (fun x3 l3 c3 h => wSl 19 h (fun x19 l19 c19 h => wI 20 h (fun x20 h => wI 21 h (fun x21 h => match h with | ⟨I, μ, h0, hr⟩ => (conv (by kernel_rfl) (vc_loopG (c := sI zqt_p7) (τ := (Tau.upd (Tau.upd (Tau.upd (Tau.upd (Tau.upd τ 0 (.slice x0 l0 c0)) 3 (.slice x3 l3 c3)) 19 (.slice x19 l19 c19)) 20 (.int .i64 x20)) 21 (.int .i64 x21))) [0, 3, 19, 20] (fun τ H => mI .i64 (τ 21) fun x21' => I x21' H) (fun τ H => μ (gI (τ 21)) H) (by kernel_rfl) h0 (fun τ1 H1 hf hI => uF 0 (.slice x0 l0 c0) (hf 0 (by simp)) (uF 3 (.slice x3 l3 c3) (hf 3 (by simp)) (uF 19 (.slice x19 l19 c19) (hf 19 (by simp)) (uF 20 (.int .i64 x20) (hf 20 (by simp)) (uI 21 hI (fun x21r h => lgx (zqt_73ok Q E (fun x21' H2 => I x21' H2 ∧ μ x21' H2 < μ x21r H1) (Tau.upd (Tau.upd (Tau.upd (Tau.upd (Tau.upd τ1 0 (.slice x0 l0 c0)) 3 (.slice x3 l3 c3)) 19 (.slice x19 l19 c19)) 20 (.int .i64 x20)) 21 (.int .i64 x21r)) H1 (conv (by kernel_rfl) (hr x21r H1 h))) (fun τ2 H2 hk => kI 21 hk (fun x21' h => conv (by kernel_rfl) h)))))))))))))))

theorem zqt_76ok  : Ok Pr (zqt_74_M Q E) (sB (sA zqt_p3)) (zqt_q2 Q E) E := fun τ H h =>
  (conv (by kernel_rfl) (zqt_75ok Q E τ H h))

noncomputable def zqt_q34  : XT := (xthen (zqt_74_M Q E) (zqt_q2 Q E))

def zqt_77 (Q : QT) (E : ET) (x0 : OA) (l0 c0 : Nat) (x3 : OA) (l3 c3 : Nat) (H : Heap) : Prop :=
 zqt_74 Q E x0 l0 c0 x3 l3 c3 x0 l0 c0 (l0 : Int) 0 H

def zqt_77_M  (τ : Tau) (H : Heap) : Prop := mSl (τ 0) fun x0 l0 c0 => mSl (τ 3) fun x3 l3 c3 => zqt_77 Q E x0 l0 c0 x3 l3 c3 H

theorem zqt_78ok  : Ok Pr (zqt_77_M Q E) (sA (sA zqt_p3)) (zqt_q34 Q E) E := fun τ H h =>
  wSl 0 h (fun x0 l0 c0 h => wSl 3 h (fun x3 l3 c3 h => (conv (by kernel_rfl) h)))

theorem zqt_79ok  : Ok Pr (zqt_77_M Q E) (sA zqt_p3) (zqt_q2 Q E) E := fun τ H h =>
  (conv (by kernel_rfl) (vc_seq (K := (zqt_74_M Q E)) (zqt_78ok Q E τ H h) (zqt_76ok Q E)))

theorem zqt_80ok  : Ok Pr (zqt_77_M Q E) zqt_p3 (zqt_q1 Q E) E := fun τ H h =>
  (conv (by kernel_rfl) (vc_seq (K := (zqt_1_M Q E)) (zqt_79ok Q E τ H h) (zqt_2ok Q E)))

def zqt_81 (Q : QT) (E : ET) (x0 : OA) (l0 c0 : Nat) (H : Heap) : Prop :=
 (0 ≤ ((l0 : Int) : Int) ∧ ((l0 : Int) : Int) ≤ (l0 : Int) ∧ ((l0 : Int) : Int) ≤ 281474976710656 ∧ ((8 : Nat) : Int) * (l0 : Int) ≤ 281474976710656) ∧ nw (.cells (rep ((l0 : Int) : Int).toNat [(.int .i64 0)]).toArray 3 (0, 0)) H fun i194 H195 =>
 zqt_77 Q E x0 l0 c0 (some ⟨i194, 0, none⟩) (((l0 : Int) : Int).toNat) (((l0 : Int) : Int).toNat) H195

def zqt_81_M  (τ : Tau) (H : Heap) : Prop := mSl (τ 0) fun x0 l0 c0 => zqt_81 Q E x0 l0 c0 H

theorem zqt_82ok  : Ok Pr (zqt_81_M Q E) (sA (sB zqt_p1)) (xthen (zqt_77_M Q E) (zqt_q1 Q E)) E := fun τ H h =>
  wSl 0 h (fun x0 l0 c0 h => (conv (by kernel_rfl) h))

theorem zqt_83ok  : Ok Pr (zqt_81_M Q E) (sB zqt_p1) (zqt_q1 Q E) E := fun τ H h =>
  (conv (by kernel_rfl) (vc_seq (K := (zqt_77_M Q E)) (zqt_82ok Q E τ H h) (zqt_80ok Q E)))

noncomputable def zqt_q36  : XT := (xthen (zqt_81_M Q E) (zqt_q1 Q E))

def zqt_84 (Q : QT) (E : ET) (x0 : OA) (l0 c0 : Nat) (x15 : Bool) (H : Heap) : Prop :=
 sel x15
 (Q (.bool false) H)
 (zqt_81 Q E x0 l0 c0 H)

def zqt_84_M  (τ : Tau) (H : Heap) : Prop := mSl (τ 0) fun x0 l0 c0 => mB (τ 15) fun x15 => zqt_84 Q E x0 l0 c0 x15 H

theorem zqt_85ok  : Ok Pr (zqt_84_M Q E) (sB (sA zqt_p1)) (zqt_q36 Q E) E := fun τ H h =>
  wSl 0 h (fun x0 l0 c0 h => wB 15 h (fun x15 h => (conv (by kernel_rfl) h)))

def zqt_86 (Q : QT) (E : ET) (x0 : OA) (l0 c0 : Nat) (H : Heap) : Prop :=
 sel (((l0 : Int) : Int) == 0)
 (zqt_84 Q E x0 l0 c0 true H)
 (zqt_84 Q E x0 l0 c0 (decide (((l0 : Int) : Int) > 256)) H)

def zqt_86_M  (τ : Tau) (H : Heap) : Prop := mSl (τ 0) fun x0 l0 c0 => zqt_86 Q E x0 l0 c0 H

theorem zqt_87ok  : Ok Pr (zqt_86_M Q E) (sA (sA zqt_p1)) (xthen (zqt_84_M Q E) (zqt_q36 Q E)) E := fun τ H h =>
  wSl 0 h (fun x0 l0 c0 h => (conv (by kernel_rfl) h))

theorem zqt_88ok  : Ok Pr (zqt_86_M Q E) (sA zqt_p1) (zqt_q36 Q E) E := fun τ H h =>
  (conv (by kernel_rfl) (vc_seq (K := (zqt_84_M Q E)) (zqt_87ok Q E τ H h) (zqt_85ok Q E)))

theorem zqt_89ok  : Ok Pr (zqt_86_M Q E) zqt_p1 (zqt_q1 Q E) E := fun τ H h =>
  (conv (by kernel_rfl) (vc_seq (K := (zqt_81_M Q E)) (zqt_88ok Q E τ H h) (zqt_83ok Q E)))

def zqt (Q : QT) (E : ET) (a0 : OA) (a0l : Nat) (a0c : Nat) (H : Heap) : Prop :=
 zqt_86 Q E a0 a0l a0c H

theorem zqt_fn (a0 : OA) (a0l : Nat) (a0c : Nat) (Q : QT) (E : ET) (H : Heap) (h : zqt Q E a0 a0l a0c H)   : Does Pr 40 #[(.slice a0 a0l a0c)] H Q E :=
  Fn_of_vc (fn := Try.f40) (c := (bodyOf Try.f40)) (args := [(.slice a0 a0l a0c)]) mixed (by kernel_rfl) (by kernel_rfl) (by kernel_rfl) (by kernel_rfl) (by kernel_rfl) ((conv (B := vc Pr (bodyOf Try.f40) (argT [(.slice a0 a0l a0c)]) (zqt_q1 Q E) E H) (by kernel_rfl) (vc_seq (K := (zqt_86_M Q E)) (conv (B := vc Pr (sA (bodyOf Try.f40)) (argT [(.slice a0 a0l a0c)]) (xthen (zqt_86_M Q E) (zqt_q1 Q E)) E H) (by kernel_rfl) h) (zqt_89ok Q E))))

/-! jobmux/regex.Kids -/
noncomputable def zqu_q1 (Q : QT) (E : ET)  : XT := (retQ Pr (Try.f74).results.toList Q)

def zqu_1 (Q : QT) (E : ET)  (H : Heap) : Prop :=
 Q (.int .i64 (-1)) H

def zqu_1_M  (τ : Tau) (H : Heap) : Prop := zqu_1 Q E  H

theorem zqu_2ok  : Ok Pr (zqu_1_M Q E) (sB (sB (bodyOf Try.f74))) (zqu_q1 Q E) E := fun τ H h =>
  (conv (by kernel_rfl) h)

noncomputable def zqu_q2  : XT := (xthen (zqu_1_M Q E) (zqu_q1 Q E))

noncomputable def zqu_p3 : Code := sA (sB (bodyOf Try.f74))

noncomputable def zqu_q3  : XT := (xblock 0 (zqu_q2 Q E))

def zqu_3 (Q : QT) (E : ET)  (H : Heap) : Prop :=
 Q (.int .i64 0) H

def zqu_3_M  (τ : Tau) (H : Heap) : Prop := zqu_3 Q E  H

theorem zqu_4ok  : Ok Pr (zqu_3_M Q E) (sT (sB (sI (sB zqu_p3)))) (zqu_q3 Q E) E := fun τ H h =>
  (conv (by kernel_rfl) h)

noncomputable def zqu_p8 : Code := sE (sB (sI (sB zqu_p3)))

def zqu_5 (Q : QT) (E : ET)  (H : Heap) : Prop :=
 Q (.int .i64 1) H

def zqu_5_M  (τ : Tau) (H : Heap) : Prop := zqu_5 Q E  H

theorem zqu_6ok  : Ok Pr (zqu_5_M Q E) (sT (sB zqu_p8)) (zqu_q3 Q E) E := fun τ H h =>
  (conv (by kernel_rfl) h)

def zqu_7 (Q : QT) (E : ET) (x13 : Bool) (H : Heap) : Prop :=
 sel x13
 (Q (.int .i64 2) H)
 (zqu_1 Q E  H)

def zqu_7_M  (τ : Tau) (H : Heap) : Prop := mB (τ 13) fun x13 => zqu_7 Q E x13 H

theorem zqu_8ok  : Ok Pr (zqu_7_M Q E) (sB (sE (sB zqu_p8))) (zqu_q3 Q E) E := fun τ H h =>
  wB 13 h (fun x13 h => (conv (by kernel_rfl) h))

def zqu_9 (Q : QT) (E : ET) (x3 : Int) (H : Heap) : Prop :=
 sel (x3 == 3)
 (zqu_7 Q E (x3 == 3) H)
 (zqu_7 Q E (x3 == 4) H)

def zqu_9_M  (τ : Tau) (H : Heap) : Prop := mI .i64 (τ 3) fun x3 => zqu_9 Q E x3 H

theorem zqu_10ok  : Ok Pr (zqu_9_M Q E) (sA (sE (sB zqu_p8))) (xthen (zqu_7_M Q E) (zqu_q3 Q E)) E := fun τ H h =>
  wI 3 h (fun x3 h => (conv (by kernel_rfl) h))

theorem zqu_11ok  : Ok Pr (zqu_9_M Q E) (sE (sB zqu_p8)) (zqu_q3 Q E) E := fun τ H h =>
  (conv (by kernel_rfl) (vc_seq (K := (zqu_7_M Q E)) (zqu_10ok Q E τ H h) (zqu_8ok Q E)))

def zqu_12 (Q : QT) (E : ET) (x3 : Int) (x9 : Bool) (H : Heap) : Prop :=
 sel x9
 (zqu_5 Q E  H)
 (zqu_9 Q E x3 H)

def zqu_12_M  (τ : Tau) (H : Heap) : Prop := mI .i64 (τ 3) fun x3 => mB (τ 9) fun x9 => zqu_12 Q E x3 x9 H

theorem zqu_13ok  : Ok Pr (zqu_12_M Q E) (sB zqu_p8) (zqu_q3 Q E) E := fun τ H h =>
  wI 3 h (fun x3 h => wB 9 h (fun x9 h => (conv (by kernel_rfl) (sel_mapT (b := x9) (τ := (Tau.upd (Tau.upd τ 3 (.int .i64 x3)) 9 (.bool x9))) (H := H) (zqu_6ok Q E) (zqu_11ok Q E) (conv (by kernel_rfl) h)))))

def zqu_14 (Q : QT) (E : ET) (x3 : Int) (H : Heap) : Prop :=
 sel (x3 == 5)
 (zqu_12 Q E x3 (x3 == 5) H)
 (sel (x3 == 6)
 (zqu_12 Q E x3 (x3 == 6) H)
 (zqu_12 Q E x3 (x3 == 7) H))

def zqu_14_M  (τ : Tau) (H : Heap) : Prop := mI .i64 (τ 3) fun x3 => zqu_14 Q E x3 H

theorem zqu_15ok  : Ok Pr (zqu_14_M Q E) (sA zqu_p8) (xthen (zqu_12_M Q E) (zqu_q3 Q E)) E := fun τ H h =>
  wI 3 h (fun x3 h => (conv (by kernel_rfl) h))

theorem zqu_16ok  : Ok Pr (zqu_14_M Q E) zqu_p8 (zqu_q3 Q E) E := fun τ H h =>
  (conv (by kernel_rfl) (vc_seq (K := (zqu_12_M Q E)) (zqu_15ok Q E τ H h) (zqu_13ok Q E)))

def zqu_17 (Q : QT) (E : ET) (x3 : Int) (x4 : Bool) (H : Heap) : Prop :=
 sel x4
 (zqu_3 Q E  H)
 (zqu_14 Q E x3 H)

def zqu_17_M  (τ : Tau) (H : Heap) : Prop := mI .i64 (τ 3) fun x3 => mB (τ 4) fun x4 => zqu_17 Q E x3 x4 H

theorem zqu_18ok  : Ok Pr (zqu_17_M Q E) (sB (sI (sB zqu_p3))) (zqu_q3 Q E) E := fun τ H h =>
  wI 3 h (fun x3 h => wB 4 h (fun x4 h => (conv (by kernel_rfl) (sel_mapT (b := x4) (τ := (Tau.upd (Tau.upd τ 3 (.int .i64 x3)) 4 (.bool x4))) (H := H) (zqu_4ok Q E) (zqu_16ok Q E) (conv (by kernel_rfl) h)))))

def zqu_19 (Q : QT) (E : ET) (x3 : Int) (H : Heap) : Prop :=
 sel (x3 == 1)
 (zqu_17 Q E x3 (x3 == 1) H)
 (sel (x3 == 2)
 (zqu_17 Q E x3 (x3 == 2) H)
 (sel (x3 == 8)
 (zqu_17 Q E x3 (x3 == 8) H)
 (zqu_17 Q E x3 (x3 == 9) H)))

def zqu_19_M  (τ : Tau) (H : Heap) : Prop := mI .i64 (τ 3) fun x3 => zqu_19 Q E x3 H

theorem zqu_20ok  : Ok Pr (zqu_19_M Q E) (sA (sI (sB zqu_p3))) (xthen (zqu_17_M Q E) (zqu_q3 Q E)) E := fun τ H h =>
  wI 3 h (fun x3 h => (conv (by kernel_rfl) h))

theorem zqu_21ok  : Ok Pr (zqu_19_M Q E) (sI (sB zqu_p3)) (zqu_q3 Q E) E := fun τ H h =>
  (conv (by kernel_rfl) (vc_seq (K := (zqu_17_M Q E)) (zqu_20ok Q E τ H h) (zqu_18ok Q E)))

theorem zqu_22ok  : Ok Pr (zqu_19_M Q E) (sB zqu_p3) (zqu_q2 Q E) E := fun τ H h =>
  (conv (by kernel_rfl) (zqu_21ok Q E τ H h))

def zqu_23 (Q : QT) (E : ET) (x0 : Int) (H : Heap) : Prop :=
 zqu_19 Q E x0 H

def zqu_23_M  (τ : Tau) (H : Heap) : Prop := mI .i64 (τ 0) fun x0 => zqu_23 Q E x0 H

theorem zqu_24ok  : Ok Pr (zqu_23_M Q E) (sA zqu_p3) (xthen (zqu_19_M Q E) (zqu_q2 Q E)) E := fun τ H h =>
  wI 0 h (fun x0 h => (conv (by kernel_rfl) h))

theorem zqu_25ok  : Ok Pr (zqu_23_M Q E) zqu_p3 (zqu_q2 Q E) E := fun τ H h =>
  (conv (by kernel_rfl) (vc_seq (K := (zqu_19_M Q E)) (zqu_24ok Q E τ H h) (zqu_22ok Q E)))

theorem zqu_26ok  : Ok Pr (zqu_23_M Q E) (sB (bodyOf Try.f74)) (zqu_q1 Q E) E := fun τ H h =>
  (conv (by kernel_rfl) (vc_seq (K := (zqu_1_M Q E)) (zqu_25ok Q E τ H h) (zqu_2ok Q E)))

def zqu (Q : QT) (E : ET) (a0 : Int) (H : Heap) : Prop :=
 zqu_23 Q E a0 H

theorem zqu_fn (a0 : Int) (Q : QT) (E : ET) (H : Heap) (h : zqu Q E a0 H)   : Does Pr 74 #[(.int .i64 a0)] H Q E :=
  Fn_of_vc (fn := Try.f74) (c := (bodyOf Try.f74)) (args := [(.int .i64 a0)]) mixed (by kernel_rfl) (by kernel_rfl) (by kernel_rfl) (by kernel_rfl) (by kernel_rfl) ((conv (B := vc Pr (bodyOf Try.f74) (argT [(.int .i64 a0)]) (zqu_q1 Q E) E H) (by kernel_rfl) (vc_seq (K := (zqu_23_M Q E)) (conv (B := vc Pr (sA (bodyOf Try.f74)) (argT [(.int .i64 a0)]) (xthen (zqu_23_M Q E) (zqu_q1 Q E)) E H) (by kernel_rfl) h) (zqu_26ok Q E))))

end Go.Proofs.Ytaffcoiomggpfaa
