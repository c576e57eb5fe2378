import Derived.Test.YtaffcoiomggpfaaVPr
/- Printed by gen.py: the Go functions of package regex over a heap view, and that the model does so. -/
namespace Go.Proofs.Ytaffcoiomggpfaa
open Go.V
set_option linter.unusedVariables false
set_option maxRecDepth 100000
variable (Q : QT) (E : ET)
/-! jobmux/regex.Valid -/
noncomputable def zqd1_q1 (Q : QT) (E : ET) : XT := (retQ Pr (Try.f40).results.toList Q)

noncomputable def zqd1_p1 : Code := sB (bodyOf Try.f40)

noncomputable def zqd1_p3 : Code := sB (sB zqd1_p1)

def zqd1_1 (Q : QT) (E : ET) (x0 : OA) (l0 c0 : Nat) (x3 : OA) (l3 c3 : Nat) (H : Heap) : Prop :=
 (0 ≤ ((IntKind.wrap .i64 ((l0 : Int) - 1)) : Int) ∧ ((IntKind.wrap .i64 ((l0 : Int) - 1)) : Int) < (l3 : Int)) ∧ ptr x3 fun q33 =>
 ldI .i64 (Addr.add q33 (((IntKind.wrap .i64 ((l0 : Int) - 1)) : Int).toNat * 1)) H fun n34 =>
 Q (.bool (n34 == (l0 : Int))) H

def zqd1_1_M  (τ : Tau) (H : Heap) : Prop := mSl (τ 0) fun x0 l0 c0 => mSl (τ 3) fun x3 l3 c3 => zqd1_1 Q E x0 l0 c0 x3 l3 c3 H

theorem zqd1_2ok  : Ok Pr (zqd1_1_M Q E) (sB zqd1_p3) (zqd1_q1 Q E) E := fun τ H h =>
  wSl 0 h (fun x0 l0 c0 h => wSl 3 h (fun x3 l3 c3 h => (conv (by kernel_rfl) h)))

noncomputable def zqd1_q2  : XT := (xthen (zqd1_1_M Q E) (zqd1_q1 Q E))

noncomputable def zqd1_q3  : XT := (xblock 0 (zqd1_q2 Q E))

noncomputable def zqd1_p7 : Code := sI (sB (sA zqd1_p3))

noncomputable def zqd1_q4 (nx35 : Int → HP) : XT := (xthen (fun τ H => mI .i64 (τ 21) fun x21' => nx35 x21' H) (zqd1_q3 Q E))

noncomputable def zqd1_p9 : Code := sB (sI zqd1_p7)

def zqd1_3 (nx35 : Int → HP) (Q : QT) (E : ET) (x0 : OA) (l0 c0 : Nat) (x3 : OA) (l3 c3 : Nat) (x19 : OA) (l19 c19 : Nat) (x20 x21 : Int) (H : Heap) : Prop :=
 nx35 (IntKind.wrap .i64 (x21 + 1)) H

def zqd1_3_M (nx35 : Int → HP) (τ : Tau) (H : Heap) : Prop := mSl (τ 0) fun x0 l0 c0 => mSl (τ 3) fun x3 l3 c3 => mSl (τ 19) fun x19 l19 c19 => mI .i64 (τ 20) fun x20 => mI .i64 (τ 21) fun x21 => zqd1_3 nx35 Q E x0 l0 c0 x3 l3 c3 x19 l19 c19 x20 x21 H

theorem zqd1_4ok (nx35 : Int → HP) : Ok Pr (zqd1_3_M Q E nx35) (sB (sB zqd1_p9)) (zqd1_q4 Q E nx35) E := fun τ H h =>
  wSl 0 h (fun x0 l0 c0 h => wSl 3 h (fun x3 l3 c3 h => wSl 19 h (fun x19 l19 c19 h => wI 20 h (fun x20 h => wI 21 h (fun x21 h => (conv (by kernel_rfl) h))))))

noncomputable def zqd1_q6 (nx35 : Int → HP) : XT := (xblock 1 (xthen (zqd1_3_M Q E nx35) (zqd1_q4 Q E nx35)))

noncomputable def zqd1_p13 : Code := sI (sA (sB zqd1_p9))

noncomputable def zqd1_p16 : Code := sB (sB (sB zqd1_p13))

noncomputable def zqd1_p18 : Code := sB (sB zqd1_p16)

def zqd1_5 (nx35 : Int → HP) (Q : QT) (E : ET) (x0 : OA) (l0 c0 : Nat) (x3 : OA) (l3 c3 : Nat) (x19 : OA) (l19 c19 : Nat) (x20 x21 : Int) (x88 : Bool) (H : Heap) : Prop :=
 sel x88
 (Q (.bool false) H)
 (zqd1_3 nx35 Q E x0 l0 c0 x3 l3 c3 x19 l19 c19 x20 x21 H)

def zqd1_5_M (nx35 : Int → HP) (τ : Tau) (H : Heap) : Prop := mSl (τ 0) fun x0 l0 c0 => mSl (τ 3) fun x3 l3 c3 => mSl (τ 19) fun x19 l19 c19 => mI .i64 (τ 20) fun x20 => mI .i64 (τ 21) fun x21 => mB (τ 88) fun x88 => zqd1_5 nx35 Q E x0 l0 c0 x3 l3 c3 x19 l19 c19 x20 x21 x88 H

theorem zqd1_6ok (nx35 : Int → HP) : Ok Pr (zqd1_5_M Q E nx35) (sB zqd1_p18) (zqd1_q6 Q E nx35) E := fun τ H h =>
  wSl 0 h (fun x0 l0 c0 h => wSl 3 h (fun x3 l3 c3 h => wSl 19 h (fun x19 l19 c19 h => wI 20 h (fun x20 h => wI 21 h (fun x21 h => wB 88 h (fun x88 h => (conv (by kernel_rfl) h)))))))

noncomputable def zqd1_q7 (nx35 : Int → HP) : XT := (xthen (zqd1_5_M Q E nx35) (zqd1_q6 Q E nx35))

def zqd1_7 (nx35 : Int → HP) (Q : QT) (E : ET) (x0 : OA) (l0 c0 : Nat) (x3 : OA) (l3 c3 : Nat) (x5 : OA) (x6 x7 : Int) (x19 : OA) (l19 c19 : Nat) (x20 x21 : Int) (H : Heap) : Prop :=
 ptr x5 fun q112 =>
 ldI .i64 (Addr.add q112 1) H fun n113 =>
 sel (n113 != x6)
 (zqd1_5 nx35 Q E x0 l0 c0 x3 l3 c3 x19 l19 c19 x20 x21 true H)
 (ptr x5 fun q114 =>
 ldI .i64 (Addr.add q114 2) H fun n115 =>
 zqd1_5 nx35 Q E x0 l0 c0 x3 l3 c3 x19 l19 c19 x20 x21 (n115 != x7) H)

def zqd1_7_M (nx35 : Int → HP) (τ : Tau) (H : Heap) : Prop := mSl (τ 0) fun x0 l0 c0 => mSl (τ 3) fun x3 l3 c3 => mP (τ 5) fun x5 => mI .i64 (τ 6) fun x6 => mI .i64 (τ 7) fun x7 => mSl (τ 19) fun x19 l19 c19 => mI .i64 (τ 20) fun x20 => mI .i64 (τ 21) fun x21 => zqd1_7 nx35 Q E x0 l0 c0 x3 l3 c3 x5 x6 x7 x19 l19 c19 x20 x21 H

theorem zqd1_8ok (nx35 : Int → HP) : Ok Pr (zqd1_7_M Q E nx35) (sA zqd1_p18) (zqd1_q7 Q E nx35) E := fun τ H h =>
  wSl 0 h (fun x0 l0 c0 h => wSl 3 h (fun x3 l3 c3 h => wP 5 h (fun x5 h => wI 6 h (fun x6 h => wI 7 h (fun x7 h => wSl 19 h (fun x19 l19 c19 h => wI 20 h (fun x20 h => wI 21 h (fun x21 h => (conv (by kernel_rfl) h)))))))))

theorem zqd1_9ok (nx35 : Int → HP) : Ok Pr (zqd1_7_M Q E nx35) zqd1_p18 (zqd1_q6 Q E nx35) E := fun τ H h =>
  (conv (by kernel_rfl) (vc_seq (K := (zqd1_5_M Q E nx35)) (zqd1_8ok Q E nx35 τ H h) (zqd1_6ok Q E nx35)))

noncomputable def zqd1_q8 (nx35 : Int → HP) : XT := (xthen (zqd1_7_M Q E nx35) (zqd1_q6 Q E nx35))

noncomputable def zqd1_p21 : Code := sA (sB zqd1_p16)

def zqd1_10 (nx35 : Int → HP) (Q : QT) (E : ET)  (H : Heap) : Prop :=
 Q (.bool false) H

def zqd1_10_M (nx35 : Int → HP) (τ : Tau) (H : Heap) : Prop := zqd1_10 nx35 Q E  H

theorem zqd1_11ok (nx35 : Int → HP) : Ok Pr (zqd1_10_M Q E nx35) (sB (sI (sB zqd1_p21))) (xblock 2 (zqd1_q8 Q E nx35)) E := fun τ H h =>
  (conv (by kernel_rfl) h)

noncomputable def zqd1_q10 (nx35 : Int → HP) : XT := (xthen (zqd1_10_M Q E nx35) (xblock 2 (zqd1_q8 Q E nx35)))

noncomputable def zqd1_p27 : Code := sB (sI (sA (sI (sB zqd1_p21))))

noncomputable def zqd1_q12 (nx35 : Int → HP) : XT := (xthen (fun τ H => vc Pr (sB zqd1_p27) τ (xblock 6 (zqd1_q10 Q E nx35)) E H) (xblock 6 (zqd1_q10 Q E nx35)))

noncomputable def zqd1_p29 : Code := sB (sA zqd1_p27)

def zqd1_12 (nx35 : Int → HP) (Q : QT) (E : ET) (x0 : OA) (l0 c0 : Nat) (x3 : OA) (l3 c3 : Nat) (x4 : Int) (x5 : OA) (x6 x7 : Int) (x19 : OA) (l19 c19 : Nat) (x20 x21 : Int) (H : Heap) : Prop :=
 (0 ≤ x4 ∧ x4 < (l3 : Int)) ∧ ptr x3 fun q150 =>
 ldI .i64 (Addr.add q150 (x4.toNat * 1)) H fun n151 =>
 (0 ≤ x6 ∧ x6 < (l3 : Int)) ∧ ptr x3 fun q152 =>
 ldI .i64 (Addr.add q152 (x6.toNat * 1)) H fun n153 =>
 (0 ≤ x4 ∧ x4 < (l3 : Int)) ∧ ptr x3 fun q154 =>
 wr (Addr.add q154 (x4.toNat * 1)) [(.int .i64 (IntKind.wrap .i64 (n151 + n153)))] H fun H155 =>
 zqd1_7 nx35 Q E x0 l0 c0 x3 l3 c3 x5 x6 x7 x19 l19 c19 x20 x21 H155

def zqd1_12_M (nx35 : Int → HP) (τ : Tau) (H : Heap) : Prop := mSl (τ 0) fun x0 l0 c0 => mSl (τ 3) fun x3 l3 c3 => mI .i64 (τ 4) fun x4 => mP (τ 5) fun x5 => mI .i64 (τ 6) fun x6 => mI .i64 (τ 7) fun x7 => mSl (τ 19) fun x19 l19 c19 => mI .i64 (τ 20) fun x20 => mI .i64 (τ 21) fun x21 => zqd1_12 nx35 Q E x0 l0 c0 x3 l3 c3 x4 x5 x6 x7 x19 l19 c19 x20 x21 H

theorem zqd1_13ok (nx35 : Int → HP) : Ok Pr (zqd1_12_M Q E nx35) (sB zqd1_p29) (zqd1_q12 Q E nx35) E := fun τ H h =>
  wSl 0 h (fun x0 l0 c0 h => wSl 3 h (fun x3 l3 c3 h => wI 4 h (fun x4 h => wP 5 h (fun x5 h => wI 6 h (fun x6 h => wI 7 h (fun x7 h => wSl 19 h (fun x19 l19 c19 h => wI 20 h (fun x20 h => wI 21 h (fun x21 h => (conv (by kernel_rfl) h))))))))))

noncomputable def zqd1_q13 (nx35 : Int → HP) : XT := (xthen (zqd1_12_M Q E nx35) (zqd1_q12 Q E nx35))

def zqd1_14 (nx35 : Int → HP) (Q : QT) (E : ET) (x0 : OA) (l0 c0 : Nat) (x3 : OA) (l3 c3 : Nat) (x4 : Int) (x5 : OA) (x6 x7 : Int) (x19 : OA) (l19 c19 : Nat) (x20 x21 : Int) (H : Heap) : Prop :=
 sel (decide (x6 < 0))
 (Q (.bool false) H)
 (zqd1_12 nx35 Q E x0 l0 c0 x3 l3 c3 x4 x5 x6 x7 x19 l19 c19 x20 x21 H)

def zqd1_14_M (nx35 : Int → HP) (τ : Tau) (H : Heap) : Prop := mSl (τ 0) fun x0 l0 c0 => mSl (τ 3) fun x3 l3 c3 => mI .i64 (τ 4) fun x4 => mP (τ 5) fun x5 => mI .i64 (τ 6) fun x6 => mI .i64 (τ 7) fun x7 => mSl (τ 19) fun x19 l19 c19 => mI .i64 (τ 20) fun x20 => mI .i64 (τ 21) fun x21 => zqd1_14 nx35 Q E x0 l0 c0 x3 l3 c3 x4 x5 x6 x7 x19 l19 c19 x20 x21 H

theorem zqd1_15ok (nx35 : Int → HP) : Ok Pr (zqd1_14_M Q E nx35) (sA zqd1_p29) (zqd1_q13 Q E nx35) E := fun τ H h =>
  wSl 0 h (fun x0 l0 c0 h => wSl 3 h (fun x3 l3 c3 h => wI 4 h (fun x4 h => wP 5 h (fun x5 h => wI 6 h (fun x6 h => wI 7 h (fun x7 h => wSl 19 h (fun x19 l19 c19 h => wI 20 h (fun x20 h => wI 21 h (fun x21 h => (conv (by kernel_rfl) h))))))))))

theorem zqd1_16ok (nx35 : Int → HP) : Ok Pr (zqd1_14_M Q E nx35) zqd1_p29 (zqd1_q12 Q E nx35) E := fun τ H h =>
  (conv (by kernel_rfl) (vc_seq (K := (zqd1_12_M Q E nx35)) (zqd1_15ok Q E nx35 τ H h) (zqd1_13ok Q E nx35)))

noncomputable def zqd1_q14 (nx35 : Int → HP) : XT := (xthen (zqd1_14_M Q E nx35) (zqd1_q12 Q E nx35))

def zqd1_17 (nx35 : Int → HP) (Q : QT) (E : ET) (x0 : OA) (l0 c0 : Nat) (x3 : OA) (l3 c3 : Nat) (x4 : Int) (x5 : OA) (x7 : Int) (x19 : OA) (l19 c19 : Nat) (x20 x21 : Int) (H : Heap) : Prop :=
 (0 ≤ x4 ∧ x4 < (l3 : Int)) ∧ ptr x3 fun q156 =>
 ldI .i64 (Addr.add q156 (x4.toNat * 1)) H fun n157 =>
 zqd1_14 nx35 Q E x0 l0 c0 x3 l3 c3 x4 x5 (IntKind.wrap .i64 (x4 - n157)) x7 x19 l19 c19 x20 x21 H

def zqd1_17_M (nx35 : Int → HP) (τ : Tau) (H : Heap) : Prop := mSl (τ 0) fun x0 l0 c0 => mSl (τ 3) fun x3 l3 c3 => mI .i64 (τ 4) fun x4 => mP (τ 5) fun x5 => mI .i64 (τ 7) fun x7 => mSl (τ 19) fun x19 l19 c19 => mI .i64 (τ 20) fun x20 => mI .i64 (τ 21) fun x21 => zqd1_17 nx35 Q E x0 l0 c0 x3 l3 c3 x4 x5 x7 x19 l19 c19 x20 x21 H

theorem zqd1_18ok (nx35 : Int → HP) : Ok Pr (zqd1_17_M Q E nx35) (sA (sA zqd1_p27)) (zqd1_q14 Q E nx35) E := fun τ H h =>
  wSl 0 h (fun x0 l0 c0 h => wSl 3 h (fun x3 l3 c3 h => wI 4 h (fun x4 h => wP 5 h (fun x5 h => wI 7 h (fun x7 h => wSl 19 h (fun x19 l19 c19 h => wI 20 h (fun x20 h => wI 21 h (fun x21 h => (conv (by kernel_rfl) h)))))))))

theorem zqd1_19ok (nx35 : Int → HP) : Ok Pr (zqd1_17_M Q E nx35) (sA zqd1_p27) (zqd1_q12 Q E nx35) E := fun τ H h =>
  (conv (by kernel_rfl) (vc_seq (K := (zqd1_14_M Q E nx35)) (zqd1_18ok Q E nx35 τ H h) (zqd1_16ok Q E nx35)))

theorem zqd1_20ok (nx35 : Int → HP) : Ok Pr (zqd1_17_M Q E nx35) zqd1_p27 (xblock 6 (zqd1_q10 Q E nx35)) E := fun τ H h =>
  (conv (by kernel_rfl) (zqd1_19ok Q E nx35 τ H h))

noncomputable def zqd1_q16 (nx35 : Int → HP) : XT := (xblock 5 (xthen (zqd1_17_M Q E nx35) (xblock 6 (zqd1_q10 Q E nx35))))

noncomputable def zqd1_p34 : Code := sI (sA (sI (sA (sI (sB zqd1_p21)))))

noncomputable def zqd1_p36 : Code := sB (sB zqd1_p34)

def zqd1_21 (nx35 : Int → HP) (Q : QT) (E : ET) (x0 : OA) (l0 c0 : Nat) (x3 : OA) (l3 c3 : Nat) (x4 : Int) (x5 : OA) (x7 : Int) (x19 : OA) (l19 c19 : Nat) (x20 x21 : Int) (H : Heap) : Prop :=
 (0 ≤ x4 ∧ x4 < (l3 : Int)) ∧ ptr x3 fun q158 =>
 ldI .i64 (Addr.add q158 (x4.toNat * 1)) H fun n159 =>
 (0 ≤ x7 ∧ x7 < (l3 : Int)) ∧ ptr x3 fun q160 =>
 ldI .i64 (Addr.add q160 (x7.toNat * 1)) H fun n161 =>
 (0 ≤ x4 ∧ x4 < (l3 : Int)) ∧ ptr x3 fun q162 =>
 wr (Addr.add q162 (x4.toNat * 1)) [(.int .i64 (IntKind.wrap .i64 (n159 + n161)))] H fun H163 =>
 zqd1_17 nx35 Q E x0 l0 c0 x3 l3 c3 x4 x5 x7 x19 l19 c19 x20 x21 H163

def zqd1_21_M (nx35 : Int → HP) (τ : Tau) (H : Heap) : Prop := mSl (τ 0) fun x0 l0 c0 => mSl (τ 3) fun x3 l3 c3 => mI .i64 (τ 4) fun x4 => mP (τ 5) fun x5 => mI .i64 (τ 7) fun x7 => mSl (τ 19) fun x19 l19 c19 => mI .i64 (τ 20) fun x20 => mI .i64 (τ 21) fun x21 => zqd1_21 nx35 Q E x0 l0 c0 x3 l3 c3 x4 x5 x7 x19 l19 c19 x20 x21 H

theorem zqd1_22ok (nx35 : Int → HP) : Ok Pr (zqd1_21_M Q E nx35) (sB zqd1_p36) (zqd1_q16 Q E nx35) E := fun τ H h =>
  wSl 0 h (fun x0 l0 c0 h => wSl 3 h (fun x3 l3 c3 h => wI 4 h (fun x4 h => wP 5 h (fun x5 h => wI 7 h (fun x7 h => wSl 19 h (fun x19 l19 c19 h => wI 20 h (fun x20 h => wI 21 h (fun x21 h => (conv (by kernel_rfl) h)))))))))

noncomputable def zqd1_q17 (nx35 : Int → HP) : XT := (xthen (zqd1_21_M Q E nx35) (zqd1_q16 Q E nx35))

def zqd1_23 (nx35 : Int → HP) (Q : QT) (E : ET) (x0 : OA) (l0 c0 : Nat) (x3 : OA) (l3 c3 : Nat) (x4 : Int) (x5 : OA) (x7 : Int) (x19 : OA) (l19 c19 : Nat) (x20 x21 : Int) (H : Heap) : Prop :=
 sel (decide (x7 < 0))
 (Q (.bool false) H)
 (zqd1_21 nx35 Q E x0 l0 c0 x3 l3 c3 x4 x5 x7 x19 l19 c19 x20 x21 H)

def zqd1_23_M (nx35 : Int → HP) (τ : Tau) (H : Heap) : Prop := mSl (τ 0) fun x0 l0 c0 => mSl (τ 3) fun x3 l3 c3 => mI .i64 (τ 4) fun x4 => mP (τ 5) fun x5 => mI .i64 (τ 7) fun x7 => mSl (τ 19) fun x19 l19 c19 => mI .i64 (τ 20) fun x20 => mI .i64 (τ 21) fun x21 => zqd1_23 nx35 Q E x0 l0 c0 x3 l3 c3 x4 x5 x7 x19 l19 c19 x20 x21 H

theorem zqd1_24ok (nx35 : Int → HP) : Ok Pr (zqd1_23_M Q E nx35) (sA zqd1_p36) (zqd1_q17 Q E nx35) E := fun τ H h =>
  wSl 0 h (fun x0 l0 c0 h => wSl 3 h (fun x3 l3 c3 h => wI 4 h (fun x4 h => wP 5 h (fun x5 h => wI 7 h (fun x7 h => wSl 19 h (fun x19 l19 c19 h => wI 20 h (fun x20 h => wI 21 h (fun x21 h => (conv (by kernel_rfl) h)))))))))

theorem zqd1_25ok (nx35 : Int → HP) : Ok Pr (zqd1_23_M Q E nx35) zqd1_p36 (zqd1_q16 Q E nx35) E := fun τ H h =>
  (conv (by kernel_rfl) (vc_seq (K := (zqd1_21_M Q E nx35)) (zqd1_24ok Q E nx35 τ H h) (zqd1_22ok Q E nx35)))

noncomputable def zqd1_q18 (nx35 : Int → HP) : XT := (xthen (zqd1_23_M Q E nx35) (zqd1_q16 Q E nx35))

def zqd1_26 (nx35 : Int → HP) (Q : QT) (E : ET) (x0 : OA) (l0 c0 : Nat) (x3 : OA) (l3 c3 : Nat) (x4 : Int) (x5 x19 : OA) (l19 c19 : Nat) (x20 x21 : Int) (H : Heap) : Prop :=
 zqd1_23 nx35 Q E x0 l0 c0 x3 l3 c3 x4 x5 (IntKind.wrap .i64 (x4 - 1)) x19 l19 c19 x20 x21 H

def zqd1_26_M (nx35 : Int → HP) (τ : Tau) (H : Heap) : Prop := mSl (τ 0) fun x0 l0 c0 => mSl (τ 3) fun x3 l3 c3 => mI .i64 (τ 4) fun x4 => mP (τ 5) fun x5 => mSl (τ 19) fun x19 l19 c19 => mI .i64 (τ 20) fun x20 => mI .i64 (τ 21) fun x21 => zqd1_26 nx35 Q E x0 l0 c0 x3 l3 c3 x4 x5 x19 l19 c19 x20 x21 H

theorem zqd1_27ok (nx35 : Int → HP) : Ok Pr (zqd1_26_M Q E nx35) (sA (sB zqd1_p34)) (zqd1_q18 Q E nx35) E := fun τ H h =>
  wSl 0 h (fun x0 l0 c0 h => wSl 3 h (fun x3 l3 c3 h => wI 4 h (fun x4 h => wP 5 h (fun x5 h => wSl 19 h (fun x19 l19 c19 h => wI 20 h (fun x20 h => wI 21 h (fun x21 h => (conv (by kernel_rfl) h))))))))

theorem zqd1_28ok (nx35 : Int → HP) : Ok Pr (zqd1_26_M Q E nx35) (sB zqd1_p34) (zqd1_q16 Q E nx35) E := fun τ H h =>
  (conv (by kernel_rfl) (vc_seq (K := (zqd1_23_M Q E nx35)) (zqd1_27ok Q E nx35 τ H h) (zqd1_25ok Q E nx35)))

noncomputable def zqd1_q19 (nx35 : Int → HP) : XT := (xthen (zqd1_26_M Q E nx35) (zqd1_q16 Q E nx35))

noncomputable def zqd1_q21 (nx35 : Int → HP) : XT := (xthen (fun τ H => vc Pr (sB (sI (sA zqd1_p34))) τ (xblock 4 (zqd1_q19 Q E nx35)) E H) (xblock 4 (zqd1_q19 Q E nx35)))

noncomputable def zqd1_p43 : Code := sI (sA (sI (sA zqd1_p34)))

noncomputable def zqd1_q23 (nx35 : Int → HP) : XT := (xthen (fun τ H => vc Pr (sB zqd1_p43) τ (xblock 3 (zqd1_q21 Q E nx35)) E H) (xblock 3 (zqd1_q21 Q E nx35)))

noncomputable def zqd1_p45 : Code := sB (sA zqd1_p43)

def zqd1_29 (nx35 : Int → HP) (Q : QT) (E : ET) (x0 : OA) (l0 c0 : Nat) (x3 : OA) (l3 c3 : Nat) (x4 : Int) (x5 : OA) (x7 : Int) (x19 : OA) (l19 c19 : Nat) (x20 x21 x40 : Int) (H : Heap) : Prop :=
 sel (x40 == 1)
 (zqd1_17 nx35 Q E x0 l0 c0 x3 l3 c3 x4 x5 x7 x19 l19 c19 x20 x21 H)
 (zqd1_10 nx35 Q E  H)

def zqd1_29_M (nx35 : Int → HP) (τ : Tau) (H : Heap) : Prop := mSl (τ 0) fun x0 l0 c0 => mSl (τ 3) fun x3 l3 c3 => mI .i64 (τ 4) fun x4 => mP (τ 5) fun x5 => mI .i64 (τ 7) fun x7 => mSl (τ 19) fun x19 l19 c19 => mI .i64 (τ 20) fun x20 => mI .i64 (τ 21) fun x21 => mI .i64 (τ 40) fun x40 => zqd1_29 nx35 Q E x0 l0 c0 x3 l3 c3 x4 x5 x7 x19 l19 c19 x20 x21 x40 H

theorem zqd1_30ok (nx35 : Int → HP) : Ok Pr (zqd1_29_M Q E nx35) (sB zqd1_p45) (zqd1_q23 Q E nx35) E := fun τ H h =>
  wSl 0 h (fun x0 l0 c0 h => wSl 3 h (fun x3 l3 c3 h => wI 4 h (fun x4 h => wP 5 h (fun x5 h => wI 7 h (fun x7 h => wSl 19 h (fun x19 l19 c19 h => wI 20 h (fun x20 h => wI 21 h (fun x21 h => wI 40 h (fun x40 h => (conv (by kernel_rfl) h))))))))))

noncomputable def zqd1_q24 (nx35 : Int → HP) : XT := (xthen (zqd1_29_M Q E nx35) (zqd1_q23 Q E nx35))

def zqd1_31 (nx35 : Int → HP) (Q : QT) (E : ET) (x0 : OA) (l0 c0 : Nat) (x3 : OA) (l3 c3 : Nat) (x4 : Int) (x5 : OA) (x7 : Int) (x19 : OA) (l19 c19 : Nat) (x20 x21 x40 : Int) (H : Heap) : Prop :=
 sel (x40 == 2)
 (zqd1_26 nx35 Q E x0 l0 c0 x3 l3 c3 x4 x5 x19 l19 c19 x20 x21 H)
 (zqd1_29 nx35 Q E x0 l0 c0 x3 l3 c3 x4 x5 x7 x19 l19 c19 x20 x21 x40 H)

def zqd1_31_M (nx35 : Int → HP) (τ : Tau) (H : Heap) : Prop := mSl (τ 0) fun x0 l0 c0 => mSl (τ 3) fun x3 l3 c3 => mI .i64 (τ 4) fun x4 => mP (τ 5) fun x5 => mI .i64 (τ 7) fun x7 => mSl (τ 19) fun x19 l19 c19 => mI .i64 (τ 20) fun x20 => mI .i64 (τ 21) fun x21 => mI .i64 (τ 40) fun x40 => zqd1_31 nx35 Q E x0 l0 c0 x3 l3 c3 x4 x5 x7 x19 l19 c19 x20 x21 x40 H

theorem zqd1_32ok (nx35 : Int → HP) : Ok Pr (zqd1_31_M Q E nx35) (sA zqd1_p45) (zqd1_q24 Q E nx35) E := fun τ H h =>
  wSl 0 h (fun x0 l0 c0 h => wSl 3 h (fun x3 l3 c3 h => wI 4 h (fun x4 h => wP 5 h (fun x5 h => wI 7 h (fun x7 h => wSl 19 h (fun x19 l19 c19 h => wI 20 h (fun x20 h => wI 21 h (fun x21 h => wI 40 h (fun x40 h => (conv (by kernel_rfl) h))))))))))

theorem zqd1_33ok (nx35 : Int → HP) : Ok Pr (zqd1_31_M Q E nx35) zqd1_p45 (zqd1_q23 Q E nx35) E := fun τ H h =>
  (conv (by kernel_rfl) (vc_seq (K := (zqd1_29_M Q E nx35)) (zqd1_32ok Q E nx35 τ H h) (zqd1_30ok Q E nx35)))

noncomputable def zqd1_q25 (nx35 : Int → HP) : XT := (xthen (zqd1_31_M Q E nx35) (zqd1_q23 Q E nx35))

def zqd1_34 (nx35 : Int → HP) (Q : QT) (E : ET) (x0 : OA) (l0 c0 : Nat) (x3 : OA) (l3 c3 : Nat) (x4 : Int) (x5 : OA) (x6 x7 : Int) (x19 : OA) (l19 c19 : Nat) (x20 x21 x40 : Int) (H : Heap) : Prop :=
 sel (x40 == 0)
 (zqd1_7 nx35 Q E x0 l0 c0 x3 l3 c3 x5 x6 x7 x19 l19 c19 x20 x21 H)
 (zqd1_31 nx35 Q E x0 l0 c0 x3 l3 c3 x4 x5 x7 x19 l19 c19 x20 x21 x40 H)

def zqd1_34_M (nx35 : Int → HP) (τ : Tau) (H : Heap) : Prop := mSl (τ 0) fun x0 l0 c0 => mSl (τ 3) fun x3 l3 c3 => mI .i64 (τ 4) fun x4 => mP (τ 5) fun x5 => mI .i64 (τ 6) fun x6 => mI .i64 (τ 7) fun x7 => mSl (τ 19) fun x19 l19 c19 => mI .i64 (τ 20) fun x20 => mI .i64 (τ 21) fun x21 => mI .i64 (τ 40) fun x40 => zqd1_34 nx35 Q E x0 l0 c0 x3 l3 c3 x4 x5 x6 x7 x19 l19 c19 x20 x21 x40 H

theorem zqd1_35ok (nx35 : Int → HP) : Ok Pr (zqd1_34_M Q E nx35) (sA (sA zqd1_p43)) (zqd1_q25 Q E nx35) E := fun τ H h =>
  wSl 0 h (fun x0 l0 c0 h => wSl 3 h (fun x3 l3 c3 h => wI 4 h (fun x4 h => wP 5 h (fun x5 h => wI 6 h (fun x6 h => wI 7 h (fun x7 h => wSl 19 h (fun x19 l19 c19 h => wI 20 h (fun x20 h => wI 21 h (fun x21 h => wI 40 h (fun x40 h => (conv (by kernel_rfl) h)))))))))))

theorem zqd1_36ok (nx35 : Int → HP) : Ok Pr (zqd1_34_M Q E nx35) (sA zqd1_p43) (zqd1_q23 Q E nx35) E := fun τ H h =>
  (conv (by kernel_rfl) (vc_seq (K := (zqd1_31_M Q E nx35)) (zqd1_35ok Q E nx35 τ H h) (zqd1_33ok Q E nx35)))

theorem zqd1_37ok (nx35 : Int → HP) : Ok Pr (zqd1_34_M Q E nx35) zqd1_p43 (xblock 3 (zqd1_q21 Q E nx35)) E := fun τ H h =>
  (conv (by kernel_rfl) (zqd1_36ok Q E nx35 τ H h))

theorem zqd1_38ok (nx35 : Int → HP) : Ok Pr (zqd1_34_M Q E nx35) (sA (sI (sA zqd1_p34))) (zqd1_q21 Q E nx35) E := fun τ H h =>
  (conv (by kernel_rfl) (zqd1_37ok Q E nx35 τ H h))

theorem zqd1_39ok (nx35 : Int → HP) : Ok Pr (zqd1_34_M Q E nx35) (sI (sA zqd1_p34)) (xblock 4 (zqd1_q19 Q E nx35)) E := fun τ H h =>
  (conv (by kernel_rfl) (zqd1_38ok Q E nx35 τ H h))

theorem zqd1_40ok (nx35 : Int → HP) : Ok Pr (zqd1_34_M Q E nx35) (sA zqd1_p34) (zqd1_q19 Q E nx35) E := fun τ H h =>
  (conv (by kernel_rfl) (zqd1_39ok Q E nx35 τ H h))

theorem zqd1_41ok (nx35 : Int → HP) : Ok Pr (zqd1_34_M Q E nx35) zqd1_p34 (zqd1_q16 Q E nx35) E := fun τ H h =>
  (conv (by kernel_rfl) (vc_seq (K := (zqd1_26_M Q E nx35)) (zqd1_40ok Q E nx35 τ H h) (zqd1_28ok Q E nx35)))

theorem zqd1_42ok (nx35 : Int → HP) : Ok Pr (zqd1_34_M Q E nx35) (sA (sI (sA (sI (sB zqd1_p21))))) (xthen (zqd1_17_M Q E nx35) (xblock 6 (zqd1_q10 Q E nx35))) E := fun τ H h =>
  (conv (by kernel_rfl) (zqd1_41ok Q E nx35 τ H h))

theorem zqd1_43ok (nx35 : Int → HP) : Ok Pr (zqd1_34_M Q E nx35) (sI (sA (sI (sB zqd1_p21)))) (xblock 6 (zqd1_q10 Q E nx35)) E := fun τ H h =>
  (conv (by kernel_rfl) (vc_seq (K := (zqd1_17_M Q E nx35)) (zqd1_42ok Q E nx35 τ H h) (zqd1_20ok Q E nx35)))

theorem zqd1_44ok (nx35 : Int → HP) : Ok Pr (zqd1_34_M Q E nx35) (sA (sI (sB zqd1_p21))) (zqd1_q10 Q E nx35) E := fun τ H h =>
  (conv (by kernel_rfl) (zqd1_43ok Q E nx35 τ H h))

theorem zqd1_45ok (nx35 : Int → HP) : Ok Pr (zqd1_34_M Q E nx35) (sI (sB zqd1_p21)) (xblock 2 (zqd1_q8 Q E nx35)) E := fun τ H h =>
  (conv (by kernel_rfl) (vc_seq (K := (zqd1_10_M Q E nx35)) (zqd1_44ok Q E nx35 τ H h) (zqd1_11ok Q E nx35)))

theorem zqd1_46ok (nx35 : Int → HP) : Ok Pr (zqd1_34_M Q E nx35) (sB zqd1_p21) (zqd1_q8 Q E nx35) E := fun τ H h =>
  (conv (by kernel_rfl) (zqd1_45ok Q E nx35 τ H h))

noncomputable def zqd1_q26 (nx35 : Int → HP) : XT := (xthen (zqd1_34_M Q E nx35) (zqd1_q8 Q E nx35))

def zqd1_47 (nx35 : Int → HP) (Q : QT) (E : ET) (x0 : OA) (l0 c0 : Nat) (x3 : OA) (l3 c3 : Nat) (x4 : Int) (x5 : OA) (x6 x7 : Int) (x19 : OA) (l19 c19 : Nat) (x20 x21 : Int) (H : Heap) : Prop :=
 ptr x5 fun q164 =>
 ldI .i64 q164 H fun n165 =>
 Does Pr 74 #[(.int .i64 n165)] H (fun v166 H167 =>
 ∃ n168 : Int, v166 = (.int .i64 n168) ∧ zqd1_34 nx35 Q E x0 l0 c0 x3 l3 c3 x4 x5 x6 x7 x19 l19 c19 x20 x21 n168 H167) E

def zqd1_47_M (nx35 : Int → HP) (τ : Tau) (H : Heap) : Prop := mSl (τ 0) fun x0 l0 c0 => mSl (τ 3) fun x3 l3 c3 => mI .i64 (τ 4) fun x4 => mP (τ 5) fun x5 => mI .i64 (τ 6) fun x6 => mI .i64 (τ 7) fun x7 => mSl (τ 19) fun x19 l19 c19 => mI .i64 (τ 20) fun x20 => mI .i64 (τ 21) fun x21 => zqd1_47 nx35 Q E x0 l0 c0 x3 l3 c3 x4 x5 x6 x7 x19 l19 c19 x20 x21 H

theorem zqd1_48ok (nx35 : Int → HP) : Ok Pr (zqd1_47_M Q E nx35) (sA zqd1_p21) (zqd1_q26 Q E nx35) E := fun τ H h =>
  wSl 0 h (fun x0 l0 c0 h => wSl 3 h (fun x3 l3 c3 h => wI 4 h (fun x4 h => wP 5 h (fun x5 h => wI 6 h (fun x6 h => wI 7 h (fun x7 h => wSl 19 h (fun x19 l19 c19 h => wI 20 h (fun x20 h => wI 21 h (fun x21 h => (conv (by kernel_rfl) h))))))))))

theorem zqd1_49ok (nx35 : Int → HP) : Ok Pr (zqd1_47_M Q E nx35) zqd1_p21 (zqd1_q8 Q E nx35) E := fun τ H h =>
  (conv (by kernel_rfl) (vc_seq (K := (zqd1_34_M Q E nx35)) (zqd1_48ok Q E nx35 τ H h) (zqd1_46ok Q E nx35)))

theorem zqd1_50ok (nx35 : Int → HP) : Ok Pr (zqd1_47_M Q E nx35) (sB zqd1_p16) (zqd1_q6 Q E nx35) E := fun τ H h =>
  (conv (by kernel_rfl) (vc_seq (K := (zqd1_7_M Q E nx35)) (zqd1_49ok Q E nx35 τ H h) (zqd1_9ok Q E nx35)))

noncomputable def zqd1_q27 (nx35 : Int → HP) : XT := (xthen (zqd1_47_M Q E nx35) (zqd1_q6 Q E nx35))

def zqd1_51 (nx35 : Int → HP) (Q : QT) (E : ET) (x0 : OA) (l0 c0 : Nat) (x3 : OA) (l3 c3 : Nat) (x4 : Int) (x5 : OA) (x6 x7 : Int) (x19 : OA) (l19 c19 : Nat) (x20 x21 : Int) (H : Heap) : Prop :=
 (0 ≤ x4 ∧ x4 < (l3 : Int)) ∧ ptr x3 fun q169 =>
 wr (Addr.add q169 (x4.toNat * 1)) [(.int .i64 1)] H fun H170 =>
 zqd1_47 nx35 Q E x0 l0 c0 x3 l3 c3 x4 x5 x6 x7 x19 l19 c19 x20 x21 H170

def zqd1_51_M (nx35 : Int → HP) (τ : Tau) (H : Heap) : Prop := mSl (τ 0) fun x0 l0 c0 => mSl (τ 3) fun x3 l3 c3 => mI .i64 (τ 4) fun x4 => mP (τ 5) fun x5 => mI .i64 (τ 6) fun x6 => mI .i64 (τ 7) fun x7 => mSl (τ 19) fun x19 l19 c19 => mI .i64 (τ 20) fun x20 => mI .i64 (τ 21) fun x21 => zqd1_51 nx35 Q E x0 l0 c0 x3 l3 c3 x4 x5 x6 x7 x19 l19 c19 x20 x21 H

theorem zqd1_52ok (nx35 : Int → HP) : Ok Pr (zqd1_51_M Q E nx35) (sA zqd1_p16) (zqd1_q27 Q E nx35) E := fun τ H h =>
  wSl 0 h (fun x0 l0 c0 h => wSl 3 h (fun x3 l3 c3 h => wI 4 h (fun x4 h => wP 5 h (fun x5 h => wI 6 h (fun x6 h => wI 7 h (fun x7 h => wSl 19 h (fun x19 l19 c19 h => wI 20 h (fun x20 h => wI 21 h (fun x21 h => (conv (by kernel_rfl) h))))))))))

theorem zqd1_53ok (nx35 : Int → HP) : Ok Pr (zqd1_51_M Q E nx35) zqd1_p16 (zqd1_q6 Q E nx35) E := fun τ H h =>
  (conv (by kernel_rfl) (vc_seq (K := (zqd1_47_M Q E nx35)) (zqd1_52ok Q E nx35 τ H h) (zqd1_50ok Q E nx35)))

noncomputable def zqd1_q28 (nx35 : Int → HP) : XT := (xthen (zqd1_51_M Q E nx35) (zqd1_q6 Q E nx35))

def zqd1_54 (nx35 : Int → HP) (Q : QT) (E : ET) (x0 : OA) (l0 c0 : Nat) (x3 : OA) (l3 c3 : Nat) (x4 : Int) (x5 x19 : OA) (l19 c19 : Nat) (x20 x21 : Int) (H : Heap) : Prop :=
 zqd1_51 nx35 Q E x0 l0 c0 x3 l3 c3 x4 x5 0 0 x19 l19 c19 x20 x21 H

def zqd1_54_M (nx35 : Int → HP) (τ : Tau) (H : Heap) : Prop := mSl (τ 0) fun x0 l0 c0 => mSl (τ 3) fun x3 l3 c3 => mI .i64 (τ 4) fun x4 => mP (τ 5) fun x5 => mSl (τ 19) fun x19 l19 c19 => mI .i64 (τ 20) fun x20 => mI .i64 (τ 21) fun x21 => zqd1_54 nx35 Q E x0 l0 c0 x3 l3 c3 x4 x5 x19 l19 c19 x20 x21 H

theorem zqd1_55ok (nx35 : Int → HP) : Ok Pr (zqd1_54_M Q E nx35) (sA (sB (sB zqd1_p13))) (zqd1_q28 Q E nx35) E := fun τ H h =>
  wSl 0 h (fun x0 l0 c0 h => wSl 3 h (fun x3 l3 c3 h => wI 4 h (fun x4 h => wP 5 h (fun x5 h => wSl 19 h (fun x19 l19 c19 h => wI 20 h (fun x20 h => wI 21 h (fun x21 h => (conv (by kernel_rfl) h))))))))

theorem zqd1_56ok (nx35 : Int → HP) : Ok Pr (zqd1_54_M Q E nx35) (sB (sB zqd1_p13)) (zqd1_q6 Q E nx35) E := fun τ H h =>
  (conv (by kernel_rfl) (vc_seq (K := (zqd1_51_M Q E nx35)) (zqd1_55ok Q E nx35 τ H h) (zqd1_53ok Q E nx35)))

noncomputable def zqd1_q29 (nx35 : Int → HP) : XT := (xthen (zqd1_54_M Q E nx35) (zqd1_q6 Q E nx35))

noncomputable def zqd1_p52 : Code := sA (sB zqd1_p13)

def zqd1_57 (nx35 : Int → HP) (Q : QT) (E : ET) (x0 : OA) (l0 c0 : Nat) (x3 : OA) (l3 c3 : Nat) (x4 : Int) (x5 x19 : OA) (l19 c19 : Nat) (x20 x21 : Int) (x34 : Bool) (H : Heap) : Prop :=
 sel x34
 (Q (.bool false) H)
 (zqd1_54 nx35 Q E x0 l0 c0 x3 l3 c3 x4 x5 x19 l19 c19 x20 x21 H)

def zqd1_57_M (nx35 : Int → HP) (τ : Tau) (H : Heap) : Prop := mSl (τ 0) fun x0 l0 c0 => mSl (τ 3) fun x3 l3 c3 => mI .i64 (τ 4) fun x4 => mP (τ 5) fun x5 => mSl (τ 19) fun x19 l19 c19 => mI .i64 (τ 20) fun x20 => mI .i64 (τ 21) fun x21 => mB (τ 34) fun x34 => zqd1_57 nx35 Q E x0 l0 c0 x3 l3 c3 x4 x5 x19 l19 c19 x20 x21 x34 H

theorem zqd1_58ok (nx35 : Int → HP) : Ok Pr (zqd1_57_M Q E nx35) (sB zqd1_p52) (zqd1_q29 Q E nx35) E := fun τ H h =>
  wSl 0 h (fun x0 l0 c0 h => wSl 3 h (fun x3 l3 c3 h => wI 4 h (fun x4 h => wP 5 h (fun x5 h => wSl 19 h (fun x19 l19 c19 h => wI 20 h (fun x20 h => wI 21 h (fun x21 h => wB 34 h (fun x34 h => (conv (by kernel_rfl) h)))))))))

noncomputable def zqd1_q30 (nx35 : Int → HP) : XT := (xthen (zqd1_57_M Q E nx35) (zqd1_q29 Q E nx35))

def zqd1_59 (nx35 : Int → HP) (Q : QT) (E : ET) (x0 : OA) (l0 c0 : Nat) (x3 : OA) (l3 c3 : Nat) (x4 : Int) (x5 x19 : OA) (l19 c19 : Nat) (x20 x21 : Int) (H : Heap) : Prop :=
 ptr x5 fun q176 =>
 ldI .i64 q176 H fun n177 =>
 sel (n177 != 2)
 (ptr x5 fun q178 =>
 ∃ n179 n180 n181 n182 : Int, Heap.rd H (Addr.add q178 3) 0 [(.int .u64 n179), (.int .u64 n180), (.int .u64 n181), (.int .u64 n182)] ∧ zqd1_57 nx35 Q E x0 l0 c0 x3 l3 c3 x4 x5 x19 l19 c19 x20 x21 (!(eqVs [(.int .u64 n179), (.int .u64 n180), (.int .u64 n181), (.int .u64 n182)] [(.int .u64 0), (.int .u64 0), (.int .u64 0), (.int .u64 0)])) H)
 (zqd1_57 nx35 Q E x0 l0 c0 x3 l3 c3 x4 x5 x19 l19 c19 x20 x21 false H)

def zqd1_59_M (nx35 : Int → HP) (τ : Tau) (H : Heap) : Prop := mSl (τ 0) fun x0 l0 c0 => mSl (τ 3) fun x3 l3 c3 => mI .i64 (τ 4) fun x4 => mP (τ 5) fun x5 => mSl (τ 19) fun x19 l19 c19 => mI .i64 (τ 20) fun x20 => mI .i64 (τ 21) fun x21 => zqd1_59 nx35 Q E x0 l0 c0 x3 l3 c3 x4 x5 x19 l19 c19 x20 x21 H

theorem zqd1_60ok (nx35 : Int → HP) : Ok Pr (zqd1_59_M Q E nx35) (sA zqd1_p52) (zqd1_q30 Q E nx35) E := fun τ H h =>
  wSl 0 h (fun x0 l0 c0 h => wSl 3 h (fun x3 l3 c3 h => wI 4 h (fun x4 h => wP 5 h (fun x5 h => wSl 19 h (fun x19 l19 c19 h => wI 20 h (fun x20 h => wI 21 h (fun x21 h => (conv (by kernel_rfl) h))))))))

theorem zqd1_61ok (nx35 : Int → HP) : Ok Pr (zqd1_59_M Q E nx35) zqd1_p52 (zqd1_q29 Q E nx35) E := fun τ H h =>
  (conv (by kernel_rfl) (vc_seq (K := (zqd1_57_M Q E nx35)) (zqd1_60ok Q E nx35 τ H h) (zqd1_58ok Q E nx35)))

theorem zqd1_62ok (nx35 : Int → HP) : Ok Pr (zqd1_59_M Q E nx35) (sB zqd1_p13) (zqd1_q6 Q E nx35) E := fun τ H h =>
  (conv (by kernel_rfl) (vc_seq (K := (zqd1_54_M Q E nx35)) (zqd1_61ok Q E nx35 τ H h) (zqd1_56ok Q E nx35)))

noncomputable def zqd1_q31 (nx35 : Int → HP) : XT := (xthen (zqd1_59_M Q E nx35) (zqd1_q6 Q E nx35))

def zqd1_63 (nx35 : Int → HP) (Q : QT) (E : ET) (x0 : OA) (l0 c0 : Nat) (x3 : OA) (l3 c3 : Nat) (x19 : OA) (l19 c19 : Nat) (x20 x21 : Int) (H : Heap) : Prop :=
 (0 ≤ x21 ∧ x21 < (l19 : Int)) ∧ ptr x19 fun q183 =>
 ∃ n184 n185 n186 n187 n188 n189 n190 : Int, Heap.rd H (Addr.add q183 (x21.toNat * 7)) 0 [(.int .i64 n184), (.int .i64 n185), (.int .i64 n186), (.int .u64 n187), (.int .u64 n188), (.int .u64 n189), (.int .u64 n190)] ∧ nw (.cells #[(.int .i64 0), (.int .i64 0), (.int .i64 0), (.int .u64 0), (.int .u64 0), (.int .u64 0), (.int .u64 0)] 48 (0, 0)) H fun i191 H192 =>
 wr ⟨i191, 0, none⟩ [(.int .i64 n184), (.int .i64 n185), (.int .i64 n186), (.int .u64 n187), (.int .u64 n188), (.int .u64 n189), (.int .u64 n190)] H192 fun H193 =>
 zqd1_59 nx35 Q E x0 l0 c0 x3 l3 c3 x21 (some ⟨i191, 0, none⟩) x19 l19 c19 x20 x21 H193

def zqd1_63_M (nx35 : Int → HP) (τ : Tau) (H : Heap) : Prop := mSl (τ 0) fun x0 l0 c0 => mSl (τ 3) fun x3 l3 c3 => mSl (τ 19) fun x19 l19 c19 => mI .i64 (τ 20) fun x20 => mI .i64 (τ 21) fun x21 => zqd1_63 nx35 Q E x0 l0 c0 x3 l3 c3 x19 l19 c19 x20 x21 H

theorem zqd1_64ok (nx35 : Int → HP) : Ok Pr (zqd1_63_M Q E nx35) (sA zqd1_p13) (zqd1_q31 Q E nx35) E := fun τ H h =>
  wSl 0 h (fun x0 l0 c0 h => wSl 3 h (fun x3 l3 c3 h => wSl 19 h (fun x19 l19 c19 h => wI 20 h (fun x20 h => wI 21 h (fun x21 h => (conv (by kernel_rfl) h))))))

theorem zqd1_65ok (nx35 : Int → HP) : Ok Pr (zqd1_63_M Q E nx35) zqd1_p13 (zqd1_q6 Q E nx35) E := fun τ H h =>
  (conv (by kernel_rfl) (vc_seq (K := (zqd1_59_M Q E nx35)) (zqd1_64ok Q E nx35 τ H h) (zqd1_62ok Q E nx35)))

theorem zqd1_66ok (nx35 : Int → HP) : Ok Pr (zqd1_63_M Q E nx35) (sA (sB zqd1_p9)) (xthen (zqd1_3_M Q E nx35) (zqd1_q4 Q E nx35)) E := fun τ H h =>
  (conv (by kernel_rfl) (zqd1_65ok Q E nx35 τ H h))

theorem zqd1_67ok (nx35 : Int → HP) : Ok Pr (zqd1_63_M Q E nx35) (sB zqd1_p9) (zqd1_q4 Q E nx35) E := fun τ H h =>
  (conv (by kernel_rfl) (vc_seq (K := (zqd1_3_M Q E nx35)) (zqd1_66ok Q E nx35 τ H h) (zqd1_4ok Q E nx35)))

noncomputable def zqd1_q32 (nx35 : Int → HP) : XT := (xthen (zqd1_63_M Q E nx35) (zqd1_q4 Q E nx35))

def zqd1_68 (nx35 : Int → HP) (Q : QT) (E : ET) (x0 : OA) (l0 c0 : Nat) (x3 : OA) (l3 c3 : Nat) (x19 : OA) (l19 c19 : Nat) (x20 x21 : Int) (x22 : Bool) (H : Heap) : Prop :=
 sel x22
 (zqd1_63 nx35 Q E x0 l0 c0 x3 l3 c3 x19 l19 c19 x20 x21 H)
 (zqd1_1 Q E x0 l0 c0 x3 l3 c3 H)

def zqd1_68_M (nx35 : Int → HP) (τ : Tau) (H : Heap) : Prop := mSl (τ 0) fun x0 l0 c0 => mSl (τ 3) fun x3 l3 c3 => mSl (τ 19) fun x19 l19 c19 => mI .i64 (τ 20) fun x20 => mI .i64 (τ 21) fun x21 => mB (τ 22) fun x22 => zqd1_68 nx35 Q E x0 l0 c0 x3 l3 c3 x19 l19 c19 x20 x21 x22 H

theorem zqd1_69ok (nx35 : Int → HP) : Ok Pr (zqd1_68_M Q E nx35) (sA zqd1_p9) (zqd1_q32 Q E nx35) E := fun τ H h =>
  wSl 0 h (fun x0 l0 c0 h => wSl 3 h (fun x3 l3 c3 h => wSl 19 h (fun x19 l19 c19 h => wI 20 h (fun x20 h => wI 21 h (fun x21 h => wB 22 h (fun x22 h => (conv (by kernel_rfl) h)))))))

theorem zqd1_70ok (nx35 : Int → HP) : Ok Pr (zqd1_68_M Q E nx35) zqd1_p9 (zqd1_q4 Q E nx35) E := fun τ H h =>
  (conv (by kernel_rfl) (vc_seq (K := (zqd1_63_M Q E nx35)) (zqd1_69ok Q E nx35 τ H h) (zqd1_67ok Q E nx35)))

noncomputable def zqd1_q33 (nx35 : Int → HP) : XT := (xthen (zqd1_68_M Q E nx35) (zqd1_q4 Q E nx35))

def zqd1_71 (nx35 : Int → HP) (Q : QT) (E : ET) (x0 : OA) (l0 c0 : Nat) (x3 : OA) (l3 c3 : Nat) (x19 : OA) (l19 c19 : Nat) (x20 x21 : Int) (H : Heap) : Prop :=
 zqd1_68 nx35 Q E x0 l0 c0 x3 l3 c3 x19 l19 c19 x20 x21 (decide (x21 < x20)) H

def zqd1_71_M (nx35 : Int → HP) (τ : Tau) (H : Heap) : Prop := mSl (τ 0) fun x0 l0 c0 => mSl (τ 3) fun x3 l3 c3 => mSl (τ 19) fun x19 l19 c19 => mI .i64 (τ 20) fun x20 => mI .i64 (τ 21) fun x21 => zqd1_71 nx35 Q E x0 l0 c0 x3 l3 c3 x19 l19 c19 x20 x21 H

theorem zqd1_72ok (nx35 : Int → HP) : Ok Pr (zqd1_71_M Q E nx35) (sA (sI zqd1_p7)) (zqd1_q33 Q E nx35) E := fun τ H h =>
  wSl 0 h (fun x0 l0 c0 h => wSl 3 h (fun x3 l3 c3 h => wSl 19 h (fun x19 l19 c19 h => wI 20 h (fun x20 h => wI 21 h (fun x21 h => (conv (by kernel_rfl) h))))))

theorem zqd1_73ok (nx35 : Int → HP) : Ok Pr (zqd1_71_M Q E nx35) (sI zqd1_p7) (zqd1_q4 Q E nx35) E := fun τ H h =>
  (conv (by kernel_rfl) (vc_seq (K := (zqd1_68_M Q E nx35)) (zqd1_72ok Q E nx35 τ H h) (zqd1_70ok Q E nx35)))

def zqd1_74 (Q : QT) (E : ET) (x0 : OA) (l0 c0 : Nat) (x3 : OA) (l3 c3 : Nat) (x19 : OA) (l19 c19 : Nat) (x20 x21 : Int) (H : Heap) : Prop :=
 ∃ (I : Int → HP) (μ : Int → Heap → Nat), I x21 H ∧ ∀ (x21 : Int) (H : Heap), I x21 H →
 zqd1_71 (fun x21' H1 => I x21' H1 ∧ μ x21' H1 < μ x21 H) Q E x0 l0 c0 x3 l3 c3 x19 l19 c19 x20 x21 H

def zqd1_74_M  (τ : Tau) (H : Heap) : Prop := mSl (τ 0) fun x0 l0 c0 => mSl (τ 3) fun x3 l3 c3 => mSl (τ 19) fun x19 l19 c19 => mI .i64 (τ 20) fun x20 => mI .i64 (τ 21) fun x21 => zqd1_74 Q E x0 l0 c0 x3 l3 c3 x19 l19 c19 x20 x21 H

theorem zqd1_75ok  : Ok Pr (zqd1_74_M Q E) zqd1_p7 (zqd1_q3 Q E) E := fun τ H h =>
  wSl 0 h (fun x0 l0 c0 h => wSl 3 h (fun x3 l3 c3 h => wSl 19 h (fun x19 l19 c19 h => wI 20 h (fun x20 h => wI 21 h (fun x21 h => match h with | ⟨I, μ, h0, hr⟩ => (conv (by kernel_rfl) (vc_loopG (c := sI zqd1_p7) (τ := (Tau.upd (Tau.upd (Tau.upd (Tau.upd (Tau.upd τ 0 (.slice x0 l0 c0)) 3 (.slice x3 l3 c3)) 19 (.slice x19 l19 c19)) 20 (.int .i64 x20)) 21 (.int .i64 x21))) [0, 3, 19, 20] (fun τ H => mI .i64 (τ 21) fun x21' => I x21' H) (fun τ H => μ (gI (τ 21)) H) (by kernel_rfl) h0 (fun τ1 H1 hf hI => uF 0 (.slice x0 l0 c0) (hf 0 (by simp)) (uF 3 (.slice x3 l3 c3) (hf 3 (by simp)) (uF 19 (.slice x19 l19 c19) (hf 19 (by simp)) (uF 20 (.int .i64 x20) (hf 20 (by simp)) (uI 21 hI (fun x21r h => lgx (zqd1_73ok Q E (fun x21' H2 => I x21' H2 ∧ μ x21' H2 < μ x21r H1) (Tau.upd (Tau.upd (Tau.upd (Tau.upd (Tau.upd τ1 0 (.slice x0 l0 c0)) 3 (.slice x3 l3 c3)) 19 (.slice x19 l19 c19)) 20 (.int .i64 x20)) 21 (.int .i64 x21r)) H1 (conv (by kernel_rfl) (hr x21r H1 h))) (fun τ2 H2 hk => kI 21 hk (fun x21' h => conv (by kernel_rfl) h)))))))))))))))

theorem zqd1_76ok  : Ok Pr (zqd1_74_M Q E) (sB (sA zqd1_p3)) (zqd1_q2 Q E) E := fun τ H h =>
  (conv (by kernel_rfl) (zqd1_75ok Q E τ H h))

noncomputable def zqd1_q34  : XT := (xthen (zqd1_74_M Q E) (zqd1_q2 Q E))

def zqd1_77 (Q : QT) (E : ET) (x0 : OA) (l0 c0 : Nat) (x3 : OA) (l3 c3 : Nat) (H : Heap) : Prop :=
 zqd1_74 Q E x0 l0 c0 x3 l3 c3 x0 l0 c0 (l0 : Int) 0 H

def zqd1_77_M  (τ : Tau) (H : Heap) : Prop := mSl (τ 0) fun x0 l0 c0 => mSl (τ 3) fun x3 l3 c3 => zqd1_77 Q E x0 l0 c0 x3 l3 c3 H

theorem zqd1_78ok  : Ok Pr (zqd1_77_M Q E) (sA (sA zqd1_p3)) (zqd1_q34 Q E) E := fun τ H h =>
  wSl 0 h (fun x0 l0 c0 h => wSl 3 h (fun x3 l3 c3 h => (conv (by kernel_rfl) h)))

theorem zqd1_79ok  : Ok Pr (zqd1_77_M Q E) (sA zqd1_p3) (zqd1_q2 Q E) E := fun τ H h =>
  (conv (by kernel_rfl) (vc_seq (K := (zqd1_74_M Q E)) (zqd1_78ok Q E τ H h) (zqd1_76ok Q E)))

theorem zqd1_80ok  : Ok Pr (zqd1_77_M Q E) zqd1_p3 (zqd1_q1 Q E) E := fun τ H h =>
  (conv (by kernel_rfl) (vc_seq (K := (zqd1_1_M Q E)) (zqd1_79ok Q E τ H h) (zqd1_2ok Q E)))

def zqd1_81 (Q : QT) (E : ET) (x0 : OA) (l0 c0 : Nat) (H : Heap) : Prop :=
 (0 ≤ ((l0 : Int) : Int) ∧ ((l0 : Int) : Int) ≤ (l0 : Int) ∧ ((l0 : Int) : Int) ≤ 281474976710656 ∧ ((8 : Nat) : Int) * (l0 : Int) ≤ 281474976710656) ∧ nw (.cells (rep ((l0 : Int) : Int).toNat [(.int .i64 0)]).toArray 3 (0, 0)) H fun i194 H195 =>
 zqd1_77 Q E x0 l0 c0 (some ⟨i194, 0, none⟩) (((l0 : Int) : Int).toNat) (((l0 : Int) : Int).toNat) H195

def zqd1_81_M  (τ : Tau) (H : Heap) : Prop := mSl (τ 0) fun x0 l0 c0 => zqd1_81 Q E x0 l0 c0 H

theorem zqd1_82ok  : Ok Pr (zqd1_81_M Q E) (sA (sB zqd1_p1)) (xthen (zqd1_77_M Q E) (zqd1_q1 Q E)) E := fun τ H h =>
  wSl 0 h (fun x0 l0 c0 h => (conv (by kernel_rfl) h))

theorem zqd1_83ok  : Ok Pr (zqd1_81_M Q E) (sB zqd1_p1) (zqd1_q1 Q E) E := fun τ H h =>
  (conv (by kernel_rfl) (vc_seq (K := (zqd1_77_M Q E)) (zqd1_82ok Q E τ H h) (zqd1_80ok Q E)))

noncomputable def zqd1_q36  : XT := (xthen (zqd1_81_M Q E) (zqd1_q1 Q E))

def zqd1_84 (Q : QT) (E : ET) (x0 : OA) (l0 c0 : Nat) (x15 : Bool) (H : Heap) : Prop :=
 sel x15
 (Q (.bool false) H)
 (zqd1_81 Q E x0 l0 c0 H)

def zqd1_84_M  (τ : Tau) (H : Heap) : Prop := mSl (τ 0) fun x0 l0 c0 => mB (τ 15) fun x15 => zqd1_84 Q E x0 l0 c0 x15 H

theorem zqd1_85ok  : Ok Pr (zqd1_84_M Q E) (sB (sA zqd1_p1)) (zqd1_q36 Q E) E := fun τ H h =>
  wSl 0 h (fun x0 l0 c0 h => wB 15 h (fun x15 h => (conv (by kernel_rfl) h)))

def zqd1_86 (Q : QT) (E : ET) (x0 : OA) (l0 c0 : Nat) (H : Heap) : Prop :=
 sel (((l0 : Int) : Int) == 0)
 (zqd1_84 Q E x0 l0 c0 true H)
 (zqd1_84 Q E x0 l0 c0 (decide (((l0 : Int) : Int) > 256)) H)

def zqd1_86_M  (τ : Tau) (H : Heap) : Prop := mSl (τ 0) fun x0 l0 c0 => zqd1_86 Q E x0 l0 c0 H

theorem zqd1_87ok  : Ok Pr (zqd1_86_M Q E) (sA (sA zqd1_p1)) (xthen (zqd1_84_M Q E) (zqd1_q36 Q E)) E := fun τ H h =>
  wSl 0 h (fun x0 l0 c0 h => (conv (by kernel_rfl) h))

theorem zqd1_88ok  : Ok Pr (zqd1_86_M Q E) (sA zqd1_p1) (zqd1_q36 Q E) E := fun τ H h =>
  (conv (by kernel_rfl) (vc_seq (K := (zqd1_84_M Q E)) (zqd1_87ok Q E τ H h) (zqd1_85ok Q E)))

theorem zqd1_89ok  : Ok Pr (zqd1_86_M Q E) zqd1_p1 (zqd1_q1 Q E) E := fun τ H h =>
  (conv (by kernel_rfl) (vc_seq (K := (zqd1_81_M Q E)) (zqd1_88ok Q E τ H h) (zqd1_83ok Q E)))

def zqd1 (Q : QT) (E : ET) (a0 : OA) (a0l : Nat) (a0c : Nat) (H : Heap) : Prop :=
 zqd1_86 Q E a0 a0l a0c H

theorem zqd1_fn (a0 : OA) (a0l : Nat) (a0c : Nat) (Q : QT) (E : ET) (H : Heap) (h : zqd1 Q E a0 a0l a0c H)   : Does Pr 40 #[(.slice a0 a0l a0c)] H Q E :=
  Fn_of_vc (fn := Try.f40) (c := (bodyOf Try.f40)) (args := [(.slice a0 a0l a0c)]) mixed (by kernel_rfl) (by kernel_rfl) (by kernel_rfl) (by kernel_rfl) (by kernel_rfl) ((conv (B := vc Pr (bodyOf Try.f40) (argT [(.slice a0 a0l a0c)]) (zqd1_q1 Q E) E H) (by kernel_rfl) (vc_seq (K := (zqd1_86_M Q E)) (conv (B := vc Pr (sA (bodyOf Try.f40)) (argT [(.slice a0 a0l a0c)]) (xthen (zqd1_86_M Q E) (zqd1_q1 Q E)) E H) (by kernel_rfl) h) (zqd1_89ok Q E))))

/-! jobmux/regex.Kids -/
noncomputable def zqe1_q1 (Q : QT) (E : ET) : XT := (retQ Pr (Try.f74).results.toList Q)

def zqe1_1 (Q : QT) (E : ET)  (H : Heap) : Prop :=
 Q (.int .i64 (-1)) H

def zqe1_1_M  (τ : Tau) (H : Heap) : Prop := zqe1_1 Q E  H

theorem zqe1_2ok  : Ok Pr (zqe1_1_M Q E) (sB (sB (bodyOf Try.f74))) (zqe1_q1 Q E) E := fun τ H h =>
  (conv (by kernel_rfl) h)

noncomputable def zqe1_q2  : XT := (xthen (zqe1_1_M Q E) (zqe1_q1 Q E))

noncomputable def zqe1_p3 : Code := sA (sB (bodyOf Try.f74))

noncomputable def zqe1_q3  : XT := (xblock 0 (zqe1_q2 Q E))

def zqe1_3 (Q : QT) (E : ET)  (H : Heap) : Prop :=
 Q (.int .i64 0) H

def zqe1_3_M  (τ : Tau) (H : Heap) : Prop := zqe1_3 Q E  H

theorem zqe1_4ok  : Ok Pr (zqe1_3_M Q E) (sT (sB (sI (sB zqe1_p3)))) (zqe1_q3 Q E) E := fun τ H h =>
  (conv (by kernel_rfl) h)

noncomputable def zqe1_p8 : Code := sE (sB (sI (sB zqe1_p3)))

def zqe1_5 (Q : QT) (E : ET)  (H : Heap) : Prop :=
 Q (.int .i64 1) H

def zqe1_5_M  (τ : Tau) (H : Heap) : Prop := zqe1_5 Q E  H

theorem zqe1_6ok  : Ok Pr (zqe1_5_M Q E) (sT (sB zqe1_p8)) (zqe1_q3 Q E) E := fun τ H h =>
  (conv (by kernel_rfl) h)

def zqe1_7 (Q : QT) (E : ET) (x13 : Bool) (H : Heap) : Prop :=
 sel x13
 (Q (.int .i64 2) H)
 (zqe1_1 Q E  H)

def zqe1_7_M  (τ : Tau) (H : Heap) : Prop := mB (τ 13) fun x13 => zqe1_7 Q E x13 H

theorem zqe1_8ok  : Ok Pr (zqe1_7_M Q E) (sB (sE (sB zqe1_p8))) (zqe1_q3 Q E) E := fun τ H h =>
  wB 13 h (fun x13 h => (conv (by kernel_rfl) h))

def zqe1_9 (Q : QT) (E : ET) (x3 : Int) (H : Heap) : Prop :=
 sel (x3 == 3)
 (zqe1_7 Q E (x3 == 3) H)
 (zqe1_7 Q E (x3 == 4) H)

def zqe1_9_M  (τ : Tau) (H : Heap) : Prop := mI .i64 (τ 3) fun x3 => zqe1_9 Q E x3 H

theorem zqe1_10ok  : Ok Pr (zqe1_9_M Q E) (sA (sE (sB zqe1_p8))) (xthen (zqe1_7_M Q E) (zqe1_q3 Q E)) E := fun τ H h =>
  wI 3 h (fun x3 h => (conv (by kernel_rfl) h))

theorem zqe1_11ok  : Ok Pr (zqe1_9_M Q E) (sE (sB zqe1_p8)) (zqe1_q3 Q E) E := fun τ H h =>
  (conv (by kernel_rfl) (vc_seq (K := (zqe1_7_M Q E)) (zqe1_10ok Q E τ H h) (zqe1_8ok Q E)))

def zqe1_12 (Q : QT) (E : ET) (x3 : Int) (x9 : Bool) (H : Heap) : Prop :=
 sel x9
 (zqe1_5 Q E  H)
 (zqe1_9 Q E x3 H)

def zqe1_12_M  (τ : Tau) (H : Heap) : Prop := mI .i64 (τ 3) fun x3 => mB (τ 9) fun x9 => zqe1_12 Q E x3 x9 H

theorem zqe1_13ok  : Ok Pr (zqe1_12_M Q E) (sB zqe1_p8) (zqe1_q3 Q E) E := fun τ H h =>
  wI 3 h (fun x3 h => wB 9 h (fun x9 h => (conv (by kernel_rfl) (sel_mapT (b := x9) (τ := (Tau.upd (Tau.upd τ 3 (.int .i64 x3)) 9 (.bool x9))) (H := H) (zqe1_6ok Q E) (zqe1_11ok Q E) (conv (by kernel_rfl) h)))))

def zqe1_14 (Q : QT) (E : ET) (x3 : Int) (H : Heap) : Prop :=
 sel (x3 == 5)
 (zqe1_12 Q E x3 (x3 == 5) H)
 (sel (x3 == 6)
 (zqe1_12 Q E x3 (x3 == 6) H)
 (zqe1_12 Q E x3 (x3 == 7) H))

def zqe1_14_M  (τ : Tau) (H : Heap) : Prop := mI .i64 (τ 3) fun x3 => zqe1_14 Q E x3 H

theorem zqe1_15ok  : Ok Pr (zqe1_14_M Q E) (sA zqe1_p8) (xthen (zqe1_12_M Q E) (zqe1_q3 Q E)) E := fun τ H h =>
  wI 3 h (fun x3 h => (conv (by kernel_rfl) h))

theorem zqe1_16ok  : Ok Pr (zqe1_14_M Q E) zqe1_p8 (zqe1_q3 Q E) E := fun τ H h =>
  (conv (by kernel_rfl) (vc_seq (K := (zqe1_12_M Q E)) (zqe1_15ok Q E τ H h) (zqe1_13ok Q E)))

def zqe1_17 (Q : QT) (E : ET) (x3 : Int) (x4 : Bool) (H : Heap) : Prop :=
 sel x4
 (zqe1_3 Q E  H)
 (zqe1_14 Q E x3 H)

def zqe1_17_M  (τ : Tau) (H : Heap) : Prop := mI .i64 (τ 3) fun x3 => mB (τ 4) fun x4 => zqe1_17 Q E x3 x4 H

theorem zqe1_18ok  : Ok Pr (zqe1_17_M Q E) (sB (sI (sB zqe1_p3))) (zqe1_q3 Q E) E := fun τ H h =>
  wI 3 h (fun x3 h => wB 4 h (fun x4 h => (conv (by kernel_rfl) (sel_mapT (b := x4) (τ := (Tau.upd (Tau.upd τ 3 (.int .i64 x3)) 4 (.bool x4))) (H := H) (zqe1_4ok Q E) (zqe1_16ok Q E) (conv (by kernel_rfl) h)))))

def zqe1_19 (Q : QT) (E : ET) (x3 : Int) (H : Heap) : Prop :=
 sel (x3 == 1)
 (zqe1_17 Q E x3 (x3 == 1) H)
 (sel (x3 == 2)
 (zqe1_17 Q E x3 (x3 == 2) H)
 (sel (x3 == 8)
 (zqe1_17 Q E x3 (x3 == 8) H)
 (zqe1_17 Q E x3 (x3 == 9) H)))

def zqe1_19_M  (τ : Tau) (H : Heap) : Prop := mI .i64 (τ 3) fun x3 => zqe1_19 Q E x3 H

theorem zqe1_20ok  : Ok Pr (zqe1_19_M Q E) (sA (sI (sB zqe1_p3))) (xthen (zqe1_17_M Q E) (zqe1_q3 Q E)) E := fun τ H h =>
  wI 3 h (fun x3 h => (conv (by kernel_rfl) h))

theorem zqe1_21ok  : Ok Pr (zqe1_19_M Q E) (sI (sB zqe1_p3)) (zqe1_q3 Q E) E := fun τ H h =>
  (conv (by kernel_rfl) (vc_seq (K := (zqe1_17_M Q E)) (zqe1_20ok Q E τ H h) (zqe1_18ok Q E)))

theorem zqe1_22ok  : Ok Pr (zqe1_19_M Q E) (sB zqe1_p3) (zqe1_q2 Q E) E := fun τ H h =>
  (conv (by kernel_rfl) (zqe1_21ok Q E τ H h))

def zqe1_23 (Q : QT) (E : ET) (x0 : Int) (H : Heap) : Prop :=
 zqe1_19 Q E x0 H

def zqe1_23_M  (τ : Tau) (H : Heap) : Prop := mI .i64 (τ 0) fun x0 => zqe1_23 Q E x0 H

theorem zqe1_24ok  : Ok Pr (zqe1_23_M Q E) (sA zqe1_p3) (xthen (zqe1_19_M Q E) (zqe1_q2 Q E)) E := fun τ H h =>
  wI 0 h (fun x0 h => (conv (by kernel_rfl) h))

theorem zqe1_25ok  : Ok Pr (zqe1_23_M Q E) zqe1_p3 (zqe1_q2 Q E) E := fun τ H h =>
  (conv (by kernel_rfl) (vc_seq (K := (zqe1_19_M Q E)) (zqe1_24ok Q E τ H h) (zqe1_22ok Q E)))

theorem zqe1_26ok  : Ok Pr (zqe1_23_M Q E) (sB (bodyOf Try.f74)) (zqe1_q1 Q E) E := fun τ H h =>
  (conv (by kernel_rfl) (vc_seq (K := (zqe1_1_M Q E)) (zqe1_25ok Q E τ H h) (zqe1_2ok Q E)))

def zqe1 (Q : QT) (E : ET) (a0 : Int) (H : Heap) : Prop :=
 zqe1_23 Q E a0 H

theorem zqe1_fn (a0 : Int) (Q : QT) (E : ET) (H : Heap) (h : zqe1 Q E a0 H)   : Does Pr 74 #[(.int .i64 a0)] H Q E :=
  Fn_of_vc (fn := Try.f74) (c := (bodyOf Try.f74)) (args := [(.int .i64 a0)]) mixed (by kernel_rfl) (by kernel_rfl) (by kernel_rfl) (by kernel_rfl) (by kernel_rfl) ((conv (B := vc Pr (bodyOf Try.f74) (argT [(.int .i64 a0)]) (zqe1_q1 Q E) E H) (by kernel_rfl) (vc_seq (K := (zqe1_23_M Q E)) (conv (B := vc Pr (sA (bodyOf Try.f74)) (argT [(.int .i64 a0)]) (xthen (zqe1_23_M Q E) (zqe1_q1 Q E)) E H) (by kernel_rfl) h) (zqe1_26ok Q E))))

end Go.Proofs.Ytaffcoiomggpfaa
