import Derived.Test.YtaffcoiomggpfaaVPr
/- Printed by gen.py: the Go functions of package regex over a heap view, and that the model does so. -/
namespace Go.Proofs.Ytaffcoiomggpfaa
open Go.V
set_option linter.unusedVariables false
set_option maxRecDepth 100000
/-! jobmux/regex.Valid -/
@[reducible] noncomputable def zqv_q1 (Q : QT) (E : ET) : Exit → Tau → Heap → Prop := (retQ Pr (Try.f40).results.toList Q)

@[reducible] noncomputable def zqv_p0 : Code := bodyOf Try.f40

@[reducible] noncomputable def zqv_p1 : Code := sB zqv_p0

@[reducible] noncomputable def zqv_p2 : Code := sB zqv_p1

@[reducible] noncomputable def zqv_p3 : Code := sB zqv_p2

@[reducible] noncomputable def zqv_p4 : Code := sB zqv_p3

def zqv_1 (Q : QT) (E : ET) (x0 : OA) (l0 : Nat) (c0 : Nat) (x3 : OA) (l3 : Nat) (c3 : Nat) (H : Heap) : Prop :=
 (0 ≤ ((IntKind.wrap .i64 (((l0 : Nat) : Int) - 1)) : Int) ∧ ((IntKind.wrap .i64 (((l0 : Nat) : Int) - 1)) : Int) < ((l3 : Nat) : Int)) ∧ ptr x3 fun q33 =>
 ldI .i64 (Addr.add q33 (((IntKind.wrap .i64 (((l0 : Nat) : Int) - 1)) : Int).toNat * 1)) H fun n34 =>
 Q (.bool ((n34 : Int) == ((l0 : Nat) : Int))) H

def zqv_1_M (Q : QT) (E : ET) (τ : Tau) (H : Heap) : Prop := mSl (τ 0) fun x0 l0 c0 => mSl (τ 3) fun x3 l3 c3 => zqv_1 Q E x0 l0 c0 x3 l3 c3 H

theorem zqv_2ok (Q : QT) (E : ET) (τ : Tau) (H : Heap) (h : zqv_1_M Q E τ H) : vc Pr zqv_p4 τ (zqv_q1 Q E) E H :=
  vSl (i := 0) h (fun x0 l0 c0 h => vSl (i := 3) h (fun x3 l3 c3 h => (conv (by kernel_rfl) h)))

@[reducible] noncomputable def zqv_q2 (Q : QT) (E : ET) : Exit → Tau → Heap → Prop := (xthen (zqv_1_M Q E) (zqv_q1 Q E))

@[reducible] noncomputable def zqv_p5 : Code := sA zqv_p3

@[reducible] noncomputable def zqv_p6 : Code := sB zqv_p5

@[reducible] noncomputable def zqv_q3 (Q : QT) (E : ET) : Exit → Tau → Heap → Prop := (xblock 0 (zqv_q2 Q E))

@[reducible] noncomputable def zqv_p7 : Code := sI zqv_p6

@[reducible] noncomputable def zqv_q4 (nx35 : Int → HP) (Q : QT) (E : ET) : Exit → Tau → Heap → Prop := (xthen (fun τ H => mI .i64 (τ 21) fun x21' => nx35 x21' H) (zqv_q3 Q E))

@[reducible] noncomputable def zqv_p8 : Code := sI zqv_p7

@[reducible] noncomputable def zqv_p9 : Code := sB zqv_p8

@[reducible] noncomputable def zqv_p10 : Code := sB zqv_p9

@[reducible] noncomputable def zqv_p11 : Code := sB zqv_p10

def zqv_3 (nx35 : Int → HP) (Q : QT) (E : ET) (x0 : OA) (l0 : Nat) (c0 : Nat) (x3 : OA) (l3 : Nat) (c3 : Nat) (x19 : OA) (l19 : Nat) (c19 : Nat) (x20 : Int) (x21 : Int) (H : Heap) : Prop :=
 nx35 (IntKind.wrap .i64 (x21 + 1)) H

def zqv_3_M (nx35 : Int → HP) (Q : QT) (E : ET) (τ : Tau) (H : Heap) : Prop := mSl (τ 0) fun x0 l0 c0 => mSl (τ 3) fun x3 l3 c3 => mSl (τ 19) fun x19 l19 c19 => mI .i64 (τ 20) fun x20 => mI .i64 (τ 21) fun x21 => zqv_3 nx35 Q E x0 l0 c0 x3 l3 c3 x19 l19 c19 x20 x21 H

theorem zqv_4ok (nx35 : Int → HP) (Q : QT) (E : ET) (τ : Tau) (H : Heap) (h : zqv_3_M nx35 Q E τ H) : vc Pr zqv_p11 τ (zqv_q4 nx35 Q E) E H :=
  vSl (i := 0) h (fun x0 l0 c0 h => vSl (i := 3) h (fun x3 l3 c3 h => vSl (i := 19) h (fun x19 l19 c19 h => vI (i := 20) h (fun x20 h => vI (i := 21) h (fun x21 h => (conv (by kernel_rfl) h))))))

@[reducible] noncomputable def zqv_q5 (nx35 : Int → HP) (Q : QT) (E : ET) : Exit → Tau → Heap → Prop := (xthen (zqv_3_M nx35 Q E) (zqv_q4 nx35 Q E))

@[reducible] noncomputable def zqv_p12 : Code := sA zqv_p10

@[reducible] noncomputable def zqv_q6 (nx35 : Int → HP) (Q : QT) (E : ET) : Exit → Tau → Heap → Prop := (xblock 1 (zqv_q5 nx35 Q E))

@[reducible] noncomputable def zqv_p13 : Code := sI zqv_p12

@[reducible] noncomputable def zqv_p14 : Code := sB zqv_p13

@[reducible] noncomputable def zqv_p15 : Code := sB zqv_p14

@[reducible] noncomputable def zqv_p16 : Code := sB zqv_p15

@[reducible] noncomputable def zqv_p17 : Code := sB zqv_p16

@[reducible] noncomputable def zqv_p18 : Code := sB zqv_p17

@[reducible] noncomputable def zqv_p19 : Code := sB zqv_p18

def zqv_5 (nx35 : Int → HP) (Q : QT) (E : ET) (x0 : OA) (l0 : Nat) (c0 : Nat) (x3 : OA) (l3 : Nat) (c3 : Nat) (x19 : OA) (l19 : Nat) (c19 : Nat) (x20 : Int) (x21 : Int) (x88 : Bool) (H : Heap) : Prop :=
 sel x88
 (Q (.bool false) H)
 (zqv_3 nx35 Q E x0 l0 c0 x3 l3 c3 x19 l19 c19 x20 x21 H)

def zqv_5_M (nx35 : Int → HP) (Q : QT) (E : ET) (τ : Tau) (H : Heap) : Prop := mSl (τ 0) fun x0 l0 c0 => mSl (τ 3) fun x3 l3 c3 => mSl (τ 19) fun x19 l19 c19 => mI .i64 (τ 20) fun x20 => mI .i64 (τ 21) fun x21 => mB (τ 88) fun x88 => zqv_5 nx35 Q E x0 l0 c0 x3 l3 c3 x19 l19 c19 x20 x21 x88 H

theorem zqv_6ok (nx35 : Int → HP) (Q : QT) (E : ET) (τ : Tau) (H : Heap) (h : zqv_5_M nx35 Q E τ H) : vc Pr zqv_p19 τ (zqv_q6 nx35 Q E) E H :=
  vSl (i := 0) h (fun x0 l0 c0 h => vSl (i := 3) h (fun x3 l3 c3 h => vSl (i := 19) h (fun x19 l19 c19 h => vI (i := 20) h (fun x20 h => vI (i := 21) h (fun x21 h => vB (i := 88) h (fun x88 h => (conv (by kernel_rfl) h)))))))

@[reducible] noncomputable def zqv_q7 (nx35 : Int → HP) (Q : QT) (E : ET) : Exit → Tau → Heap → Prop := (xthen (zqv_5_M nx35 Q E) (zqv_q6 nx35 Q E))

@[reducible] noncomputable def zqv_p20 : Code := sA zqv_p18

def zqv_7 (nx35 : Int → HP) (Q : QT) (E : ET) (x0 : OA) (l0 : Nat) (c0 : Nat) (x3 : OA) (l3 : Nat) (c3 : Nat) (x5 : OA) (x6 : Int) (x7 : Int) (x19 : OA) (l19 : Nat) (c19 : Nat) (x20 : Int) (x21 : Int) (H : Heap) : Prop :=
 ptr x5 fun q112 =>
 ldI .i64 (Addr.add q112 1) H fun n113 =>
 sel ((n113 : Int) != x6)
 (zqv_5 nx35 Q E x0 l0 c0 x3 l3 c3 x19 l19 c19 x20 x21 true H)
 (ptr x5 fun q114 =>
 ldI .i64 (Addr.add q114 2) H fun n115 =>
 zqv_5 nx35 Q E x0 l0 c0 x3 l3 c3 x19 l19 c19 x20 x21 ((n115 : Int) != x7) H)

def zqv_7_M (nx35 : Int → HP) (Q : QT) (E : ET) (τ : Tau) (H : Heap) : Prop := mSl (τ 0) fun x0 l0 c0 => mSl (τ 3) fun x3 l3 c3 => mP (τ 5) fun x5 => mI .i64 (τ 6) fun x6 => mI .i64 (τ 7) fun x7 => mSl (τ 19) fun x19 l19 c19 => mI .i64 (τ 20) fun x20 => mI .i64 (τ 21) fun x21 => zqv_7 nx35 Q E x0 l0 c0 x3 l3 c3 x5 x6 x7 x19 l19 c19 x20 x21 H

theorem zqv_8ok (nx35 : Int → HP) (Q : QT) (E : ET) (τ : Tau) (H : Heap) (h : zqv_7_M nx35 Q E τ H) : vc Pr zqv_p20 τ (zqv_q7 nx35 Q E) E H :=
  vSl (i := 0) h (fun x0 l0 c0 h => vSl (i := 3) h (fun x3 l3 c3 h => vP (i := 5) h (fun x5 h => vI (i := 6) h (fun x6 h => vI (i := 7) h (fun x7 h => vSl (i := 19) h (fun x19 l19 c19 h => vI (i := 20) h (fun x20 h => vI (i := 21) h (fun x21 h => (conv (by kernel_rfl) h)))))))))

theorem zqv_9ok (nx35 : Int → HP) (Q : QT) (E : ET) (τ : Tau) (H : Heap) (h : zqv_7_M nx35 Q E τ H) : vc Pr zqv_p18 τ (zqv_q6 nx35 Q E) E H :=
  (conv (B := vc Pr zqv_p18 τ (zqv_q6 nx35 Q E) E H) (by kernel_rfl) (vc_seq (K := (zqv_5_M nx35 Q E)) (zqv_8ok nx35 Q E τ H h) (zqv_6ok nx35 Q E)))

@[reducible] noncomputable def zqv_q8 (nx35 : Int → HP) (Q : QT) (E : ET) : Exit → Tau → Heap → Prop := (xthen (zqv_7_M nx35 Q E) (zqv_q6 nx35 Q E))

@[reducible] noncomputable def zqv_p21 : Code := sA zqv_p17

@[reducible] noncomputable def zqv_p22 : Code := sB zqv_p21

@[reducible] noncomputable def zqv_q9 (nx35 : Int → HP) (Q : QT) (E : ET) : Exit → Tau → Heap → Prop := (xblock 2 (zqv_q8 nx35 Q E))

@[reducible] noncomputable def zqv_p23 : Code := sI zqv_p22

@[reducible] noncomputable def zqv_p24 : Code := sB zqv_p23

def zqv_10 (nx35 : Int → HP) (Q : QT) (E : ET)  (H : Heap) : Prop :=
 Q (.bool false) H

def zqv_10_M (nx35 : Int → HP) (Q : QT) (E : ET) (τ : Tau) (H : Heap) : Prop := zqv_10 nx35 Q E  H

theorem zqv_11ok (nx35 : Int → HP) (Q : QT) (E : ET) (τ : Tau) (H : Heap) (h : zqv_10_M nx35 Q E τ H) : vc Pr zqv_p24 τ (zqv_q9 nx35 Q E) E H :=
  (conv (B := vc Pr zqv_p24 τ (zqv_q9 nx35 Q E) E H) (by kernel_rfl) h)

@[reducible] noncomputable def zqv_q10 (nx35 : Int → HP) (Q : QT) (E : ET) : Exit → Tau → Heap → Prop := (xthen (zqv_10_M nx35 Q E) (zqv_q9 nx35 Q E))

@[reducible] noncomputable def zqv_p25 : Code := sA zqv_p23

@[reducible] noncomputable def zqv_q11 (nx35 : Int → HP) (Q : QT) (E : ET) : Exit → Tau → Heap → Prop := (xblock 6 (zqv_q10 nx35 Q E))

@[reducible] noncomputable def zqv_p26 : Code := sI zqv_p25

@[reducible] noncomputable def zqv_p27 : Code := sB zqv_p26

@[reducible] noncomputable def zqv_q12 (nx35 : Int → HP) (Q : QT) (E : ET) : Exit → Tau → Heap → Prop := (xthen (fun τ H => vc Pr (sB zqv_p27) τ (zqv_q11 nx35 Q E) E H) (zqv_q11 nx35 Q E))

@[reducible] noncomputable def zqv_p28 : Code := sA zqv_p27

@[reducible] noncomputable def zqv_p29 : Code := sB zqv_p28

@[reducible] noncomputable def zqv_p30 : Code := sB zqv_p29

def zqv_12 (nx35 : Int → HP) (Q : QT) (E : ET) (x0 : OA) (l0 : Nat) (c0 : Nat) (x3 : OA) (l3 : Nat) (c3 : Nat) (x4 : Int) (x5 : OA) (x6 : Int) (x7 : Int) (x19 : OA) (l19 : Nat) (c19 : Nat) (x20 : Int) (x21 : Int) (H : Heap) : Prop :=
 (0 ≤ (x4 : Int) ∧ (x4 : Int) < ((l3 : Nat) : Int)) ∧ ptr x3 fun q150 =>
 ldI .i64 (Addr.add q150 ((x4 : Int).toNat * 1)) H fun n151 =>
 (0 ≤ (x6 : Int) ∧ (x6 : Int) < ((l3 : Nat) : Int)) ∧ ptr x3 fun q152 =>
 ldI .i64 (Addr.add q152 ((x6 : Int).toNat * 1)) H fun n153 =>
 (0 ≤ (x4 : Int) ∧ (x4 : Int) < ((l3 : Nat) : Int)) ∧ ptr x3 fun q154 =>
 wr (Addr.add q154 ((x4 : Int).toNat * 1)) [(.int .i64 (IntKind.wrap .i64 (n151 + n153)))] H fun H155 =>
 zqv_7 nx35 Q E x0 l0 c0 x3 l3 c3 x5 x6 x7 x19 l19 c19 x20 x21 H155

def zqv_12_M (nx35 : Int → HP) (Q : QT) (E : ET) (τ : Tau) (H : Heap) : Prop := mSl (τ 0) fun x0 l0 c0 => mSl (τ 3) fun x3 l3 c3 => mI .i64 (τ 4) fun x4 => mP (τ 5) fun x5 => mI .i64 (τ 6) fun x6 => mI .i64 (τ 7) fun x7 => mSl (τ 19) fun x19 l19 c19 => mI .i64 (τ 20) fun x20 => mI .i64 (τ 21) fun x21 => zqv_12 nx35 Q E x0 l0 c0 x3 l3 c3 x4 x5 x6 x7 x19 l19 c19 x20 x21 H

theorem zqv_13ok (nx35 : Int → HP) (Q : QT) (E : ET) (τ : Tau) (H : Heap) (h : zqv_12_M nx35 Q E τ H) : vc Pr zqv_p30 τ (zqv_q12 nx35 Q E) E H :=
  vSl (i := 0) h (fun x0 l0 c0 h => vSl (i := 3) h (fun x3 l3 c3 h => vI (i := 4) h (fun x4 h => vP (i := 5) h (fun x5 h => vI (i := 6) h (fun x6 h => vI (i := 7) h (fun x7 h => vSl (i := 19) h (fun x19 l19 c19 h => vI (i := 20) h (fun x20 h => vI (i := 21) h (fun x21 h => (conv (by kernel_rfl) h))))))))))

@[reducible] noncomputable def zqv_q13 (nx35 : Int → HP) (Q : QT) (E : ET) : Exit → Tau → Heap → Prop := (xthen (zqv_12_M nx35 Q E) (zqv_q12 nx35 Q E))

@[reducible] noncomputable def zqv_p31 : Code := sA zqv_p29

def zqv_14 (nx35 : Int → HP) (Q : QT) (E : ET) (x0 : OA) (l0 : Nat) (c0 : Nat) (x3 : OA) (l3 : Nat) (c3 : Nat) (x4 : Int) (x5 : OA) (x6 : Int) (x7 : Int) (x19 : OA) (l19 : Nat) (c19 : Nat) (x20 : Int) (x21 : Int) (H : Heap) : Prop :=
 sel (decide ((x6 : Int) < 0))
 (Q (.bool false) H)
 (zqv_12 nx35 Q E x0 l0 c0 x3 l3 c3 x4 x5 x6 x7 x19 l19 c19 x20 x21 H)

def zqv_14_M (nx35 : Int → HP) (Q : QT) (E : ET) (τ : Tau) (H : Heap) : Prop := mSl (τ 0) fun x0 l0 c0 => mSl (τ 3) fun x3 l3 c3 => mI .i64 (τ 4) fun x4 => mP (τ 5) fun x5 => mI .i64 (τ 6) fun x6 => mI .i64 (τ 7) fun x7 => mSl (τ 19) fun x19 l19 c19 => mI .i64 (τ 20) fun x20 => mI .i64 (τ 21) fun x21 => zqv_14 nx35 Q E x0 l0 c0 x3 l3 c3 x4 x5 x6 x7 x19 l19 c19 x20 x21 H

theorem zqv_15ok (nx35 : Int → HP) (Q : QT) (E : ET) (τ : Tau) (H : Heap) (h : zqv_14_M nx35 Q E τ H) : vc Pr zqv_p31 τ (zqv_q13 nx35 Q E) E H :=
  vSl (i := 0) h (fun x0 l0 c0 h => vSl (i := 3) h (fun x3 l3 c3 h => vI (i := 4) h (fun x4 h => vP (i := 5) h (fun x5 h => vI (i := 6) h (fun x6 h => vI (i := 7) h (fun x7 h => vSl (i := 19) h (fun x19 l19 c19 h => vI (i := 20) h (fun x20 h => vI (i := 21) h (fun x21 h => (conv (by kernel_rfl) h))))))))))

theorem zqv_16ok (nx35 : Int → HP) (Q : QT) (E : ET) (τ : Tau) (H : Heap) (h : zqv_14_M nx35 Q E τ H) : vc Pr zqv_p29 τ (zqv_q12 nx35 Q E) E H :=
  (conv (B := vc Pr zqv_p29 τ (zqv_q12 nx35 Q E) E H) (by kernel_rfl) (vc_seq (K := (zqv_12_M nx35 Q E)) (zqv_15ok nx35 Q E τ H h) (zqv_13ok nx35 Q E)))

@[reducible] noncomputable def zqv_q14 (nx35 : Int → HP) (Q : QT) (E : ET) : Exit → Tau → Heap → Prop := (xthen (zqv_14_M nx35 Q E) (zqv_q12 nx35 Q E))

@[reducible] noncomputable def zqv_p32 : Code := sA zqv_p28

def zqv_17 (nx35 : Int → HP) (Q : QT) (E : ET) (x0 : OA) (l0 : Nat) (c0 : Nat) (x3 : OA) (l3 : Nat) (c3 : Nat) (x4 : Int) (x5 : OA) (x7 : Int) (x19 : OA) (l19 : Nat) (c19 : Nat) (x20 : Int) (x21 : Int) (H : Heap) : Prop :=
 (0 ≤ (x4 : Int) ∧ (x4 : Int) < ((l3 : Nat) : Int)) ∧ ptr x3 fun q156 =>
 ldI .i64 (Addr.add q156 ((x4 : Int).toNat * 1)) H fun n157 =>
 zqv_14 nx35 Q E x0 l0 c0 x3 l3 c3 x4 x5 (IntKind.wrap .i64 (x4 - n157)) x7 x19 l19 c19 x20 x21 H

def zqv_17_M (nx35 : Int → HP) (Q : QT) (E : ET) (τ : Tau) (H : Heap) : Prop := mSl (τ 0) fun x0 l0 c0 => mSl (τ 3) fun x3 l3 c3 => mI .i64 (τ 4) fun x4 => mP (τ 5) fun x5 => mI .i64 (τ 7) fun x7 => mSl (τ 19) fun x19 l19 c19 => mI .i64 (τ 20) fun x20 => mI .i64 (τ 21) fun x21 => zqv_17 nx35 Q E x0 l0 c0 x3 l3 c3 x4 x5 x7 x19 l19 c19 x20 x21 H

theorem zqv_18ok (nx35 : Int → HP) (Q : QT) (E : ET) (τ : Tau) (H : Heap) (h : zqv_17_M nx35 Q E τ H) : vc Pr zqv_p32 τ (zqv_q14 nx35 Q E) E H :=
  vSl (i := 0) h (fun x0 l0 c0 h => vSl (i := 3) h (fun x3 l3 c3 h => vI (i := 4) h (fun x4 h => vP (i := 5) h (fun x5 h => vI (i := 7) h (fun x7 h => vSl (i := 19) h (fun x19 l19 c19 h => vI (i := 20) h (fun x20 h => vI (i := 21) h (fun x21 h => (conv (by kernel_rfl) h)))))))))

theorem zqv_19ok (nx35 : Int → HP) (Q : QT) (E : ET) (τ : Tau) (H : Heap) (h : zqv_17_M nx35 Q E τ H) : vc Pr zqv_p28 τ (zqv_q12 nx35 Q E) E H :=
  (conv (B := vc Pr zqv_p28 τ (zqv_q12 nx35 Q E) E H) (by kernel_rfl) (vc_seq (K := (zqv_14_M nx35 Q E)) (zqv_18ok nx35 Q E τ H h) (zqv_16ok nx35 Q E)))

theorem zqv_20ok (nx35 : Int → HP) (Q : QT) (E : ET) (τ : Tau) (H : Heap) (h : zqv_17_M nx35 Q E τ H) : vc Pr zqv_p27 τ (zqv_q11 nx35 Q E) E H :=
  (conv (B := vc Pr zqv_p27 τ (zqv_q11 nx35 Q E) E H) (by kernel_rfl) (zqv_19ok nx35 Q E τ H h))

@[reducible] noncomputable def zqv_q15 (nx35 : Int → HP) (Q : QT) (E : ET) : Exit → Tau → Heap → Prop := (xthen (zqv_17_M nx35 Q E) (zqv_q11 nx35 Q E))

@[reducible] noncomputable def zqv_p33 : Code := sA zqv_p26

@[reducible] noncomputable def zqv_q16 (nx35 : Int → HP) (Q : QT) (E : ET) : Exit → Tau → Heap → Prop := (xblock 5 (zqv_q15 nx35 Q E))

@[reducible] noncomputable def zqv_p34 : Code := sI zqv_p33

@[reducible] noncomputable def zqv_p35 : Code := sB zqv_p34

@[reducible] noncomputable def zqv_p36 : Code := sB zqv_p35

@[reducible] noncomputable def zqv_p37 : Code := sB zqv_p36

def zqv_21 (nx35 : Int → HP) (Q : QT) (E : ET) (x0 : OA) (l0 : Nat) (c0 : Nat) (x3 : OA) (l3 : Nat) (c3 : Nat) (x4 : Int) (x5 : OA) (x7 : Int) (x19 : OA) (l19 : Nat) (c19 : Nat) (x20 : Int) (x21 : Int) (H : Heap) : Prop :=
 (0 ≤ (x4 : Int) ∧ (x4 : Int) < ((l3 : Nat) : Int)) ∧ ptr x3 fun q158 =>
 ldI .i64 (Addr.add q158 ((x4 : Int).toNat * 1)) H fun n159 =>
 (0 ≤ (x7 : Int) ∧ (x7 : Int) < ((l3 : Nat) : Int)) ∧ ptr x3 fun q160 =>
 ldI .i64 (Addr.add q160 ((x7 : Int).toNat * 1)) H fun n161 =>
 (0 ≤ (x4 : Int) ∧ (x4 : Int) < ((l3 : Nat) : Int)) ∧ ptr x3 fun q162 =>
 wr (Addr.add q162 ((x4 : Int).toNat * 1)) [(.int .i64 (IntKind.wrap .i64 (n159 + n161)))] H fun H163 =>
 zqv_17 nx35 Q E x0 l0 c0 x3 l3 c3 x4 x5 x7 x19 l19 c19 x20 x21 H163

def zqv_21_M (nx35 : Int → HP) (Q : QT) (E : ET) (τ : Tau) (H : Heap) : Prop := mSl (τ 0) fun x0 l0 c0 => mSl (τ 3) fun x3 l3 c3 => mI .i64 (τ 4) fun x4 => mP (τ 5) fun x5 => mI .i64 (τ 7) fun x7 => mSl (τ 19) fun x19 l19 c19 => mI .i64 (τ 20) fun x20 => mI .i64 (τ 21) fun x21 => zqv_21 nx35 Q E x0 l0 c0 x3 l3 c3 x4 x5 x7 x19 l19 c19 x20 x21 H

theorem zqv_22ok (nx35 : Int → HP) (Q : QT) (E : ET) (τ : Tau) (H : Heap) (h : zqv_21_M nx35 Q E τ H) : vc Pr zqv_p37 τ (zqv_q16 nx35 Q E) E H :=
  vSl (i := 0) h (fun x0 l0 c0 h => vSl (i := 3) h (fun x3 l3 c3 h => vI (i := 4) h (fun x4 h => vP (i := 5) h (fun x5 h => vI (i := 7) h (fun x7 h => vSl (i := 19) h (fun x19 l19 c19 h => vI (i := 20) h (fun x20 h => vI (i := 21) h (fun x21 h => (conv (by kernel_rfl) h)))))))))

@[reducible] noncomputable def zqv_q17 (nx35 : Int → HP) (Q : QT) (E : ET) : Exit → Tau → Heap → Prop := (xthen (zqv_21_M nx35 Q E) (zqv_q16 nx35 Q E))

@[reducible] noncomputable def zqv_p38 : Code := sA zqv_p36

def zqv_23 (nx35 : Int → HP) (Q : QT) (E : ET) (x0 : OA) (l0 : Nat) (c0 : Nat) (x3 : OA) (l3 : Nat) (c3 : Nat) (x4 : Int) (x5 : OA) (x7 : Int) (x19 : OA) (l19 : Nat) (c19 : Nat) (x20 : Int) (x21 : Int) (H : Heap) : Prop :=
 sel (decide ((x7 : Int) < 0))
 (Q (.bool false) H)
 (zqv_21 nx35 Q E x0 l0 c0 x3 l3 c3 x4 x5 x7 x19 l19 c19 x20 x21 H)

def zqv_23_M (nx35 : Int → HP) (Q : QT) (E : ET) (τ : Tau) (H : Heap) : Prop := mSl (τ 0) fun x0 l0 c0 => mSl (τ 3) fun x3 l3 c3 => mI .i64 (τ 4) fun x4 => mP (τ 5) fun x5 => mI .i64 (τ 7) fun x7 => mSl (τ 19) fun x19 l19 c19 => mI .i64 (τ 20) fun x20 => mI .i64 (τ 21) fun x21 => zqv_23 nx35 Q E x0 l0 c0 x3 l3 c3 x4 x5 x7 x19 l19 c19 x20 x21 H

theorem zqv_24ok (nx35 : Int → HP) (Q : QT) (E : ET) (τ : Tau) (H : Heap) (h : zqv_23_M nx35 Q E τ H) : vc Pr zqv_p38 τ (zqv_q17 nx35 Q E) E H :=
  vSl (i := 0) h (fun x0 l0 c0 h => vSl (i := 3) h (fun x3 l3 c3 h => vI (i := 4) h (fun x4 h => vP (i := 5) h (fun x5 h => vI (i := 7) h (fun x7 h => vSl (i := 19) h (fun x19 l19 c19 h => vI (i := 20) h (fun x20 h => vI (i := 21) h (fun x21 h => (conv (by kernel_rfl) h)))))))))

theorem zqv_25ok (nx35 : Int → HP) (Q : QT) (E : ET) (τ : Tau) (H : Heap) (h : zqv_23_M nx35 Q E τ H) : vc Pr zqv_p36 τ (zqv_q16 nx35 Q E) E H :=
  (conv (B := vc Pr zqv_p36 τ (zqv_q16 nx35 Q E) E H) (by kernel_rfl) (vc_seq (K := (zqv_21_M nx35 Q E)) (zqv_24ok nx35 Q E τ H h) (zqv_22ok nx35 Q E)))

@[reducible] noncomputable def zqv_q18 (nx35 : Int → HP) (Q : QT) (E : ET) : Exit → Tau → Heap → Prop := (xthen (zqv_23_M nx35 Q E) (zqv_q16 nx35 Q E))

@[reducible] noncomputable def zqv_p39 : Code := sA zqv_p35

def zqv_26 (nx35 : Int → HP) (Q : QT) (E : ET) (x0 : OA) (l0 : Nat) (c0 : Nat) (x3 : OA) (l3 : Nat) (c3 : Nat) (x4 : Int) (x5 : OA) (x19 : OA) (l19 : Nat) (c19 : Nat) (x20 : Int) (x21 : Int) (H : Heap) : Prop :=
 zqv_23 nx35 Q E x0 l0 c0 x3 l3 c3 x4 x5 (IntKind.wrap .i64 (x4 - 1)) x19 l19 c19 x20 x21 H

def zqv_26_M (nx35 : Int → HP) (Q : QT) (E : ET) (τ : Tau) (H : Heap) : Prop := mSl (τ 0) fun x0 l0 c0 => mSl (τ 3) fun x3 l3 c3 => mI .i64 (τ 4) fun x4 => mP (τ 5) fun x5 => mSl (τ 19) fun x19 l19 c19 => mI .i64 (τ 20) fun x20 => mI .i64 (τ 21) fun x21 => zqv_26 nx35 Q E x0 l0 c0 x3 l3 c3 x4 x5 x19 l19 c19 x20 x21 H

theorem zqv_27ok (nx35 : Int → HP) (Q : QT) (E : ET) (τ : Tau) (H : Heap) (h : zqv_26_M nx35 Q E τ H) : vc Pr zqv_p39 τ (zqv_q18 nx35 Q E) E H :=
  vSl (i := 0) h (fun x0 l0 c0 h => vSl (i := 3) h (fun x3 l3 c3 h => vI (i := 4) h (fun x4 h => vP (i := 5) h (fun x5 h => vSl (i := 19) h (fun x19 l19 c19 h => vI (i := 20) h (fun x20 h => vI (i := 21) h (fun x21 h => (conv (by kernel_rfl) h))))))))

theorem zqv_28ok (nx35 : Int → HP) (Q : QT) (E : ET) (τ : Tau) (H : Heap) (h : zqv_26_M nx35 Q E τ H) : vc Pr zqv_p35 τ (zqv_q16 nx35 Q E) E H :=
  (conv (B := vc Pr zqv_p35 τ (zqv_q16 nx35 Q E) E H) (by kernel_rfl) (vc_seq (K := (zqv_23_M nx35 Q E)) (zqv_27ok nx35 Q E τ H h) (zqv_25ok nx35 Q E)))

@[reducible] noncomputable def zqv_q19 (nx35 : Int → HP) (Q : QT) (E : ET) : Exit → Tau → Heap → Prop := (xthen (zqv_26_M nx35 Q E) (zqv_q16 nx35 Q E))

@[reducible] noncomputable def zqv_p40 : Code := sA zqv_p34

@[reducible] noncomputable def zqv_q20 (nx35 : Int → HP) (Q : QT) (E : ET) : Exit → Tau → Heap → Prop := (xblock 4 (zqv_q19 nx35 Q E))

@[reducible] noncomputable def zqv_p41 : Code := sI zqv_p40

@[reducible] noncomputable def zqv_q21 (nx35 : Int → HP) (Q : QT) (E : ET) : Exit → Tau → Heap → Prop := (xthen (fun τ H => vc Pr (sB zqv_p41) τ (zqv_q20 nx35 Q E) E H) (zqv_q20 nx35 Q E))

@[reducible] noncomputable def zqv_p42 : Code := sA zqv_p41

@[reducible] noncomputable def zqv_q22 (nx35 : Int → HP) (Q : QT) (E : ET) : Exit → Tau → Heap → Prop := (xblock 3 (zqv_q21 nx35 Q E))

@[reducible] noncomputable def zqv_p43 : Code := sI zqv_p42

@[reducible] noncomputable def zqv_q23 (nx35 : Int → HP) (Q : QT) (E : ET) : Exit → Tau → Heap → Prop := (xthen (fun τ H => vc Pr (sB zqv_p43) τ (zqv_q22 nx35 Q E) E H) (zqv_q22 nx35 Q E))

@[reducible] noncomputable def zqv_p44 : Code := sA zqv_p43

@[reducible] noncomputable def zqv_p45 : Code := sB zqv_p44

@[reducible] noncomputable def zqv_p46 : Code := sB zqv_p45

def zqv_29 (nx35 : Int → HP) (Q : QT) (E : ET) (x0 : OA) (l0 : Nat) (c0 : Nat) (x3 : OA) (l3 : Nat) (c3 : Nat) (x4 : Int) (x5 : OA) (x7 : Int) (x19 : OA) (l19 : Nat) (c19 : Nat) (x20 : Int) (x21 : Int) (x40 : Int) (H : Heap) : Prop :=
 sel ((x40 : Int) == 1)
 (zqv_17 nx35 Q E x0 l0 c0 x3 l3 c3 x4 x5 x7 x19 l19 c19 x20 x21 H)
 (zqv_10 nx35 Q E  H)

def zqv_29_M (nx35 : Int → HP) (Q : QT) (E : ET) (τ : Tau) (H : Heap) : Prop := mSl (τ 0) fun x0 l0 c0 => mSl (τ 3) fun x3 l3 c3 => mI .i64 (τ 4) fun x4 => mP (τ 5) fun x5 => mI .i64 (τ 7) fun x7 => mSl (τ 19) fun x19 l19 c19 => mI .i64 (τ 20) fun x20 => mI .i64 (τ 21) fun x21 => mI .i64 (τ 40) fun x40 => zqv_29 nx35 Q E x0 l0 c0 x3 l3 c3 x4 x5 x7 x19 l19 c19 x20 x21 x40 H

theorem zqv_30ok (nx35 : Int → HP) (Q : QT) (E : ET) (τ : Tau) (H : Heap) (h : zqv_29_M nx35 Q E τ H) : vc Pr zqv_p46 τ (zqv_q23 nx35 Q E) E H :=
  vSl (i := 0) h (fun x0 l0 c0 h => vSl (i := 3) h (fun x3 l3 c3 h => vI (i := 4) h (fun x4 h => vP (i := 5) h (fun x5 h => vI (i := 7) h (fun x7 h => vSl (i := 19) h (fun x19 l19 c19 h => vI (i := 20) h (fun x20 h => vI (i := 21) h (fun x21 h => vI (i := 40) h (fun x40 h => (conv (by kernel_rfl) h))))))))))

@[reducible] noncomputable def zqv_q24 (nx35 : Int → HP) (Q : QT) (E : ET) : Exit → Tau → Heap → Prop := (xthen (zqv_29_M nx35 Q E) (zqv_q23 nx35 Q E))

@[reducible] noncomputable def zqv_p47 : Code := sA zqv_p45

def zqv_31 (nx35 : Int → HP) (Q : QT) (E : ET) (x0 : OA) (l0 : Nat) (c0 : Nat) (x3 : OA) (l3 : Nat) (c3 : Nat) (x4 : Int) (x5 : OA) (x7 : Int) (x19 : OA) (l19 : Nat) (c19 : Nat) (x20 : Int) (x21 : Int) (x40 : Int) (H : Heap) : Prop :=
 sel ((x40 : Int) == 2)
 (zqv_26 nx35 Q E x0 l0 c0 x3 l3 c3 x4 x5 x19 l19 c19 x20 x21 H)
 (zqv_29 nx35 Q E x0 l0 c0 x3 l3 c3 x4 x5 x7 x19 l19 c19 x20 x21 x40 H)

def zqv_31_M (nx35 : Int → HP) (Q : QT) (E : ET) (τ : Tau) (H : Heap) : Prop := mSl (τ 0) fun x0 l0 c0 => mSl (τ 3) fun x3 l3 c3 => mI .i64 (τ 4) fun x4 => mP (τ 5) fun x5 => mI .i64 (τ 7) fun x7 => mSl (τ 19) fun x19 l19 c19 => mI .i64 (τ 20) fun x20 => mI .i64 (τ 21) fun x21 => mI .i64 (τ 40) fun x40 => zqv_31 nx35 Q E x0 l0 c0 x3 l3 c3 x4 x5 x7 x19 l19 c19 x20 x21 x40 H

theorem zqv_32ok (nx35 : Int → HP) (Q : QT) (E : ET) (τ : Tau) (H : Heap) (h : zqv_31_M nx35 Q E τ H) : vc Pr zqv_p47 τ (zqv_q24 nx35 Q E) E H :=
  vSl (i := 0) h (fun x0 l0 c0 h => vSl (i := 3) h (fun x3 l3 c3 h => vI (i := 4) h (fun x4 h => vP (i := 5) h (fun x5 h => vI (i := 7) h (fun x7 h => vSl (i := 19) h (fun x19 l19 c19 h => vI (i := 20) h (fun x20 h => vI (i := 21) h (fun x21 h => vI (i := 40) h (fun x40 h => (conv (by kernel_rfl) h))))))))))

theorem zqv_33ok (nx35 : Int → HP) (Q : QT) (E : ET) (τ : Tau) (H : Heap) (h : zqv_31_M nx35 Q E τ H) : vc Pr zqv_p45 τ (zqv_q23 nx35 Q E) E H :=
  (conv (B := vc Pr zqv_p45 τ (zqv_q23 nx35 Q E) E H) (by kernel_rfl) (vc_seq (K := (zqv_29_M nx35 Q E)) (zqv_32ok nx35 Q E τ H h) (zqv_30ok nx35 Q E)))

@[reducible] noncomputable def zqv_q25 (nx35 : Int → HP) (Q : QT) (E : ET) : Exit → Tau → Heap → Prop := (xthen (zqv_31_M nx35 Q E) (zqv_q23 nx35 Q E))

@[reducible] noncomputable def zqv_p48 : Code := sA zqv_p44

def zqv_34 (nx35 : Int → HP) (Q : QT) (E : ET) (x0 : OA) (l0 : Nat) (c0 : Nat) (x3 : OA) (l3 : Nat) (c3 : Nat) (x4 : Int) (x5 : OA) (x6 : Int) (x7 : Int) (x19 : OA) (l19 : Nat) (c19 : Nat) (x20 : Int) (x21 : Int) (x40 : Int) (H : Heap) : Prop :=
 sel ((x40 : Int) == 0)
 (zqv_7 nx35 Q E x0 l0 c0 x3 l3 c3 x5 x6 x7 x19 l19 c19 x20 x21 H)
 (zqv_31 nx35 Q E x0 l0 c0 x3 l3 c3 x4 x5 x7 x19 l19 c19 x20 x21 x40 H)

def zqv_34_M (nx35 : Int → HP) (Q : QT) (E : ET) (τ : Tau) (H : Heap) : Prop := mSl (τ 0) fun x0 l0 c0 => mSl (τ 3) fun x3 l3 c3 => mI .i64 (τ 4) fun x4 => mP (τ 5) fun x5 => mI .i64 (τ 6) fun x6 => mI .i64 (τ 7) fun x7 => mSl (τ 19) fun x19 l19 c19 => mI .i64 (τ 20) fun x20 => mI .i64 (τ 21) fun x21 => mI .i64 (τ 40) fun x40 => zqv_34 nx35 Q E x0 l0 c0 x3 l3 c3 x4 x5 x6 x7 x19 l19 c19 x20 x21 x40 H

theorem zqv_35ok (nx35 : Int → HP) (Q : QT) (E : ET) (τ : Tau) (H : Heap) (h : zqv_34_M nx35 Q E τ H) : vc Pr zqv_p48 τ (zqv_q25 nx35 Q E) E H :=
  vSl (i := 0) h (fun x0 l0 c0 h => vSl (i := 3) h (fun x3 l3 c3 h => vI (i := 4) h (fun x4 h => vP (i := 5) h (fun x5 h => vI (i := 6) h (fun x6 h => vI (i := 7) h (fun x7 h => vSl (i := 19) h (fun x19 l19 c19 h => vI (i := 20) h (fun x20 h => vI (i := 21) h (fun x21 h => vI (i := 40) h (fun x40 h => (conv (by kernel_rfl) h)))))))))))

theorem zqv_36ok (nx35 : Int → HP) (Q : QT) (E : ET) (τ : Tau) (H : Heap) (h : zqv_34_M nx35 Q E τ H) : vc Pr zqv_p44 τ (zqv_q23 nx35 Q E) E H :=
  (conv (B := vc Pr zqv_p44 τ (zqv_q23 nx35 Q E) E H) (by kernel_rfl) (vc_seq (K := (zqv_31_M nx35 Q E)) (zqv_35ok nx35 Q E τ H h) (zqv_33ok nx35 Q E)))

theorem zqv_37ok (nx35 : Int → HP) (Q : QT) (E : ET) (τ : Tau) (H : Heap) (h : zqv_34_M nx35 Q E τ H) : vc Pr zqv_p43 τ (zqv_q22 nx35 Q E) E H :=
  (conv (B := vc Pr zqv_p43 τ (zqv_q22 nx35 Q E) E H) (by kernel_rfl) (zqv_36ok nx35 Q E τ H h))

theorem zqv_38ok (nx35 : Int → HP) (Q : QT) (E : ET) (τ : Tau) (H : Heap) (h : zqv_34_M nx35 Q E τ H) : vc Pr zqv_p42 τ (zqv_q21 nx35 Q E) E H :=
  (conv (B := vc Pr zqv_p42 τ (zqv_q21 nx35 Q E) E H) (by kernel_rfl) (zqv_37ok nx35 Q E τ H h))

theorem zqv_39ok (nx35 : Int → HP) (Q : QT) (E : ET) (τ : Tau) (H : Heap) (h : zqv_34_M nx35 Q E τ H) : vc Pr zqv_p41 τ (zqv_q20 nx35 Q E) E H :=
  (conv (B := vc Pr zqv_p41 τ (zqv_q20 nx35 Q E) E H) (by kernel_rfl) (zqv_38ok nx35 Q E τ H h))

theorem zqv_40ok (nx35 : Int → HP) (Q : QT) (E : ET) (τ : Tau) (H : Heap) (h : zqv_34_M nx35 Q E τ H) : vc Pr zqv_p40 τ (zqv_q19 nx35 Q E) E H :=
  (conv (B := vc Pr zqv_p40 τ (zqv_q19 nx35 Q E) E H) (by kernel_rfl) (zqv_39ok nx35 Q E τ H h))

theorem zqv_41ok (nx35 : Int → HP) (Q : QT) (E : ET) (τ : Tau) (H : Heap) (h : zqv_34_M nx35 Q E τ H) : vc Pr zqv_p34 τ (zqv_q16 nx35 Q E) E H :=
  (conv (B := vc Pr zqv_p34 τ (zqv_q16 nx35 Q E) E H) (by kernel_rfl) (vc_seq (K := (zqv_26_M nx35 Q E)) (zqv_40ok nx35 Q E τ H h) (zqv_28ok nx35 Q E)))

theorem zqv_42ok (nx35 : Int → HP) (Q : QT) (E : ET) (τ : Tau) (H : Heap) (h : zqv_34_M nx35 Q E τ H) : vc Pr zqv_p33 τ (zqv_q15 nx35 Q E) E H :=
  (conv (B := vc Pr zqv_p33 τ (zqv_q15 nx35 Q E) E H) (by kernel_rfl) (zqv_41ok nx35 Q E τ H h))

theorem zqv_43ok (nx35 : Int → HP) (Q : QT) (E : ET) (τ : Tau) (H : Heap) (h : zqv_34_M nx35 Q E τ H) : vc Pr zqv_p26 τ (zqv_q11 nx35 Q E) E H :=
  (conv (B := vc Pr zqv_p26 τ (zqv_q11 nx35 Q E) E H) (by kernel_rfl) (vc_seq (K := (zqv_17_M nx35 Q E)) (zqv_42ok nx35 Q E τ H h) (zqv_20ok nx35 Q E)))

theorem zqv_44ok (nx35 : Int → HP) (Q : QT) (E : ET) (τ : Tau) (H : Heap) (h : zqv_34_M nx35 Q E τ H) : vc Pr zqv_p25 τ (zqv_q10 nx35 Q E) E H :=
  (conv (B := vc Pr zqv_p25 τ (zqv_q10 nx35 Q E) E H) (by kernel_rfl) (zqv_43ok nx35 Q E τ H h))

theorem zqv_45ok (nx35 : Int → HP) (Q : QT) (E : ET) (τ : Tau) (H : Heap) (h : zqv_34_M nx35 Q E τ H) : vc Pr zqv_p23 τ (zqv_q9 nx35 Q E) E H :=
  (conv (B := vc Pr zqv_p23 τ (zqv_q9 nx35 Q E) E H) (by kernel_rfl) (vc_seq (K := (zqv_10_M nx35 Q E)) (zqv_44ok nx35 Q E τ H h) (zqv_11ok nx35 Q E)))

theorem zqv_46ok (nx35 : Int → HP) (Q : QT) (E : ET) (τ : Tau) (H : Heap) (h : zqv_34_M nx35 Q E τ H) : vc Pr zqv_p22 τ (zqv_q8 nx35 Q E) E H :=
  (conv (B := vc Pr zqv_p22 τ (zqv_q8 nx35 Q E) E H) (by kernel_rfl) (zqv_45ok nx35 Q E τ H h))

@[reducible] noncomputable def zqv_q26 (nx35 : Int → HP) (Q : QT) (E : ET) : Exit → Tau → Heap → Prop := (xthen (zqv_34_M nx35 Q E) (zqv_q8 nx35 Q E))

@[reducible] noncomputable def zqv_p49 : Code := sA zqv_p21

def zqv_47 (nx35 : Int → HP) (Q : QT) (E : ET) (x0 : OA) (l0 : Nat) (c0 : Nat) (x3 : OA) (l3 : Nat) (c3 : Nat) (x4 : Int) (x5 : OA) (x6 : Int) (x7 : Int) (x19 : OA) (l19 : Nat) (c19 : Nat) (x20 : Int) (x21 : Int) (H : Heap) : Prop :=
 ptr x5 fun q164 =>
 ldI .i64 q164 H fun n165 =>
 Does Pr 74 #[(.int .i64 n165)] H (fun v166 H167 =>
 ∃ n168 : Int, v166 = (.int .i64 n168) ∧ zqv_34 nx35 Q E x0 l0 c0 x3 l3 c3 x4 x5 x6 x7 x19 l19 c19 x20 x21 n168 H167) E

def zqv_47_M (nx35 : Int → HP) (Q : QT) (E : ET) (τ : Tau) (H : Heap) : Prop := mSl (τ 0) fun x0 l0 c0 => mSl (τ 3) fun x3 l3 c3 => mI .i64 (τ 4) fun x4 => mP (τ 5) fun x5 => mI .i64 (τ 6) fun x6 => mI .i64 (τ 7) fun x7 => mSl (τ 19) fun x19 l19 c19 => mI .i64 (τ 20) fun x20 => mI .i64 (τ 21) fun x21 => zqv_47 nx35 Q E x0 l0 c0 x3 l3 c3 x4 x5 x6 x7 x19 l19 c19 x20 x21 H

theorem zqv_48ok (nx35 : Int → HP) (Q : QT) (E : ET) (τ : Tau) (H : Heap) (h : zqv_47_M nx35 Q E τ H) : vc Pr zqv_p49 τ (zqv_q26 nx35 Q E) E H :=
  vSl (i := 0) h (fun x0 l0 c0 h => vSl (i := 3) h (fun x3 l3 c3 h => vI (i := 4) h (fun x4 h => vP (i := 5) h (fun x5 h => vI (i := 6) h (fun x6 h => vI (i := 7) h (fun x7 h => vSl (i := 19) h (fun x19 l19 c19 h => vI (i := 20) h (fun x20 h => vI (i := 21) h (fun x21 h => (conv (by kernel_rfl) h))))))))))

theorem zqv_49ok (nx35 : Int → HP) (Q : QT) (E : ET) (τ : Tau) (H : Heap) (h : zqv_47_M nx35 Q E τ H) : vc Pr zqv_p21 τ (zqv_q8 nx35 Q E) E H :=
  (conv (B := vc Pr zqv_p21 τ (zqv_q8 nx35 Q E) E H) (by kernel_rfl) (vc_seq (K := (zqv_34_M nx35 Q E)) (zqv_48ok nx35 Q E τ H h) (zqv_46ok nx35 Q E)))

theorem zqv_50ok (nx35 : Int → HP) (Q : QT) (E : ET) (τ : Tau) (H : Heap) (h : zqv_47_M nx35 Q E τ H) : vc Pr zqv_p17 τ (zqv_q6 nx35 Q E) E H :=
  (conv (B := vc Pr zqv_p17 τ (zqv_q6 nx35 Q E) E H) (by kernel_rfl) (vc_seq (K := (zqv_7_M nx35 Q E)) (zqv_49ok nx35 Q E τ H h) (zqv_9ok nx35 Q E)))

@[reducible] noncomputable def zqv_q27 (nx35 : Int → HP) (Q : QT) (E : ET) : Exit → Tau → Heap → Prop := (xthen (zqv_47_M nx35 Q E) (zqv_q6 nx35 Q E))

@[reducible] noncomputable def zqv_p50 : Code := sA zqv_p16

def zqv_51 (nx35 : Int → HP) (Q : QT) (E : ET) (x0 : OA) (l0 : Nat) (c0 : Nat) (x3 : OA) (l3 : Nat) (c3 : Nat) (x4 : Int) (x5 : OA) (x6 : Int) (x7 : Int) (x19 : OA) (l19 : Nat) (c19 : Nat) (x20 : Int) (x21 : Int) (H : Heap) : Prop :=
 (0 ≤ (x4 : Int) ∧ (x4 : Int) < ((l3 : Nat) : Int)) ∧ ptr x3 fun q169 =>
 wr (Addr.add q169 ((x4 : Int).toNat * 1)) [(.int .i64 1)] H fun H170 =>
 zqv_47 nx35 Q E x0 l0 c0 x3 l3 c3 x4 x5 x6 x7 x19 l19 c19 x20 x21 H170

def zqv_51_M (nx35 : Int → HP) (Q : QT) (E : ET) (τ : Tau) (H : Heap) : Prop := mSl (τ 0) fun x0 l0 c0 => mSl (τ 3) fun x3 l3 c3 => mI .i64 (τ 4) fun x4 => mP (τ 5) fun x5 => mI .i64 (τ 6) fun x6 => mI .i64 (τ 7) fun x7 => mSl (τ 19) fun x19 l19 c19 => mI .i64 (τ 20) fun x20 => mI .i64 (τ 21) fun x21 => zqv_51 nx35 Q E x0 l0 c0 x3 l3 c3 x4 x5 x6 x7 x19 l19 c19 x20 x21 H

theorem zqv_52ok (nx35 : Int → HP) (Q : QT) (E : ET) (τ : Tau) (H : Heap) (h : zqv_51_M nx35 Q E τ H) : vc Pr zqv_p50 τ (zqv_q27 nx35 Q E) E H :=
  vSl (i := 0) h (fun x0 l0 c0 h => vSl (i := 3) h (fun x3 l3 c3 h => vI (i := 4) h (fun x4 h => vP (i := 5) h (fun x5 h => vI (i := 6) h (fun x6 h => vI (i := 7) h (fun x7 h => vSl (i := 19) h (fun x19 l19 c19 h => vI (i := 20) h (fun x20 h => vI (i := 21) h (fun x21 h => (conv (by kernel_rfl) h))))))))))

theorem zqv_53ok (nx35 : Int → HP) (Q : QT) (E : ET) (τ : Tau) (H : Heap) (h : zqv_51_M nx35 Q E τ H) : vc Pr zqv_p16 τ (zqv_q6 nx35 Q E) E H :=
  (conv (B := vc Pr zqv_p16 τ (zqv_q6 nx35 Q E) E H) (by kernel_rfl) (vc_seq (K := (zqv_47_M nx35 Q E)) (zqv_52ok nx35 Q E τ H h) (zqv_50ok nx35 Q E)))

@[reducible] noncomputable def zqv_q28 (nx35 : Int → HP) (Q : QT) (E : ET) : Exit → Tau → Heap → Prop := (xthen (zqv_51_M nx35 Q E) (zqv_q6 nx35 Q E))

@[reducible] noncomputable def zqv_p51 : Code := sA zqv_p15

def zqv_54 (nx35 : Int → HP) (Q : QT) (E : ET) (x0 : OA) (l0 : Nat) (c0 : Nat) (x3 : OA) (l3 : Nat) (c3 : Nat) (x4 : Int) (x5 : OA) (x19 : OA) (l19 : Nat) (c19 : Nat) (x20 : Int) (x21 : Int) (H : Heap) : Prop :=
 zqv_51 nx35 Q E x0 l0 c0 x3 l3 c3 x4 x5 0 0 x19 l19 c19 x20 x21 H

def zqv_54_M (nx35 : Int → HP) (Q : QT) (E : ET) (τ : Tau) (H : Heap) : Prop := mSl (τ 0) fun x0 l0 c0 => mSl (τ 3) fun x3 l3 c3 => mI .i64 (τ 4) fun x4 => mP (τ 5) fun x5 => mSl (τ 19) fun x19 l19 c19 => mI .i64 (τ 20) fun x20 => mI .i64 (τ 21) fun x21 => zqv_54 nx35 Q E x0 l0 c0 x3 l3 c3 x4 x5 x19 l19 c19 x20 x21 H

theorem zqv_55ok (nx35 : Int → HP) (Q : QT) (E : ET) (τ : Tau) (H : Heap) (h : zqv_54_M nx35 Q E τ H) : vc Pr zqv_p51 τ (zqv_q28 nx35 Q E) E H :=
  vSl (i := 0) h (fun x0 l0 c0 h => vSl (i := 3) h (fun x3 l3 c3 h => vI (i := 4) h (fun x4 h => vP (i := 5) h (fun x5 h => vSl (i := 19) h (fun x19 l19 c19 h => vI (i := 20) h (fun x20 h => vI (i := 21) h (fun x21 h => (conv (by kernel_rfl) h))))))))

theorem zqv_56ok (nx35 : Int → HP) (Q : QT) (E : ET) (τ : Tau) (H : Heap) (h : zqv_54_M nx35 Q E τ H) : vc Pr zqv_p15 τ (zqv_q6 nx35 Q E) E H :=
  (conv (B := vc Pr zqv_p15 τ (zqv_q6 nx35 Q E) E H) (by kernel_rfl) (vc_seq (K := (zqv_51_M nx35 Q E)) (zqv_55ok nx35 Q E τ H h) (zqv_53ok nx35 Q E)))

@[reducible] noncomputable def zqv_q29 (nx35 : Int → HP) (Q : QT) (E : ET) : Exit → Tau → Heap → Prop := (xthen (zqv_54_M nx35 Q E) (zqv_q6 nx35 Q E))

@[reducible] noncomputable def zqv_p52 : Code := sA zqv_p14

@[reducible] noncomputable def zqv_p53 : Code := sB zqv_p52

def zqv_57 (nx35 : Int → HP) (Q : QT) (E : ET) (x0 : OA) (l0 : Nat) (c0 : Nat) (x3 : OA) (l3 : Nat) (c3 : Nat) (x4 : Int) (x5 : OA) (x19 : OA) (l19 : Nat) (c19 : Nat) (x20 : Int) (x21 : Int) (x34 : Bool) (H : Heap) : Prop :=
 sel x34
 (Q (.bool false) H)
 (zqv_54 nx35 Q E x0 l0 c0 x3 l3 c3 x4 x5 x19 l19 c19 x20 x21 H)

def zqv_57_M (nx35 : Int → HP) (Q : QT) (E : ET) (τ : Tau) (H : Heap) : Prop := mSl (τ 0) fun x0 l0 c0 => mSl (τ 3) fun x3 l3 c3 => mI .i64 (τ 4) fun x4 => mP (τ 5) fun x5 => mSl (τ 19) fun x19 l19 c19 => mI .i64 (τ 20) fun x20 => mI .i64 (τ 21) fun x21 => mB (τ 34) fun x34 => zqv_57 nx35 Q E x0 l0 c0 x3 l3 c3 x4 x5 x19 l19 c19 x20 x21 x34 H

theorem zqv_58ok (nx35 : Int → HP) (Q : QT) (E : ET) (τ : Tau) (H : Heap) (h : zqv_57_M nx35 Q E τ H) : vc Pr zqv_p53 τ (zqv_q29 nx35 Q E) E H :=
  vSl (i := 0) h (fun x0 l0 c0 h => vSl (i := 3) h (fun x3 l3 c3 h => vI (i := 4) h (fun x4 h => vP (i := 5) h (fun x5 h => vSl (i := 19) h (fun x19 l19 c19 h => vI (i := 20) h (fun x20 h => vI (i := 21) h (fun x21 h => vB (i := 34) h (fun x34 h => (conv (by kernel_rfl) h)))))))))

@[reducible] noncomputable def zqv_q30 (nx35 : Int → HP) (Q : QT) (E : ET) : Exit → Tau → Heap → Prop := (xthen (zqv_57_M nx35 Q E) (zqv_q29 nx35 Q E))

@[reducible] noncomputable def zqv_p54 : Code := sA zqv_p52

def zqv_59 (nx35 : Int → HP) (Q : QT) (E : ET) (x0 : OA) (l0 : Nat) (c0 : Nat) (x3 : OA) (l3 : Nat) (c3 : Nat) (x4 : Int) (x5 : OA) (x19 : OA) (l19 : Nat) (c19 : Nat) (x20 : Int) (x21 : Int) (H : Heap) : Prop :=
 ptr x5 fun q176 =>
 ldI .i64 q176 H fun n177 =>
 sel ((n177 : Int) != 2)
 (ptr x5 fun q178 =>
 ∃ n179 n180 n181 n182 : Int, Heap.rd H (Addr.add q178 3) 0 [(.int .u64 n179), (.int .u64 n180), (.int .u64 n181), (.int .u64 n182)] ∧ zqv_57 nx35 Q E x0 l0 c0 x3 l3 c3 x4 x5 x19 l19 c19 x20 x21 (!(eqVs [(.int .u64 n179), (.int .u64 n180), (.int .u64 n181), (.int .u64 n182)] [(.int .u64 0), (.int .u64 0), (.int .u64 0), (.int .u64 0)])) H)
 (zqv_57 nx35 Q E x0 l0 c0 x3 l3 c3 x4 x5 x19 l19 c19 x20 x21 false H)

def zqv_59_M (nx35 : Int → HP) (Q : QT) (E : ET) (τ : Tau) (H : Heap) : Prop := mSl (τ 0) fun x0 l0 c0 => mSl (τ 3) fun x3 l3 c3 => mI .i64 (τ 4) fun x4 => mP (τ 5) fun x5 => mSl (τ 19) fun x19 l19 c19 => mI .i64 (τ 20) fun x20 => mI .i64 (τ 21) fun x21 => zqv_59 nx35 Q E x0 l0 c0 x3 l3 c3 x4 x5 x19 l19 c19 x20 x21 H

theorem zqv_60ok (nx35 : Int → HP) (Q : QT) (E : ET) (τ : Tau) (H : Heap) (h : zqv_59_M nx35 Q E τ H) : vc Pr zqv_p54 τ (zqv_q30 nx35 Q E) E H :=
  vSl (i := 0) h (fun x0 l0 c0 h => vSl (i := 3) h (fun x3 l3 c3 h => vI (i := 4) h (fun x4 h => vP (i := 5) h (fun x5 h => vSl (i := 19) h (fun x19 l19 c19 h => vI (i := 20) h (fun x20 h => vI (i := 21) h (fun x21 h => (conv (by kernel_rfl) h))))))))

theorem zqv_61ok (nx35 : Int → HP) (Q : QT) (E : ET) (τ : Tau) (H : Heap) (h : zqv_59_M nx35 Q E τ H) : vc Pr zqv_p52 τ (zqv_q29 nx35 Q E) E H :=
  (conv (B := vc Pr zqv_p52 τ (zqv_q29 nx35 Q E) E H) (by kernel_rfl) (vc_seq (K := (zqv_57_M nx35 Q E)) (zqv_60ok nx35 Q E τ H h) (zqv_58ok nx35 Q E)))

theorem zqv_62ok (nx35 : Int → HP) (Q : QT) (E : ET) (τ : Tau) (H : Heap) (h : zqv_59_M nx35 Q E τ H) : vc Pr zqv_p14 τ (zqv_q6 nx35 Q E) E H :=
  (conv (B := vc Pr zqv_p14 τ (zqv_q6 nx35 Q E) E H) (by kernel_rfl) (vc_seq (K := (zqv_54_M nx35 Q E)) (zqv_61ok nx35 Q E τ H h) (zqv_56ok nx35 Q E)))

@[reducible] noncomputable def zqv_q31 (nx35 : Int → HP) (Q : QT) (E : ET) : Exit → Tau → Heap → Prop := (xthen (zqv_59_M nx35 Q E) (zqv_q6 nx35 Q E))

@[reducible] noncomputable def zqv_p55 : Code := sA zqv_p13

def zqv_63 (nx35 : Int → HP) (Q : QT) (E : ET) (x0 : OA) (l0 : Nat) (c0 : Nat) (x3 : OA) (l3 : Nat) (c3 : Nat) (x19 : OA) (l19 : Nat) (c19 : Nat) (x20 : Int) (x21 : Int) (H : Heap) : Prop :=
 (0 ≤ (x21 : Int) ∧ (x21 : Int) < ((l19 : Nat) : Int)) ∧ ptr x19 fun q183 =>
 ∃ n184 n185 n186 n187 n188 n189 n190 : Int, Heap.rd H (Addr.add q183 ((x21 : Int).toNat * 7)) 0 [(.int .i64 n184), (.int .i64 n185), (.int .i64 n186), (.int .u64 n187), (.int .u64 n188), (.int .u64 n189), (.int .u64 n190)] ∧ nw (.cells #[(.int .i64 0), (.int .i64 0), (.int .i64 0), (.int .u64 0), (.int .u64 0), (.int .u64 0), (.int .u64 0)] 48 (0, 0)) H fun i191 H192 =>
 wr ⟨i191, 0, none⟩ [(.int .i64 n184), (.int .i64 n185), (.int .i64 n186), (.int .u64 n187), (.int .u64 n188), (.int .u64 n189), (.int .u64 n190)] H192 fun H193 =>
 zqv_59 nx35 Q E x0 l0 c0 x3 l3 c3 x21 (some ⟨i191, 0, none⟩) x19 l19 c19 x20 x21 H193

def zqv_63_M (nx35 : Int → HP) (Q : QT) (E : ET) (τ : Tau) (H : Heap) : Prop := mSl (τ 0) fun x0 l0 c0 => mSl (τ 3) fun x3 l3 c3 => mSl (τ 19) fun x19 l19 c19 => mI .i64 (τ 20) fun x20 => mI .i64 (τ 21) fun x21 => zqv_63 nx35 Q E x0 l0 c0 x3 l3 c3 x19 l19 c19 x20 x21 H

theorem zqv_64ok (nx35 : Int → HP) (Q : QT) (E : ET) (τ : Tau) (H : Heap) (h : zqv_63_M nx35 Q E τ H) : vc Pr zqv_p55 τ (zqv_q31 nx35 Q E) E H :=
  vSl (i := 0) h (fun x0 l0 c0 h => vSl (i := 3) h (fun x3 l3 c3 h => vSl (i := 19) h (fun x19 l19 c19 h => vI (i := 20) h (fun x20 h => vI (i := 21) h (fun x21 h => (conv (by kernel_rfl) h))))))

theorem zqv_65ok (nx35 : Int → HP) (Q : QT) (E : ET) (τ : Tau) (H : Heap) (h : zqv_63_M nx35 Q E τ H) : vc Pr zqv_p13 τ (zqv_q6 nx35 Q E) E H :=
  (conv (B := vc Pr zqv_p13 τ (zqv_q6 nx35 Q E) E H) (by kernel_rfl) (vc_seq (K := (zqv_59_M nx35 Q E)) (zqv_64ok nx35 Q E τ H h) (zqv_62ok nx35 Q E)))

theorem zqv_66ok (nx35 : Int → HP) (Q : QT) (E : ET) (τ : Tau) (H : Heap) (h : zqv_63_M nx35 Q E τ H) : vc Pr zqv_p12 τ (zqv_q5 nx35 Q E) E H :=
  (conv (B := vc Pr zqv_p12 τ (zqv_q5 nx35 Q E) E H) (by kernel_rfl) (zqv_65ok nx35 Q E τ H h))

theorem zqv_67ok (nx35 : Int → HP) (Q : QT) (E : ET) (τ : Tau) (H : Heap) (h : zqv_63_M nx35 Q E τ H) : vc Pr zqv_p10 τ (zqv_q4 nx35 Q E) E H :=
  (conv (B := vc Pr zqv_p10 τ (zqv_q4 nx35 Q E) E H) (by kernel_rfl) (vc_seq (K := (zqv_3_M nx35 Q E)) (zqv_66ok nx35 Q E τ H h) (zqv_4ok nx35 Q E)))

@[reducible] noncomputable def zqv_q32 (nx35 : Int → HP) (Q : QT) (E : ET) : Exit → Tau → Heap → Prop := (xthen (zqv_63_M nx35 Q E) (zqv_q4 nx35 Q E))

@[reducible] noncomputable def zqv_p56 : Code := sA zqv_p9

def zqv_68 (nx35 : Int → HP) (Q : QT) (E : ET) (x0 : OA) (l0 : Nat) (c0 : Nat) (x3 : OA) (l3 : Nat) (c3 : Nat) (x19 : OA) (l19 : Nat) (c19 : Nat) (x20 : Int) (x21 : Int) (x22 : Bool) (H : Heap) : Prop :=
 sel x22
 (zqv_63 nx35 Q E x0 l0 c0 x3 l3 c3 x19 l19 c19 x20 x21 H)
 (zqv_1 Q E x0 l0 c0 x3 l3 c3 H)

def zqv_68_M (nx35 : Int → HP) (Q : QT) (E : ET) (τ : Tau) (H : Heap) : Prop := mSl (τ 0) fun x0 l0 c0 => mSl (τ 3) fun x3 l3 c3 => mSl (τ 19) fun x19 l19 c19 => mI .i64 (τ 20) fun x20 => mI .i64 (τ 21) fun x21 => mB (τ 22) fun x22 => zqv_68 nx35 Q E x0 l0 c0 x3 l3 c3 x19 l19 c19 x20 x21 x22 H

theorem zqv_69ok (nx35 : Int → HP) (Q : QT) (E : ET) (τ : Tau) (H : Heap) (h : zqv_68_M nx35 Q E τ H) : vc Pr zqv_p56 τ (zqv_q32 nx35 Q E) E H :=
  vSl (i := 0) h (fun x0 l0 c0 h => vSl (i := 3) h (fun x3 l3 c3 h => vSl (i := 19) h (fun x19 l19 c19 h => vI (i := 20) h (fun x20 h => vI (i := 21) h (fun x21 h => vB (i := 22) h (fun x22 h => (conv (by kernel_rfl) h)))))))

theorem zqv_70ok (nx35 : Int → HP) (Q : QT) (E : ET) (τ : Tau) (H : Heap) (h : zqv_68_M nx35 Q E τ H) : vc Pr zqv_p9 τ (zqv_q4 nx35 Q E) E H :=
  (conv (B := vc Pr zqv_p9 τ (zqv_q4 nx35 Q E) E H) (by kernel_rfl) (vc_seq (K := (zqv_63_M nx35 Q E)) (zqv_69ok nx35 Q E τ H h) (zqv_67ok nx35 Q E)))

@[reducible] noncomputable def zqv_q33 (nx35 : Int → HP) (Q : QT) (E : ET) : Exit → Tau → Heap → Prop := (xthen (zqv_68_M nx35 Q E) (zqv_q4 nx35 Q E))

@[reducible] noncomputable def zqv_p57 : Code := sA zqv_p8

def zqv_71 (nx35 : Int → HP) (Q : QT) (E : ET) (x0 : OA) (l0 : Nat) (c0 : Nat) (x3 : OA) (l3 : Nat) (c3 : Nat) (x19 : OA) (l19 : Nat) (c19 : Nat) (x20 : Int) (x21 : Int) (H : Heap) : Prop :=
 zqv_68 nx35 Q E x0 l0 c0 x3 l3 c3 x19 l19 c19 x20 x21 (decide ((x21 : Int) < x20)) H

def zqv_71_M (nx35 : Int → HP) (Q : QT) (E : ET) (τ : Tau) (H : Heap) : Prop := mSl (τ 0) fun x0 l0 c0 => mSl (τ 3) fun x3 l3 c3 => mSl (τ 19) fun x19 l19 c19 => mI .i64 (τ 20) fun x20 => mI .i64 (τ 21) fun x21 => zqv_71 nx35 Q E x0 l0 c0 x3 l3 c3 x19 l19 c19 x20 x21 H

theorem zqv_72ok (nx35 : Int → HP) (Q : QT) (E : ET) (τ : Tau) (H : Heap) (h : zqv_71_M nx35 Q E τ H) : vc Pr zqv_p57 τ (zqv_q33 nx35 Q E) E H :=
  vSl (i := 0) h (fun x0 l0 c0 h => vSl (i := 3) h (fun x3 l3 c3 h => vSl (i := 19) h (fun x19 l19 c19 h => vI (i := 20) h (fun x20 h => vI (i := 21) h (fun x21 h => (conv (by kernel_rfl) h))))))

theorem zqv_73ok (nx35 : Int → HP) (Q : QT) (E : ET) (τ : Tau) (H : Heap) (h : zqv_71_M nx35 Q E τ H) : vc Pr zqv_p8 τ (zqv_q4 nx35 Q E) E H :=
  (conv (B := vc Pr zqv_p8 τ (zqv_q4 nx35 Q E) E H) (by kernel_rfl) (vc_seq (K := (zqv_68_M nx35 Q E)) (zqv_72ok nx35 Q E τ H h) (zqv_70ok nx35 Q E)))

def zqv_74 (Q : QT) (E : ET) (x0 : OA) (l0 : Nat) (c0 : Nat) (x3 : OA) (l3 : Nat) (c3 : Nat) (x19 : OA) (l19 : Nat) (c19 : Nat) (x20 : Int) (x21 : Int) (H : Heap) : Prop :=
 ∃ (I : Int → HP) (μ : Int → Heap → Nat), I x21 H ∧ ∀ (x21 : Int) (H : Heap), I x21 H →
 zqv_71 (fun x21' H1 => I x21' H1 ∧ μ x21' H1 < μ x21 H) Q E x0 l0 c0 x3 l3 c3 x19 l19 c19 x20 x21 H

def zqv_74_M (Q : QT) (E : ET) (τ : Tau) (H : Heap) : Prop := mSl (τ 0) fun x0 l0 c0 => mSl (τ 3) fun x3 l3 c3 => mSl (τ 19) fun x19 l19 c19 => mI .i64 (τ 20) fun x20 => mI .i64 (τ 21) fun x21 => zqv_74 Q E x0 l0 c0 x3 l3 c3 x19 l19 c19 x20 x21 H

theorem zqv_75ok (Q : QT) (E : ET) (τ : Tau) (H : Heap) (h : zqv_74_M Q E τ H) : vc Pr zqv_p7 τ (zqv_q3 Q E) E H :=
  vSl (i := 0) h (fun x0 l0 c0 h => vSl (i := 3) h (fun x3 l3 c3 h => vSl (i := 19) h (fun x19 l19 c19 h => vI (i := 20) h (fun x20 h => vI (i := 21) h (fun x21 h => match h with | ⟨I, μ, h0, hr⟩ => (conv (B := vc Pr zqv_p7 (Tau.upd (Tau.upd (Tau.upd (Tau.upd (Tau.upd τ 0 (.slice x0 l0 c0)) 3 (.slice x3 l3 c3)) 19 (.slice x19 l19 c19)) 20 (.int .i64 x20)) 21 (.int .i64 x21)) (zqv_q3 Q E) E H) (by kernel_rfl) (vc_loop (c := sI zqv_p7) (τ := (Tau.upd (Tau.upd (Tau.upd (Tau.upd (Tau.upd τ 0 (.slice x0 l0 c0)) 3 (.slice x3 l3 c3)) 19 (.slice x19 l19 c19)) 20 (.int .i64 x20)) 21 (.int .i64 x21))) [0, 3, 19, 20] (fun τ H => mI .i64 (τ 21) fun x21' => I x21' H) (fun τ H => μ (gI (τ 21)) H) (by kernel_rfl) h0 (fun τ1 H1 hf hI => fix_elim (τ := τ1) (i := 0) (v := (.slice x0 l0 c0)) (G := fun τ => vc Pr (sI zqv_p7) τ (xthen (fun τ2 H2 => (mI .i64 (τ2 21) fun x21' => I x21' H2) ∧ μ (gI (τ2 21)) H2 < μ (gI (τ 21)) H1) (zqv_q3 Q E)) E H1) (hf 0 (by simp)) (fix_elim (τ := (Tau.upd τ1 0 (.slice x0 l0 c0))) (i := 3) (v := (.slice x3 l3 c3)) (G := fun τ => vc Pr (sI zqv_p7) τ (xthen (fun τ2 H2 => (mI .i64 (τ2 21) fun x21' => I x21' H2) ∧ μ (gI (τ2 21)) H2 < μ (gI (τ 21)) H1) (zqv_q3 Q E)) E H1) (hf 3 (by simp)) (fix_elim (τ := (Tau.upd (Tau.upd τ1 0 (.slice x0 l0 c0)) 3 (.slice x3 l3 c3))) (i := 19) (v := (.slice x19 l19 c19)) (G := fun τ => vc Pr (sI zqv_p7) τ (xthen (fun τ2 H2 => (mI .i64 (τ2 21) fun x21' => I x21' H2) ∧ μ (gI (τ2 21)) H2 < μ (gI (τ 21)) H1) (zqv_q3 Q E)) E H1) (hf 19 (by simp)) (fix_elim (τ := (Tau.upd (Tau.upd (Tau.upd τ1 0 (.slice x0 l0 c0)) 3 (.slice x3 l3 c3)) 19 (.slice x19 l19 c19))) (i := 20) (v := (.int .i64 x20)) (G := fun τ => vc Pr (sI zqv_p7) τ (xthen (fun τ2 H2 => (mI .i64 (τ2 21) fun x21' => I x21' H2) ∧ μ (gI (τ2 21)) H2 < μ (gI (τ 21)) H1) (zqv_q3 Q E)) E H1) (hf 20 (by simp)) (mI_elim (i := 21) (G := fun τ => vc Pr (sI zqv_p7) τ (xthen (fun τ2 H2 => (mI .i64 (τ2 21) fun x21' => I x21' H2) ∧ μ (gI (τ2 21)) H2 < μ (gI (τ 21)) H1) (zqv_q3 Q E)) E H1) hI (fun x21r h => (conv (B := vc Pr (sI zqv_p7) (Tau.upd (Tau.upd (Tau.upd (Tau.upd (Tau.upd τ1 0 (.slice x0 l0 c0)) 3 (.slice x3 l3 c3)) 19 (.slice x19 l19 c19)) 20 (.int .i64 x20)) 21 (.int .i64 x21r)) (xthen (fun τ2 H2 => (mI .i64 (τ2 21) fun x21' => I x21' H2) ∧ μ (gI (τ2 21)) H2 < μ (gI ((Tau.upd (Tau.upd (Tau.upd (Tau.upd (Tau.upd τ1 0 (.slice x0 l0 c0)) 3 (.slice x3 l3 c3)) 19 (.slice x19 l19 c19)) 20 (.int .i64 x20)) 21 (.int .i64 x21r)) 21)) H1) (zqv_q3 Q E)) E H1) (by kernel_rfl) (vc_xthen (zqv_73ok (fun x21' H2 => I x21' H2 ∧ μ x21' H2 < μ x21r H1) Q E (Tau.upd (Tau.upd (Tau.upd (Tau.upd (Tau.upd τ1 0 (.slice x0 l0 c0)) 3 (.slice x3 l3 c3)) 19 (.slice x19 l19 c19)) 20 (.int .i64 x20)) 21 (.int .i64 x21r)) H1 (conv (B := zqv_71_M (fun x21' H2 => I x21' H2 ∧ μ x21' H2 < μ x21r H1) Q E (Tau.upd (Tau.upd (Tau.upd (Tau.upd (Tau.upd τ1 0 (.slice x0 l0 c0)) 3 (.slice x3 l3 c3)) 19 (.slice x19 l19 c19)) 20 (.int .i64 x20)) 21 (.int .i64 x21r)) H1) (by kernel_rfl) (hr x21r H1 h))) (fun τ2 H2 hk => mI_elim (i := 21) (G := fun τ => (mI .i64 (τ 21) fun x21' => I x21' H2) ∧ μ (gI (τ 21)) H2 < μ x21r H1) hk (fun x21' h => h)))))))))))))))))

theorem zqv_76ok (Q : QT) (E : ET) (τ : Tau) (H : Heap) (h : zqv_74_M Q E τ H) : vc Pr zqv_p6 τ (zqv_q2 Q E) E H :=
  (conv (B := vc Pr zqv_p6 τ (zqv_q2 Q E) E H) (by kernel_rfl) (zqv_75ok Q E τ H h))

@[reducible] noncomputable def zqv_q34 (Q : QT) (E : ET) : Exit → Tau → Heap → Prop := (xthen (zqv_74_M Q E) (zqv_q2 Q E))

@[reducible] noncomputable def zqv_p58 : Code := sA zqv_p5

def zqv_77 (Q : QT) (E : ET) (x0 : OA) (l0 : Nat) (c0 : Nat) (x3 : OA) (l3 : Nat) (c3 : Nat) (H : Heap) : Prop :=
 zqv_74 Q E x0 l0 c0 x3 l3 c3 x0 l0 c0 ((l0 : Nat) : Int) 0 H

def zqv_77_M (Q : QT) (E : ET) (τ : Tau) (H : Heap) : Prop := mSl (τ 0) fun x0 l0 c0 => mSl (τ 3) fun x3 l3 c3 => zqv_77 Q E x0 l0 c0 x3 l3 c3 H

theorem zqv_78ok (Q : QT) (E : ET) (τ : Tau) (H : Heap) (h : zqv_77_M Q E τ H) : vc Pr zqv_p58 τ (zqv_q34 Q E) E H :=
  vSl (i := 0) h (fun x0 l0 c0 h => vSl (i := 3) h (fun x3 l3 c3 h => (conv (by kernel_rfl) h)))

theorem zqv_79ok (Q : QT) (E : ET) (τ : Tau) (H : Heap) (h : zqv_77_M Q E τ H) : vc Pr zqv_p5 τ (zqv_q2 Q E) E H :=
  (conv (B := vc Pr zqv_p5 τ (zqv_q2 Q E) E H) (by kernel_rfl) (vc_seq (K := (zqv_74_M Q E)) (zqv_78ok Q E τ H h) (zqv_76ok Q E)))

theorem zqv_80ok (Q : QT) (E : ET) (τ : Tau) (H : Heap) (h : zqv_77_M Q E τ H) : vc Pr zqv_p3 τ (zqv_q1 Q E) E H :=
  (conv (B := vc Pr zqv_p3 τ (zqv_q1 Q E) E H) (by kernel_rfl) (vc_seq (K := (zqv_1_M Q E)) (zqv_79ok Q E τ H h) (zqv_2ok Q E)))

@[reducible] noncomputable def zqv_q35 (Q : QT) (E : ET) : Exit → Tau → Heap → Prop := (xthen (zqv_77_M Q E) (zqv_q1 Q E))

@[reducible] noncomputable def zqv_p59 : Code := sA zqv_p2

def zqv_81 (Q : QT) (E : ET) (x0 : OA) (l0 : Nat) (c0 : Nat) (H : Heap) : Prop :=
 (0 ≤ (((l0 : Nat) : Int) : Int) ∧ (((l0 : Nat) : Int) : Int) ≤ ((l0 : Nat) : Int) ∧ (((l0 : Nat) : Int) : Int) ≤ 281474976710656 ∧ ((8 : Nat) : Int) * ((l0 : Nat) : Int) ≤ 281474976710656) ∧ nw (.cells (rep (((l0 : Nat) : Int) : Int).toNat [(.int .i64 0)]).toArray 3 (0, 0)) H fun i194 H195 =>
 zqv_77 Q E x0 l0 c0 (some ⟨i194, 0, none⟩) ((((l0 : Nat) : Int) : Int).toNat) ((((l0 : Nat) : Int) : Int).toNat) H195

def zqv_81_M (Q : QT) (E : ET) (τ : Tau) (H : Heap) : Prop := mSl (τ 0) fun x0 l0 c0 => zqv_81 Q E x0 l0 c0 H

theorem zqv_82ok (Q : QT) (E : ET) (τ : Tau) (H : Heap) (h : zqv_81_M Q E τ H) : vc Pr zqv_p59 τ (zqv_q35 Q E) E H :=
  vSl (i := 0) h (fun x0 l0 c0 h => (conv (by kernel_rfl) h))

theorem zqv_83ok (Q : QT) (E : ET) (τ : Tau) (H : Heap) (h : zqv_81_M Q E τ H) : vc Pr zqv_p2 τ (zqv_q1 Q E) E H :=
  (conv (B := vc Pr zqv_p2 τ (zqv_q1 Q E) E H) (by kernel_rfl) (vc_seq (K := (zqv_77_M Q E)) (zqv_82ok Q E τ H h) (zqv_80ok Q E)))

@[reducible] noncomputable def zqv_q36 (Q : QT) (E : ET) : Exit → Tau → Heap → Prop := (xthen (zqv_81_M Q E) (zqv_q1 Q E))

@[reducible] noncomputable def zqv_p60 : Code := sA zqv_p1

@[reducible] noncomputable def zqv_p61 : Code := sB zqv_p60

def zqv_84 (Q : QT) (E : ET) (x0 : OA) (l0 : Nat) (c0 : Nat) (x15 : Bool) (H : Heap) : Prop :=
 sel x15
 (Q (.bool false) H)
 (zqv_81 Q E x0 l0 c0 H)

def zqv_84_M (Q : QT) (E : ET) (τ : Tau) (H : Heap) : Prop := mSl (τ 0) fun x0 l0 c0 => mB (τ 15) fun x15 => zqv_84 Q E x0 l0 c0 x15 H

theorem zqv_85ok (Q : QT) (E : ET) (τ : Tau) (H : Heap) (h : zqv_84_M Q E τ H) : vc Pr zqv_p61 τ (zqv_q36 Q E) E H :=
  vSl (i := 0) h (fun x0 l0 c0 h => vB (i := 15) h (fun x15 h => (conv (by kernel_rfl) h)))

@[reducible] noncomputable def zqv_q37 (Q : QT) (E : ET) : Exit → Tau → Heap → Prop := (xthen (zqv_84_M Q E) (zqv_q36 Q E))

@[reducible] noncomputable def zqv_p62 : Code := sA zqv_p60

def zqv_86 (Q : QT) (E : ET) (x0 : OA) (l0 : Nat) (c0 : Nat) (H : Heap) : Prop :=
 sel ((((l0 : Nat) : Int) : Int) == 0)
 (zqv_84 Q E x0 l0 c0 true H)
 (zqv_84 Q E x0 l0 c0 (decide ((((l0 : Nat) : Int) : Int) > 256)) H)

def zqv_86_M (Q : QT) (E : ET) (τ : Tau) (H : Heap) : Prop := mSl (τ 0) fun x0 l0 c0 => zqv_86 Q E x0 l0 c0 H

theorem zqv_87ok (Q : QT) (E : ET) (τ : Tau) (H : Heap) (h : zqv_86_M Q E τ H) : vc Pr zqv_p62 τ (zqv_q37 Q E) E H :=
  vSl (i := 0) h (fun x0 l0 c0 h => (conv (by kernel_rfl) h))

theorem zqv_88ok (Q : QT) (E : ET) (τ : Tau) (H : Heap) (h : zqv_86_M Q E τ H) : vc Pr zqv_p60 τ (zqv_q36 Q E) E H :=
  (conv (B := vc Pr zqv_p60 τ (zqv_q36 Q E) E H) (by kernel_rfl) (vc_seq (K := (zqv_84_M Q E)) (zqv_87ok Q E τ H h) (zqv_85ok Q E)))

theorem zqv_89ok (Q : QT) (E : ET) (τ : Tau) (H : Heap) (h : zqv_86_M Q E τ H) : vc Pr zqv_p1 τ (zqv_q1 Q E) E H :=
  (conv (B := vc Pr zqv_p1 τ (zqv_q1 Q E) E H) (by kernel_rfl) (vc_seq (K := (zqv_81_M Q E)) (zqv_88ok Q E τ H h) (zqv_83ok Q E)))

@[reducible] noncomputable def zqv_q38 (Q : QT) (E : ET) : Exit → Tau → Heap → Prop := (xthen (zqv_86_M Q E) (zqv_q1 Q E))

@[reducible] noncomputable def zqv_p63 : Code := sA zqv_p0

def zqv (Q : QT) (E : ET) (a0 : OA) (a0l : Nat) (a0c : Nat) (H : Heap) : Prop :=
 zqv_86 Q E a0 a0l a0c H

theorem zqv_fn (a0 : OA) (a0l : Nat) (a0c : Nat) (Q : QT) (E : ET) (H : Heap) (h : zqv Q E a0 a0l a0c H)   : Does Pr 40 #[(.slice a0 a0l a0c)] H Q E :=
  Fn_of_vc (fn := Try.f40) (c := zqv_p0) (args := [(.slice a0 a0l a0c)]) mixed (by kernel_rfl) (by kernel_rfl) (by kernel_rfl) (by kernel_rfl) (by kernel_rfl) ((conv (B := vc Pr zqv_p0 (argT [(.slice a0 a0l a0c)]) (zqv_q1 Q E) E H) (by kernel_rfl) (vc_seq (K := (zqv_86_M Q E)) (conv (B := vc Pr zqv_p63 (argT [(.slice a0 a0l a0c)]) (zqv_q38 Q E) E H) (by kernel_rfl) h) (zqv_89ok Q E))))

/-! jobmux/regex.Kids -/
@[reducible] noncomputable def zqw_q1 (Q : QT) (E : ET) : Exit → Tau → Heap → Prop := (retQ Pr (Try.f74).results.toList Q)

@[reducible] noncomputable def zqw_p0 : Code := bodyOf Try.f74

@[reducible] noncomputable def zqw_p1 : Code := sB zqw_p0

@[reducible] noncomputable def zqw_p2 : Code := sB zqw_p1

def zqw_1 (Q : QT) (E : ET)  (H : Heap) : Prop :=
 Q (.int .i64 (-1)) H

def zqw_1_M (Q : QT) (E : ET) (τ : Tau) (H : Heap) : Prop := zqw_1 Q E  H

theorem zqw_2ok (Q : QT) (E : ET) (τ : Tau) (H : Heap) (h : zqw_1_M Q E τ H) : vc Pr zqw_p2 τ (zqw_q1 Q E) E H :=
  (conv (B := vc Pr zqw_p2 τ (zqw_q1 Q E) E H) (by kernel_rfl) h)

@[reducible] noncomputable def zqw_q2 (Q : QT) (E : ET) : Exit → Tau → Heap → Prop := (xthen (zqw_1_M Q E) (zqw_q1 Q E))

@[reducible] noncomputable def zqw_p3 : Code := sA zqw_p1

@[reducible] noncomputable def zqw_p4 : Code := sB zqw_p3

@[reducible] noncomputable def zqw_q3 (Q : QT) (E : ET) : Exit → Tau → Heap → Prop := (xblock 0 (zqw_q2 Q E))

@[reducible] noncomputable def zqw_p5 : Code := sI zqw_p4

@[reducible] noncomputable def zqw_p6 : Code := sB zqw_p5

@[reducible] noncomputable def zqw_p7 : Code := sT zqw_p6

def zqw_3 (Q : QT) (E : ET)  (H : Heap) : Prop :=
 Q (.int .i64 0) H

def zqw_3_M (Q : QT) (E : ET) (τ : Tau) (H : Heap) : Prop := zqw_3 Q E  H

theorem zqw_4ok (Q : QT) (E : ET) (τ : Tau) (H : Heap) (h : zqw_3_M Q E τ H) : vc Pr zqw_p7 τ (zqw_q3 Q E) E H :=
  (conv (B := vc Pr zqw_p7 τ (zqw_q3 Q E) E H) (by kernel_rfl) h)

@[reducible] noncomputable def zqw_p8 : Code := sE zqw_p6

@[reducible] noncomputable def zqw_p9 : Code := sB zqw_p8

@[reducible] noncomputable def zqw_p10 : Code := sT zqw_p9

def zqw_5 (Q : QT) (E : ET)  (H : Heap) : Prop :=
 Q (.int .i64 1) H

def zqw_5_M (Q : QT) (E : ET) (τ : Tau) (H : Heap) : Prop := zqw_5 Q E  H

theorem zqw_6ok (Q : QT) (E : ET) (τ : Tau) (H : Heap) (h : zqw_5_M Q E τ H) : vc Pr zqw_p10 τ (zqw_q3 Q E) E H :=
  (conv (B := vc Pr zqw_p10 τ (zqw_q3 Q E) E H) (by kernel_rfl) h)

@[reducible] noncomputable def zqw_p11 : Code := sE zqw_p9

@[reducible] noncomputable def zqw_p12 : Code := sB zqw_p11

def zqw_7 (Q : QT) (E : ET) (x13 : Bool) (H : Heap) : Prop :=
 sel x13
 (Q (.int .i64 2) H)
 (zqw_1 Q E  H)

def zqw_7_M (Q : QT) (E : ET) (τ : Tau) (H : Heap) : Prop := mB (τ 13) fun x13 => zqw_7 Q E x13 H

theorem zqw_8ok (Q : QT) (E : ET) (τ : Tau) (H : Heap) (h : zqw_7_M Q E τ H) : vc Pr zqw_p12 τ (zqw_q3 Q E) E H :=
  vB (i := 13) h (fun x13 h => (conv (by kernel_rfl) h))

@[reducible] noncomputable def zqw_q4 (Q : QT) (E : ET) : Exit → Tau → Heap → Prop := (xthen (zqw_7_M Q E) (zqw_q3 Q E))

@[reducible] noncomputable def zqw_p13 : Code := sA zqw_p11

def zqw_9 (Q : QT) (E : ET) (x3 : Int) (H : Heap) : Prop :=
 sel ((x3 : Int) == 3)
 (zqw_7 Q E ((x3 : Int) == 3) H)
 (zqw_7 Q E ((x3 : Int) == 4) H)

def zqw_9_M (Q : QT) (E : ET) (τ : Tau) (H : Heap) : Prop := mI .i64 (τ 3) fun x3 => zqw_9 Q E x3 H

theorem zqw_10ok (Q : QT) (E : ET) (τ : Tau) (H : Heap) (h : zqw_9_M Q E τ H) : vc Pr zqw_p13 τ (zqw_q4 Q E) E H :=
  vI (i := 3) h (fun x3 h => (conv (by kernel_rfl) h))

theorem zqw_11ok (Q : QT) (E : ET) (τ : Tau) (H : Heap) (h : zqw_9_M Q E τ H) : vc Pr zqw_p11 τ (zqw_q3 Q E) E H :=
  (conv (B := vc Pr zqw_p11 τ (zqw_q3 Q E) E H) (by kernel_rfl) (vc_seq (K := (zqw_7_M Q E)) (zqw_10ok Q E τ H h) (zqw_8ok Q E)))

def zqw_12 (Q : QT) (E : ET) (x3 : Int) (x9 : Bool) (H : Heap) : Prop :=
 sel x9
 (zqw_5 Q E  H)
 (zqw_9 Q E x3 H)

def zqw_12_M (Q : QT) (E : ET) (τ : Tau) (H : Heap) : Prop := mI .i64 (τ 3) fun x3 => mB (τ 9) fun x9 => zqw_12 Q E x3 x9 H

theorem zqw_13ok (Q : QT) (E : ET) (τ : Tau) (H : Heap) (h : zqw_12_M Q E τ H) : vc Pr zqw_p9 τ (zqw_q3 Q E) E H :=
  vI (i := 3) h (fun x3 h => vB (i := 9) h (fun x9 h => (conv (B := vc Pr zqw_p9 (Tau.upd (Tau.upd τ 3 (.int .i64 x3)) 9 (.bool x9)) (zqw_q3 Q E) E H) (by kernel_rfl) (sel_map (zqw_6ok Q E (Tau.upd (Tau.upd τ 3 (.int .i64 x3)) 9 (.bool x9)) H) (zqw_11ok Q E (Tau.upd (Tau.upd τ 3 (.int .i64 x3)) 9 (.bool x9)) H) (conv (B := sel x9 (zqw_5_M Q E (Tau.upd (Tau.upd τ 3 (.int .i64 x3)) 9 (.bool x9)) H) (zqw_9_M Q E (Tau.upd (Tau.upd τ 3 (.int .i64 x3)) 9 (.bool x9)) H)) (by kernel_rfl) h)))))

@[reducible] noncomputable def zqw_q5 (Q : QT) (E : ET) : Exit → Tau → Heap → Prop := (xthen (zqw_12_M Q E) (zqw_q3 Q E))

@[reducible] noncomputable def zqw_p14 : Code := sA zqw_p8

def zqw_14 (Q : QT) (E : ET) (x3 : Int) (H : Heap) : Prop :=
 sel ((x3 : Int) == 5)
 (zqw_12 Q E x3 ((x3 : Int) == 5) H)
 (sel ((x3 : Int) == 6)
 (zqw_12 Q E x3 ((x3 : Int) == 6) H)
 (zqw_12 Q E x3 ((x3 : Int) == 7) H))

def zqw_14_M (Q : QT) (E : ET) (τ : Tau) (H : Heap) : Prop := mI .i64 (τ 3) fun x3 => zqw_14 Q E x3 H

theorem zqw_15ok (Q : QT) (E : ET) (τ : Tau) (H : Heap) (h : zqw_14_M Q E τ H) : vc Pr zqw_p14 τ (zqw_q5 Q E) E H :=
  vI (i := 3) h (fun x3 h => (conv (by kernel_rfl) h))

theorem zqw_16ok (Q : QT) (E : ET) (τ : Tau) (H : Heap) (h : zqw_14_M Q E τ H) : vc Pr zqw_p8 τ (zqw_q3 Q E) E H :=
  (conv (B := vc Pr zqw_p8 τ (zqw_q3 Q E) E H) (by kernel_rfl) (vc_seq (K := (zqw_12_M Q E)) (zqw_15ok Q E τ H h) (zqw_13ok Q E)))

def zqw_17 (Q : QT) (E : ET) (x3 : Int) (x4 : Bool) (H : Heap) : Prop :=
 sel x4
 (zqw_3 Q E  H)
 (zqw_14 Q E x3 H)

def zqw_17_M (Q : QT) (E : ET) (τ : Tau) (H : Heap) : Prop := mI .i64 (τ 3) fun x3 => mB (τ 4) fun x4 => zqw_17 Q E x3 x4 H

theorem zqw_18ok (Q : QT) (E : ET) (τ : Tau) (H : Heap) (h : zqw_17_M Q E τ H) : vc Pr zqw_p6 τ (zqw_q3 Q E) E H :=
  vI (i := 3) h (fun x3 h => vB (i := 4) h (fun x4 h => (conv (B := vc Pr zqw_p6 (Tau.upd (Tau.upd τ 3 (.int .i64 x3)) 4 (.bool x4)) (zqw_q3 Q E) E H) (by kernel_rfl) (sel_map (zqw_4ok Q E (Tau.upd (Tau.upd τ 3 (.int .i64 x3)) 4 (.bool x4)) H) (zqw_16ok Q E (Tau.upd (Tau.upd τ 3 (.int .i64 x3)) 4 (.bool x4)) H) (conv (B := sel x4 (zqw_3_M Q E (Tau.upd (Tau.upd τ 3 (.int .i64 x3)) 4 (.bool x4)) H) (zqw_14_M Q E (Tau.upd (Tau.upd τ 3 (.int .i64 x3)) 4 (.bool x4)) H)) (by kernel_rfl) h)))))

@[reducible] noncomputable def zqw_q6 (Q : QT) (E : ET) : Exit → Tau → Heap → Prop := (xthen (zqw_17_M Q E) (zqw_q3 Q E))

@[reducible] noncomputable def zqw_p15 : Code := sA zqw_p5

def zqw_19 (Q : QT) (E : ET) (x3 : Int) (H : Heap) : Prop :=
 sel ((x3 : Int) == 1)
 (zqw_17 Q E x3 ((x3 : Int) == 1) H)
 (sel ((x3 : Int) == 2)
 (zqw_17 Q E x3 ((x3 : Int) == 2) H)
 (sel ((x3 : Int) == 8)
 (zqw_17 Q E x3 ((x3 : Int) == 8) H)
 (zqw_17 Q E x3 ((x3 : Int) == 9) H)))

def zqw_19_M (Q : QT) (E : ET) (τ : Tau) (H : Heap) : Prop := mI .i64 (τ 3) fun x3 => zqw_19 Q E x3 H

theorem zqw_20ok (Q : QT) (E : ET) (τ : Tau) (H : Heap) (h : zqw_19_M Q E τ H) : vc Pr zqw_p15 τ (zqw_q6 Q E) E H :=
  vI (i := 3) h (fun x3 h => (conv (by kernel_rfl) h))

theorem zqw_21ok (Q : QT) (E : ET) (τ : Tau) (H : Heap) (h : zqw_19_M Q E τ H) : vc Pr zqw_p5 τ (zqw_q3 Q E) E H :=
  (conv (B := vc Pr zqw_p5 τ (zqw_q3 Q E) E H) (by kernel_rfl) (vc_seq (K := (zqw_17_M Q E)) (zqw_20ok Q E τ H h) (zqw_18ok Q E)))

theorem zqw_22ok (Q : QT) (E : ET) (τ : Tau) (H : Heap) (h : zqw_19_M Q E τ H) : vc Pr zqw_p4 τ (zqw_q2 Q E) E H :=
  (conv (B := vc Pr zqw_p4 τ (zqw_q2 Q E) E H) (by kernel_rfl) (zqw_21ok Q E τ H h))

@[reducible] noncomputable def zqw_q7 (Q : QT) (E : ET) : Exit → Tau → Heap → Prop := (xthen (zqw_19_M Q E) (zqw_q2 Q E))

@[reducible] noncomputable def zqw_p16 : Code := sA zqw_p3

def zqw_23 (Q : QT) (E : ET) (x0 : Int) (H : Heap) : Prop :=
 zqw_19 Q E x0 H

def zqw_23_M (Q : QT) (E : ET) (τ : Tau) (H : Heap) : Prop := mI .i64 (τ 0) fun x0 => zqw_23 Q E x0 H

theorem zqw_24ok (Q : QT) (E : ET) (τ : Tau) (H : Heap) (h : zqw_23_M Q E τ H) : vc Pr zqw_p16 τ (zqw_q7 Q E) E H :=
  vI (i := 0) h (fun x0 h => (conv (by kernel_rfl) h))

theorem zqw_25ok (Q : QT) (E : ET) (τ : Tau) (H : Heap) (h : zqw_23_M Q E τ H) : vc Pr zqw_p3 τ (zqw_q2 Q E) E H :=
  (conv (B := vc Pr zqw_p3 τ (zqw_q2 Q E) E H) (by kernel_rfl) (vc_seq (K := (zqw_19_M Q E)) (zqw_24ok Q E τ H h) (zqw_22ok Q E)))

theorem zqw_26ok (Q : QT) (E : ET) (τ : Tau) (H : Heap) (h : zqw_23_M Q E τ H) : vc Pr zqw_p1 τ (zqw_q1 Q E) E H :=
  (conv (B := vc Pr zqw_p1 τ (zqw_q1 Q E) E H) (by kernel_rfl) (vc_seq (K := (zqw_1_M Q E)) (zqw_25ok Q E τ H h) (zqw_2ok Q E)))

@[reducible] noncomputable def zqw_q8 (Q : QT) (E : ET) : Exit → Tau → Heap → Prop := (xthen (zqw_23_M Q E) (zqw_q1 Q E))

@[reducible] noncomputable def zqw_p17 : Code := sA zqw_p0

def zqw (Q : QT) (E : ET) (a0 : Int) (H : Heap) : Prop :=
 zqw_23 Q E a0 H

theorem zqw_fn (a0 : Int) (Q : QT) (E : ET) (H : Heap) (h : zqw Q E a0 H)   : Does Pr 74 #[(.int .i64 a0)] H Q E :=
  Fn_of_vc (fn := Try.f74) (c := zqw_p0) (args := [(.int .i64 a0)]) mixed (by kernel_rfl) (by kernel_rfl) (by kernel_rfl) (by kernel_rfl) (by kernel_rfl) ((conv (B := vc Pr zqw_p0 (argT [(.int .i64 a0)]) (zqw_q1 Q E) E H) (by kernel_rfl) (vc_seq (K := (zqw_23_M Q E)) (conv (B := vc Pr zqw_p17 (argT [(.int .i64 a0)]) (zqw_q8 Q E) E H) (by kernel_rfl) h) (zqw_26ok Q E))))

end Go.Proofs.Ytaffcoiomggpfaa
