import Derived.Test.YtaffcoiomggpfaaVPr
/- Printed by gen.py: the Go functions of package regex over a heap view, and that the model does so. -/
namespace Go.Proofs.Ytaffcoiomggpfaa
open Go.V
set_option linter.unusedVariables false
set_option maxRecDepth 100000
/-! jobmux/regex.Valid -/
@[reducible] noncomputable def regex_Valid_q1 (Q : QT) (E : ET) : Exit → Tau → Heap → Prop := (retQ Pr (Try.f40).results.toList Q)

@[reducible] noncomputable def regex_Valid_p0 : Code := bodyOf Try.f40

@[reducible] noncomputable def regex_Valid_p1 : Code := sB regex_Valid_p0

@[reducible] noncomputable def regex_Valid_p2 : Code := sB regex_Valid_p1

@[reducible] noncomputable def regex_Valid_p3 : Code := sB regex_Valid_p2

@[reducible] noncomputable def regex_Valid_p4 : Code := sB regex_Valid_p3

def regex_Valid_1 (Q : QT) (E : ET) (x0 : OA) (l0 : Nat) (c0 : Nat) (x3 : OA) (l3 : Nat) (c3 : Nat) (H : Heap) : Prop :=
 (0 ≤ ((IntKind.wrap .i64 (((l0 : Nat) : Int) - 1)) : Int) ∧ ((IntKind.wrap .i64 (((l0 : Nat) : Int) - 1)) : Int) < ((l3 : Nat) : Int)) ∧ ptr x3 fun q33 =>
 ldI .i64 (Addr.add q33 (((IntKind.wrap .i64 (((l0 : Nat) : Int) - 1)) : Int).toNat * 1)) H fun n34 =>
 Q (.bool ((n34 : Int) == ((l0 : Nat) : Int))) H

def regex_Valid_1_M (Q : QT) (E : ET) (τ : Tau) (H : Heap) : Prop := mSl (τ 0) fun x0 l0 c0 => mSl (τ 3) fun x3 l3 c3 => regex_Valid_1 Q E x0 l0 c0 x3 l3 c3 H

theorem regex_Valid_2ok (Q : QT) (E : ET) (τ : Tau) (H : Heap) (h : regex_Valid_1_M Q E τ H) : vc Pr regex_Valid_p4 τ (regex_Valid_q1 Q E) E H :=
  vSl (i := 0) h (fun x0 l0 c0 h => vSl (i := 3) h (fun x3 l3 c3 h => (conv (by kernel_rfl) h)))

@[reducible] noncomputable def regex_Valid_q2 (Q : QT) (E : ET) : Exit → Tau → Heap → Prop := (xthen (regex_Valid_1_M Q E) (regex_Valid_q1 Q E))

@[reducible] noncomputable def regex_Valid_p5 : Code := sA regex_Valid_p3

@[reducible] noncomputable def regex_Valid_p6 : Code := sB regex_Valid_p5

@[reducible] noncomputable def regex_Valid_q3 (Q : QT) (E : ET) : Exit → Tau → Heap → Prop := (xblock 0 (regex_Valid_q2 Q E))

@[reducible] noncomputable def regex_Valid_p7 : Code := sI regex_Valid_p6

@[reducible] noncomputable def regex_Valid_q4 (nx35 : Int → HP) (Q : QT) (E : ET) : Exit → Tau → Heap → Prop := (xthen (fun τ H => mI .i64 (τ 21) fun x21' => nx35 x21' H) (regex_Valid_q3 Q E))

@[reducible] noncomputable def regex_Valid_p8 : Code := sI regex_Valid_p7

@[reducible] noncomputable def regex_Valid_p9 : Code := sB regex_Valid_p8

@[reducible] noncomputable def regex_Valid_p10 : Code := sB regex_Valid_p9

@[reducible] noncomputable def regex_Valid_p11 : Code := sB regex_Valid_p10

def regex_Valid_3 (nx35 : Int → HP) (Q : QT) (E : ET) (x0 : OA) (l0 : Nat) (c0 : Nat) (x3 : OA) (l3 : Nat) (c3 : Nat) (x19 : OA) (l19 : Nat) (c19 : Nat) (x20 : Int) (x21 : Int) (H : Heap) : Prop :=
 nx35 (IntKind.wrap .i64 (x21 + 1)) H

def regex_Valid_3_M (nx35 : Int → HP) (Q : QT) (E : ET) (τ : Tau) (H : Heap) : Prop := mSl (τ 0) fun x0 l0 c0 => mSl (τ 3) fun x3 l3 c3 => mSl (τ 19) fun x19 l19 c19 => mI .i64 (τ 20) fun x20 => mI .i64 (τ 21) fun x21 => regex_Valid_3 nx35 Q E x0 l0 c0 x3 l3 c3 x19 l19 c19 x20 x21 H

theorem regex_Valid_4ok (nx35 : Int → HP) (Q : QT) (E : ET) (τ : Tau) (H : Heap) (h : regex_Valid_3_M nx35 Q E τ H) : vc Pr regex_Valid_p11 τ (regex_Valid_q4 nx35 Q E) E H :=
  vSl (i := 0) h (fun x0 l0 c0 h => vSl (i := 3) h (fun x3 l3 c3 h => vSl (i := 19) h (fun x19 l19 c19 h => vI (i := 20) h (fun x20 h => vI (i := 21) h (fun x21 h => (conv (by kernel_rfl) h))))))

@[reducible] noncomputable def regex_Valid_q5 (nx35 : Int → HP) (Q : QT) (E : ET) : Exit → Tau → Heap → Prop := (xthen (regex_Valid_3_M nx35 Q E) (regex_Valid_q4 nx35 Q E))

@[reducible] noncomputable def regex_Valid_p12 : Code := sA regex_Valid_p10

@[reducible] noncomputable def regex_Valid_q6 (nx35 : Int → HP) (Q : QT) (E : ET) : Exit → Tau → Heap → Prop := (xblock 1 (regex_Valid_q5 nx35 Q E))

@[reducible] noncomputable def regex_Valid_p13 : Code := sI regex_Valid_p12

@[reducible] noncomputable def regex_Valid_p14 : Code := sB regex_Valid_p13

@[reducible] noncomputable def regex_Valid_p15 : Code := sB regex_Valid_p14

@[reducible] noncomputable def regex_Valid_p16 : Code := sB regex_Valid_p15

@[reducible] noncomputable def regex_Valid_p17 : Code := sB regex_Valid_p16

@[reducible] noncomputable def regex_Valid_p18 : Code := sB regex_Valid_p17

@[reducible] noncomputable def regex_Valid_p19 : Code := sB regex_Valid_p18

def regex_Valid_5 (nx35 : Int → HP) (Q : QT) (E : ET) (x0 : OA) (l0 : Nat) (c0 : Nat) (x3 : OA) (l3 : Nat) (c3 : Nat) (x19 : OA) (l19 : Nat) (c19 : Nat) (x20 : Int) (x21 : Int) (x88 : Bool) (H : Heap) : Prop :=
 sel x88
 (Q (.bool false) H)
 (regex_Valid_3 nx35 Q E x0 l0 c0 x3 l3 c3 x19 l19 c19 x20 x21 H)

def regex_Valid_5_M (nx35 : Int → HP) (Q : QT) (E : ET) (τ : Tau) (H : Heap) : Prop := mSl (τ 0) fun x0 l0 c0 => mSl (τ 3) fun x3 l3 c3 => mSl (τ 19) fun x19 l19 c19 => mI .i64 (τ 20) fun x20 => mI .i64 (τ 21) fun x21 => mB (τ 88) fun x88 => regex_Valid_5 nx35 Q E x0 l0 c0 x3 l3 c3 x19 l19 c19 x20 x21 x88 H

theorem regex_Valid_6ok (nx35 : Int → HP) (Q : QT) (E : ET) (τ : Tau) (H : Heap) (h : regex_Valid_5_M nx35 Q E τ H) : vc Pr regex_Valid_p19 τ (regex_Valid_q6 nx35 Q E) E H :=
  vSl (i := 0) h (fun x0 l0 c0 h => vSl (i := 3) h (fun x3 l3 c3 h => vSl (i := 19) h (fun x19 l19 c19 h => vI (i := 20) h (fun x20 h => vI (i := 21) h (fun x21 h => vB (i := 88) h (fun x88 h => (conv (by kernel_rfl) h)))))))

@[reducible] noncomputable def regex_Valid_q7 (nx35 : Int → HP) (Q : QT) (E : ET) : Exit → Tau → Heap → Prop := (xthen (regex_Valid_5_M nx35 Q E) (regex_Valid_q6 nx35 Q E))

@[reducible] noncomputable def regex_Valid_p20 : Code := sA regex_Valid_p18

def regex_Valid_7 (nx35 : Int → HP) (Q : QT) (E : ET) (x0 : OA) (l0 : Nat) (c0 : Nat) (x3 : OA) (l3 : Nat) (c3 : Nat) (x5 : OA) (x6 : Int) (x7 : Int) (x19 : OA) (l19 : Nat) (c19 : Nat) (x20 : Int) (x21 : Int) (H : Heap) : Prop :=
 ptr x5 fun q112 =>
 ldI .i64 (Addr.add q112 1) H fun n113 =>
 sel ((n113 : Int) != x6)
 (regex_Valid_5 nx35 Q E x0 l0 c0 x3 l3 c3 x19 l19 c19 x20 x21 true H)
 (ptr x5 fun q114 =>
 ldI .i64 (Addr.add q114 2) H fun n115 =>
 regex_Valid_5 nx35 Q E x0 l0 c0 x3 l3 c3 x19 l19 c19 x20 x21 ((n115 : Int) != x7) H)

def regex_Valid_7_M (nx35 : Int → HP) (Q : QT) (E : ET) (τ : Tau) (H : Heap) : Prop := mSl (τ 0) fun x0 l0 c0 => mSl (τ 3) fun x3 l3 c3 => mP (τ 5) fun x5 => mI .i64 (τ 6) fun x6 => mI .i64 (τ 7) fun x7 => mSl (τ 19) fun x19 l19 c19 => mI .i64 (τ 20) fun x20 => mI .i64 (τ 21) fun x21 => regex_Valid_7 nx35 Q E x0 l0 c0 x3 l3 c3 x5 x6 x7 x19 l19 c19 x20 x21 H

theorem regex_Valid_8ok (nx35 : Int → HP) (Q : QT) (E : ET) (τ : Tau) (H : Heap) (h : regex_Valid_7_M nx35 Q E τ H) : vc Pr regex_Valid_p20 τ (regex_Valid_q7 nx35 Q E) E H :=
  vSl (i := 0) h (fun x0 l0 c0 h => vSl (i := 3) h (fun x3 l3 c3 h => vP (i := 5) h (fun x5 h => vI (i := 6) h (fun x6 h => vI (i := 7) h (fun x7 h => vSl (i := 19) h (fun x19 l19 c19 h => vI (i := 20) h (fun x20 h => vI (i := 21) h (fun x21 h => (conv (by kernel_rfl) h)))))))))

theorem regex_Valid_9ok (nx35 : Int → HP) (Q : QT) (E : ET) (τ : Tau) (H : Heap) (h : regex_Valid_7_M nx35 Q E τ H) : vc Pr regex_Valid_p18 τ (regex_Valid_q6 nx35 Q E) E H :=
  (conv (B := vc Pr regex_Valid_p18 τ (regex_Valid_q6 nx35 Q E) E H) (by kernel_rfl) (vc_seq (K := (regex_Valid_5_M nx35 Q E)) (regex_Valid_8ok nx35 Q E τ H h) (regex_Valid_6ok nx35 Q E)))

@[reducible] noncomputable def regex_Valid_q8 (nx35 : Int → HP) (Q : QT) (E : ET) : Exit → Tau → Heap → Prop := (xthen (regex_Valid_7_M nx35 Q E) (regex_Valid_q6 nx35 Q E))

@[reducible] noncomputable def regex_Valid_p21 : Code := sA regex_Valid_p17

@[reducible] noncomputable def regex_Valid_p22 : Code := sB regex_Valid_p21

@[reducible] noncomputable def regex_Valid_q9 (nx35 : Int → HP) (Q : QT) (E : ET) : Exit → Tau → Heap → Prop := (xblock 2 (regex_Valid_q8 nx35 Q E))

@[reducible] noncomputable def regex_Valid_p23 : Code := sI regex_Valid_p22

@[reducible] noncomputable def regex_Valid_p24 : Code := sB regex_Valid_p23

def regex_Valid_10 (nx35 : Int → HP) (Q : QT) (E : ET)  (H : Heap) : Prop :=
 Q (.bool false) H

def regex_Valid_10_M (nx35 : Int → HP) (Q : QT) (E : ET) (τ : Tau) (H : Heap) : Prop := regex_Valid_10 nx35 Q E  H

theorem regex_Valid_11ok (nx35 : Int → HP) (Q : QT) (E : ET) (τ : Tau) (H : Heap) (h : regex_Valid_10_M nx35 Q E τ H) : vc Pr regex_Valid_p24 τ (regex_Valid_q9 nx35 Q E) E H :=
  (conv (B := vc Pr regex_Valid_p24 τ (regex_Valid_q9 nx35 Q E) E H) (by kernel_rfl) h)

@[reducible] noncomputable def regex_Valid_q10 (nx35 : Int → HP) (Q : QT) (E : ET) : Exit → Tau → Heap → Prop := (xthen (regex_Valid_10_M nx35 Q E) (regex_Valid_q9 nx35 Q E))

@[reducible] noncomputable def regex_Valid_p25 : Code := sA regex_Valid_p23

@[reducible] noncomputable def regex_Valid_q11 (nx35 : Int → HP) (Q : QT) (E : ET) : Exit → Tau → Heap → Prop := (xblock 6 (regex_Valid_q10 nx35 Q E))

@[reducible] noncomputable def regex_Valid_p26 : Code := sI regex_Valid_p25

@[reducible] noncomputable def regex_Valid_p27 : Code := sB regex_Valid_p26

@[reducible] noncomputable def regex_Valid_q12 (nx35 : Int → HP) (Q : QT) (E : ET) : Exit → Tau → Heap → Prop := (xthen (fun τ H => vc Pr (sB regex_Valid_p27) τ (regex_Valid_q11 nx35 Q E) E H) (regex_Valid_q11 nx35 Q E))

@[reducible] noncomputable def regex_Valid_p28 : Code := sA regex_Valid_p27

@[reducible] noncomputable def regex_Valid_p29 : Code := sB regex_Valid_p28

@[reducible] noncomputable def regex_Valid_p30 : Code := sB regex_Valid_p29

def regex_Valid_12 (nx35 : Int → HP) (Q : QT) (E : ET) (x0 : OA) (l0 : Nat) (c0 : Nat) (x3 : OA) (l3 : Nat) (c3 : Nat) (x4 : Int) (x5 : OA) (x6 : Int) (x7 : Int) (x19 : OA) (l19 : Nat) (c19 : Nat) (x20 : Int) (x21 : Int) (H : Heap) : Prop :=
 (0 ≤ (x4 : Int) ∧ (x4 : Int) < ((l3 : Nat) : Int)) ∧ ptr x3 fun q150 =>
 ldI .i64 (Addr.add q150 ((x4 : Int).toNat * 1)) H fun n151 =>
 (0 ≤ (x6 : Int) ∧ (x6 : Int) < ((l3 : Nat) : Int)) ∧ ptr x3 fun q152 =>
 ldI .i64 (Addr.add q152 ((x6 : Int).toNat * 1)) H fun n153 =>
 (0 ≤ (x4 : Int) ∧ (x4 : Int) < ((l3 : Nat) : Int)) ∧ ptr x3 fun q154 =>
 wr (Addr.add q154 ((x4 : Int).toNat * 1)) [(.int .i64 (IntKind.wrap .i64 (n151 + n153)))] H fun H155 =>
 regex_Valid_7 nx35 Q E x0 l0 c0 x3 l3 c3 x5 x6 x7 x19 l19 c19 x20 x21 H155

def regex_Valid_12_M (nx35 : Int → HP) (Q : QT) (E : ET) (τ : Tau) (H : Heap) : Prop := mSl (τ 0) fun x0 l0 c0 => mSl (τ 3) fun x3 l3 c3 => mI .i64 (τ 4) fun x4 => mP (τ 5) fun x5 => mI .i64 (τ 6) fun x6 => mI .i64 (τ 7) fun x7 => mSl (τ 19) fun x19 l19 c19 => mI .i64 (τ 20) fun x20 => mI .i64 (τ 21) fun x21 => regex_Valid_12 nx35 Q E x0 l0 c0 x3 l3 c3 x4 x5 x6 x7 x19 l19 c19 x20 x21 H

theorem regex_Valid_13ok (nx35 : Int → HP) (Q : QT) (E : ET) (τ : Tau) (H : Heap) (h : regex_Valid_12_M nx35 Q E τ H) : vc Pr regex_Valid_p30 τ (regex_Valid_q12 nx35 Q E) E H :=
  vSl (i := 0) h (fun x0 l0 c0 h => vSl (i := 3) h (fun x3 l3 c3 h => vI (i := 4) h (fun x4 h => vP (i := 5) h (fun x5 h => vI (i := 6) h (fun x6 h => vI (i := 7) h (fun x7 h => vSl (i := 19) h (fun x19 l19 c19 h => vI (i := 20) h (fun x20 h => vI (i := 21) h (fun x21 h => (conv (by kernel_rfl) h))))))))))

@[reducible] noncomputable def regex_Valid_q13 (nx35 : Int → HP) (Q : QT) (E : ET) : Exit → Tau → Heap → Prop := (xthen (regex_Valid_12_M nx35 Q E) (regex_Valid_q12 nx35 Q E))

@[reducible] noncomputable def regex_Valid_p31 : Code := sA regex_Valid_p29

def regex_Valid_14 (nx35 : Int → HP) (Q : QT) (E : ET) (x0 : OA) (l0 : Nat) (c0 : Nat) (x3 : OA) (l3 : Nat) (c3 : Nat) (x4 : Int) (x5 : OA) (x6 : Int) (x7 : Int) (x19 : OA) (l19 : Nat) (c19 : Nat) (x20 : Int) (x21 : Int) (H : Heap) : Prop :=
 sel (decide ((x6 : Int) < 0))
 (Q (.bool false) H)
 (regex_Valid_12 nx35 Q E x0 l0 c0 x3 l3 c3 x4 x5 x6 x7 x19 l19 c19 x20 x21 H)

def regex_Valid_14_M (nx35 : Int → HP) (Q : QT) (E : ET) (τ : Tau) (H : Heap) : Prop := mSl (τ 0) fun x0 l0 c0 => mSl (τ 3) fun x3 l3 c3 => mI .i64 (τ 4) fun x4 => mP (τ 5) fun x5 => mI .i64 (τ 6) fun x6 => mI .i64 (τ 7) fun x7 => mSl (τ 19) fun x19 l19 c19 => mI .i64 (τ 20) fun x20 => mI .i64 (τ 21) fun x21 => regex_Valid_14 nx35 Q E x0 l0 c0 x3 l3 c3 x4 x5 x6 x7 x19 l19 c19 x20 x21 H

theorem regex_Valid_15ok (nx35 : Int → HP) (Q : QT) (E : ET) (τ : Tau) (H : Heap) (h : regex_Valid_14_M nx35 Q E τ H) : vc Pr regex_Valid_p31 τ (regex_Valid_q13 nx35 Q E) E H :=
  vSl (i := 0) h (fun x0 l0 c0 h => vSl (i := 3) h (fun x3 l3 c3 h => vI (i := 4) h (fun x4 h => vP (i := 5) h (fun x5 h => vI (i := 6) h (fun x6 h => vI (i := 7) h (fun x7 h => vSl (i := 19) h (fun x19 l19 c19 h => vI (i := 20) h (fun x20 h => vI (i := 21) h (fun x21 h => (conv (by kernel_rfl) h))))))))))

theorem regex_Valid_16ok (nx35 : Int → HP) (Q : QT) (E : ET) (τ : Tau) (H : Heap) (h : regex_Valid_14_M nx35 Q E τ H) : vc Pr regex_Valid_p29 τ (regex_Valid_q12 nx35 Q E) E H :=
  (conv (B := vc Pr regex_Valid_p29 τ (regex_Valid_q12 nx35 Q E) E H) (by kernel_rfl) (vc_seq (K := (regex_Valid_12_M nx35 Q E)) (regex_Valid_15ok nx35 Q E τ H h) (regex_Valid_13ok nx35 Q E)))

@[reducible] noncomputable def regex_Valid_q14 (nx35 : Int → HP) (Q : QT) (E : ET) : Exit → Tau → Heap → Prop := (xthen (regex_Valid_14_M nx35 Q E) (regex_Valid_q12 nx35 Q E))

@[reducible] noncomputable def regex_Valid_p32 : Code := sA regex_Valid_p28

def regex_Valid_17 (nx35 : Int → HP) (Q : QT) (E : ET) (x0 : OA) (l0 : Nat) (c0 : Nat) (x3 : OA) (l3 : Nat) (c3 : Nat) (x4 : Int) (x5 : OA) (x7 : Int) (x19 : OA) (l19 : Nat) (c19 : Nat) (x20 : Int) (x21 : Int) (H : Heap) : Prop :=
 (0 ≤ (x4 : Int) ∧ (x4 : Int) < ((l3 : Nat) : Int)) ∧ ptr x3 fun q156 =>
 ldI .i64 (Addr.add q156 ((x4 : Int).toNat * 1)) H fun n157 =>
 regex_Valid_14 nx35 Q E x0 l0 c0 x3 l3 c3 x4 x5 (IntKind.wrap .i64 (x4 - n157)) x7 x19 l19 c19 x20 x21 H

def regex_Valid_17_M (nx35 : Int → HP) (Q : QT) (E : ET) (τ : Tau) (H : Heap) : Prop := mSl (τ 0) fun x0 l0 c0 => mSl (τ 3) fun x3 l3 c3 => mI .i64 (τ 4) fun x4 => mP (τ 5) fun x5 => mI .i64 (τ 7) fun x7 => mSl (τ 19) fun x19 l19 c19 => mI .i64 (τ 20) fun x20 => mI .i64 (τ 21) fun x21 => regex_Valid_17 nx35 Q E x0 l0 c0 x3 l3 c3 x4 x5 x7 x19 l19 c19 x20 x21 H

theorem regex_Valid_18ok (nx35 : Int → HP) (Q : QT) (E : ET) (τ : Tau) (H : Heap) (h : regex_Valid_17_M nx35 Q E τ H) : vc Pr regex_Valid_p32 τ (regex_Valid_q14 nx35 Q E) E H :=
  vSl (i := 0) h (fun x0 l0 c0 h => vSl (i := 3) h (fun x3 l3 c3 h => vI (i := 4) h (fun x4 h => vP (i := 5) h (fun x5 h => vI (i := 7) h (fun x7 h => vSl (i := 19) h (fun x19 l19 c19 h => vI (i := 20) h (fun x20 h => vI (i := 21) h (fun x21 h => (conv (by kernel_rfl) h)))))))))

theorem regex_Valid_19ok (nx35 : Int → HP) (Q : QT) (E : ET) (τ : Tau) (H : Heap) (h : regex_Valid_17_M nx35 Q E τ H) : vc Pr regex_Valid_p28 τ (regex_Valid_q12 nx35 Q E) E H :=
  (conv (B := vc Pr regex_Valid_p28 τ (regex_Valid_q12 nx35 Q E) E H) (by kernel_rfl) (vc_seq (K := (regex_Valid_14_M nx35 Q E)) (regex_Valid_18ok nx35 Q E τ H h) (regex_Valid_16ok nx35 Q E)))

theorem regex_Valid_20ok (nx35 : Int → HP) (Q : QT) (E : ET) (τ : Tau) (H : Heap) (h : regex_Valid_17_M nx35 Q E τ H) : vc Pr regex_Valid_p27 τ (regex_Valid_q11 nx35 Q E) E H :=
  (conv (B := vc Pr regex_Valid_p27 τ (regex_Valid_q11 nx35 Q E) E H) (by kernel_rfl) (regex_Valid_19ok nx35 Q E τ H h))

@[reducible] noncomputable def regex_Valid_q15 (nx35 : Int → HP) (Q : QT) (E : ET) : Exit → Tau → Heap → Prop := (xthen (regex_Valid_17_M nx35 Q E) (regex_Valid_q11 nx35 Q E))

@[reducible] noncomputable def regex_Valid_p33 : Code := sA regex_Valid_p26

@[reducible] noncomputable def regex_Valid_q16 (nx35 : Int → HP) (Q : QT) (E : ET) : Exit → Tau → Heap → Prop := (xblock 5 (regex_Valid_q15 nx35 Q E))

@[reducible] noncomputable def regex_Valid_p34 : Code := sI regex_Valid_p33

@[reducible] noncomputable def regex_Valid_p35 : Code := sB regex_Valid_p34

@[reducible] noncomputable def regex_Valid_p36 : Code := sB regex_Valid_p35

@[reducible] noncomputable def regex_Valid_p37 : Code := sB regex_Valid_p36

def regex_Valid_21 (nx35 : Int → HP) (Q : QT) (E : ET) (x0 : OA) (l0 : Nat) (c0 : Nat) (x3 : OA) (l3 : Nat) (c3 : Nat) (x4 : Int) (x5 : OA) (x7 : Int) (x19 : OA) (l19 : Nat) (c19 : Nat) (x20 : Int) (x21 : Int) (H : Heap) : Prop :=
 (0 ≤ (x4 : Int) ∧ (x4 : Int) < ((l3 : Nat) : Int)) ∧ ptr x3 fun q158 =>
 ldI .i64 (Addr.add q158 ((x4 : Int).toNat * 1)) H fun n159 =>
 (0 ≤ (x7 : Int) ∧ (x7 : Int) < ((l3 : Nat) : Int)) ∧ ptr x3 fun q160 =>
 ldI .i64 (Addr.add q160 ((x7 : Int).toNat * 1)) H fun n161 =>
 (0 ≤ (x4 : Int) ∧ (x4 : Int) < ((l3 : Nat) : Int)) ∧ ptr x3 fun q162 =>
 wr (Addr.add q162 ((x4 : Int).toNat * 1)) [(.int .i64 (IntKind.wrap .i64 (n159 + n161)))] H fun H163 =>
 regex_Valid_17 nx35 Q E x0 l0 c0 x3 l3 c3 x4 x5 x7 x19 l19 c19 x20 x21 H163

def regex_Valid_21_M (nx35 : Int → HP) (Q : QT) (E : ET) (τ : Tau) (H : Heap) : Prop := mSl (τ 0) fun x0 l0 c0 => mSl (τ 3) fun x3 l3 c3 => mI .i64 (τ 4) fun x4 => mP (τ 5) fun x5 => mI .i64 (τ 7) fun x7 => mSl (τ 19) fun x19 l19 c19 => mI .i64 (τ 20) fun x20 => mI .i64 (τ 21) fun x21 => regex_Valid_21 nx35 Q E x0 l0 c0 x3 l3 c3 x4 x5 x7 x19 l19 c19 x20 x21 H

theorem regex_Valid_22ok (nx35 : Int → HP) (Q : QT) (E : ET) (τ : Tau) (H : Heap) (h : regex_Valid_21_M nx35 Q E τ H) : vc Pr regex_Valid_p37 τ (regex_Valid_q16 nx35 Q E) E H :=
  vSl (i := 0) h (fun x0 l0 c0 h => vSl (i := 3) h (fun x3 l3 c3 h => vI (i := 4) h (fun x4 h => vP (i := 5) h (fun x5 h => vI (i := 7) h (fun x7 h => vSl (i := 19) h (fun x19 l19 c19 h => vI (i := 20) h (fun x20 h => vI (i := 21) h (fun x21 h => (conv (by kernel_rfl) h)))))))))

@[reducible] noncomputable def regex_Valid_q17 (nx35 : Int → HP) (Q : QT) (E : ET) : Exit → Tau → Heap → Prop := (xthen (regex_Valid_21_M nx35 Q E) (regex_Valid_q16 nx35 Q E))

@[reducible] noncomputable def regex_Valid_p38 : Code := sA regex_Valid_p36

def regex_Valid_23 (nx35 : Int → HP) (Q : QT) (E : ET) (x0 : OA) (l0 : Nat) (c0 : Nat) (x3 : OA) (l3 : Nat) (c3 : Nat) (x4 : Int) (x5 : OA) (x7 : Int) (x19 : OA) (l19 : Nat) (c19 : Nat) (x20 : Int) (x21 : Int) (H : Heap) : Prop :=
 sel (decide ((x7 : Int) < 0))
 (Q (.bool false) H)
 (regex_Valid_21 nx35 Q E x0 l0 c0 x3 l3 c3 x4 x5 x7 x19 l19 c19 x20 x21 H)

def regex_Valid_23_M (nx35 : Int → HP) (Q : QT) (E : ET) (τ : Tau) (H : Heap) : Prop := mSl (τ 0) fun x0 l0 c0 => mSl (τ 3) fun x3 l3 c3 => mI .i64 (τ 4) fun x4 => mP (τ 5) fun x5 => mI .i64 (τ 7) fun x7 => mSl (τ 19) fun x19 l19 c19 => mI .i64 (τ 20) fun x20 => mI .i64 (τ 21) fun x21 => regex_Valid_23 nx35 Q E x0 l0 c0 x3 l3 c3 x4 x5 x7 x19 l19 c19 x20 x21 H

theorem regex_Valid_24ok (nx35 : Int → HP) (Q : QT) (E : ET) (τ : Tau) (H : Heap) (h : regex_Valid_23_M nx35 Q E τ H) : vc Pr regex_Valid_p38 τ (regex_Valid_q17 nx35 Q E) E H :=
  vSl (i := 0) h (fun x0 l0 c0 h => vSl (i := 3) h (fun x3 l3 c3 h => vI (i := 4) h (fun x4 h => vP (i := 5) h (fun x5 h => vI (i := 7) h (fun x7 h => vSl (i := 19) h (fun x19 l19 c19 h => vI (i := 20) h (fun x20 h => vI (i := 21) h (fun x21 h => (conv (by kernel_rfl) h)))))))))

theorem regex_Valid_25ok (nx35 : Int → HP) (Q : QT) (E : ET) (τ : Tau) (H : Heap) (h : regex_Valid_23_M nx35 Q E τ H) : vc Pr regex_Valid_p36 τ (regex_Valid_q16 nx35 Q E) E H :=
  (conv (B := vc Pr regex_Valid_p36 τ (regex_Valid_q16 nx35 Q E) E H) (by kernel_rfl) (vc_seq (K := (regex_Valid_21_M nx35 Q E)) (regex_Valid_24ok nx35 Q E τ H h) (regex_Valid_22ok nx35 Q E)))

@[reducible] noncomputable def regex_Valid_q18 (nx35 : Int → HP) (Q : QT) (E : ET) : Exit → Tau → Heap → Prop := (xthen (regex_Valid_23_M nx35 Q E) (regex_Valid_q16 nx35 Q E))

@[reducible] noncomputable def regex_Valid_p39 : Code := sA regex_Valid_p35

def regex_Valid_26 (nx35 : Int → HP) (Q : QT) (E : ET) (x0 : OA) (l0 : Nat) (c0 : Nat) (x3 : OA) (l3 : Nat) (c3 : Nat) (x4 : Int) (x5 : OA) (x19 : OA) (l19 : Nat) (c19 : Nat) (x20 : Int) (x21 : Int) (H : Heap) : Prop :=
 regex_Valid_23 nx35 Q E x0 l0 c0 x3 l3 c3 x4 x5 (IntKind.wrap .i64 (x4 - 1)) x19 l19 c19 x20 x21 H

def regex_Valid_26_M (nx35 : Int → HP) (Q : QT) (E : ET) (τ : Tau) (H : Heap) : Prop := mSl (τ 0) fun x0 l0 c0 => mSl (τ 3) fun x3 l3 c3 => mI .i64 (τ 4) fun x4 => mP (τ 5) fun x5 => mSl (τ 19) fun x19 l19 c19 => mI .i64 (τ 20) fun x20 => mI .i64 (τ 21) fun x21 => regex_Valid_26 nx35 Q E x0 l0 c0 x3 l3 c3 x4 x5 x19 l19 c19 x20 x21 H

theorem regex_Valid_27ok (nx35 : Int → HP) (Q : QT) (E : ET) (τ : Tau) (H : Heap) (h : regex_Valid_26_M nx35 Q E τ H) : vc Pr regex_Valid_p39 τ (regex_Valid_q18 nx35 Q E) E H :=
  vSl (i := 0) h (fun x0 l0 c0 h => vSl (i := 3) h (fun x3 l3 c3 h => vI (i := 4) h (fun x4 h => vP (i := 5) h (fun x5 h => vSl (i := 19) h (fun x19 l19 c19 h => vI (i := 20) h (fun x20 h => vI (i := 21) h (fun x21 h => (conv (by kernel_rfl) h))))))))

theorem regex_Valid_28ok (nx35 : Int → HP) (Q : QT) (E : ET) (τ : Tau) (H : Heap) (h : regex_Valid_26_M nx35 Q E τ H) : vc Pr regex_Valid_p35 τ (regex_Valid_q16 nx35 Q E) E H :=
  (conv (B := vc Pr regex_Valid_p35 τ (regex_Valid_q16 nx35 Q E) E H) (by kernel_rfl) (vc_seq (K := (regex_Valid_23_M nx35 Q E)) (regex_Valid_27ok nx35 Q E τ H h) (regex_Valid_25ok nx35 Q E)))

@[reducible] noncomputable def regex_Valid_q19 (nx35 : Int → HP) (Q : QT) (E : ET) : Exit → Tau → Heap → Prop := (xthen (regex_Valid_26_M nx35 Q E) (regex_Valid_q16 nx35 Q E))

@[reducible] noncomputable def regex_Valid_p40 : Code := sA regex_Valid_p34

@[reducible] noncomputable def regex_Valid_q20 (nx35 : Int → HP) (Q : QT) (E : ET) : Exit → Tau → Heap → Prop := (xblock 4 (regex_Valid_q19 nx35 Q E))

@[reducible] noncomputable def regex_Valid_p41 : Code := sI regex_Valid_p40

@[reducible] noncomputable def regex_Valid_q21 (nx35 : Int → HP) (Q : QT) (E : ET) : Exit → Tau → Heap → Prop := (xthen (fun τ H => vc Pr (sB regex_Valid_p41) τ (regex_Valid_q20 nx35 Q E) E H) (regex_Valid_q20 nx35 Q E))

@[reducible] noncomputable def regex_Valid_p42 : Code := sA regex_Valid_p41

@[reducible] noncomputable def regex_Valid_q22 (nx35 : Int → HP) (Q : QT) (E : ET) : Exit → Tau → Heap → Prop := (xblock 3 (regex_Valid_q21 nx35 Q E))

@[reducible] noncomputable def regex_Valid_p43 : Code := sI regex_Valid_p42

@[reducible] noncomputable def regex_Valid_q23 (nx35 : Int → HP) (Q : QT) (E : ET) : Exit → Tau → Heap → Prop := (xthen (fun τ H => vc Pr (sB regex_Valid_p43) τ (regex_Valid_q22 nx35 Q E) E H) (regex_Valid_q22 nx35 Q E))

@[reducible] noncomputable def regex_Valid_p44 : Code := sA regex_Valid_p43

@[reducible] noncomputable def regex_Valid_p45 : Code := sB regex_Valid_p44

@[reducible] noncomputable def regex_Valid_p46 : Code := sB regex_Valid_p45

def regex_Valid_29 (nx35 : Int → HP) (Q : QT) (E : ET) (x0 : OA) (l0 : Nat) (c0 : Nat) (x3 : OA) (l3 : Nat) (c3 : Nat) (x4 : Int) (x5 : OA) (x7 : Int) (x19 : OA) (l19 : Nat) (c19 : Nat) (x20 : Int) (x21 : Int) (x40 : Int) (H : Heap) : Prop :=
 sel ((x40 : Int) == 1)
 (regex_Valid_17 nx35 Q E x0 l0 c0 x3 l3 c3 x4 x5 x7 x19 l19 c19 x20 x21 H)
 (regex_Valid_10 nx35 Q E  H)

def regex_Valid_29_M (nx35 : Int → HP) (Q : QT) (E : ET) (τ : Tau) (H : Heap) : Prop := mSl (τ 0) fun x0 l0 c0 => mSl (τ 3) fun x3 l3 c3 => mI .i64 (τ 4) fun x4 => mP (τ 5) fun x5 => mI .i64 (τ 7) fun x7 => mSl (τ 19) fun x19 l19 c19 => mI .i64 (τ 20) fun x20 => mI .i64 (τ 21) fun x21 => mI .i64 (τ 40) fun x40 => regex_Valid_29 nx35 Q E x0 l0 c0 x3 l3 c3 x4 x5 x7 x19 l19 c19 x20 x21 x40 H

theorem regex_Valid_30ok (nx35 : Int → HP) (Q : QT) (E : ET) (τ : Tau) (H : Heap) (h : regex_Valid_29_M nx35 Q E τ H) : vc Pr regex_Valid_p46 τ (regex_Valid_q23 nx35 Q E) E H :=
  vSl (i := 0) h (fun x0 l0 c0 h => vSl (i := 3) h (fun x3 l3 c3 h => vI (i := 4) h (fun x4 h => vP (i := 5) h (fun x5 h => vI (i := 7) h (fun x7 h => vSl (i := 19) h (fun x19 l19 c19 h => vI (i := 20) h (fun x20 h => vI (i := 21) h (fun x21 h => vI (i := 40) h (fun x40 h => (conv (by kernel_rfl) h))))))))))

@[reducible] noncomputable def regex_Valid_q24 (nx35 : Int → HP) (Q : QT) (E : ET) : Exit → Tau → Heap → Prop := (xthen (regex_Valid_29_M nx35 Q E) (regex_Valid_q23 nx35 Q E))

@[reducible] noncomputable def regex_Valid_p47 : Code := sA regex_Valid_p45

def regex_Valid_31 (nx35 : Int → HP) (Q : QT) (E : ET) (x0 : OA) (l0 : Nat) (c0 : Nat) (x3 : OA) (l3 : Nat) (c3 : Nat) (x4 : Int) (x5 : OA) (x7 : Int) (x19 : OA) (l19 : Nat) (c19 : Nat) (x20 : Int) (x21 : Int) (x40 : Int) (H : Heap) : Prop :=
 sel ((x40 : Int) == 2)
 (regex_Valid_26 nx35 Q E x0 l0 c0 x3 l3 c3 x4 x5 x19 l19 c19 x20 x21 H)
 (regex_Valid_29 nx35 Q E x0 l0 c0 x3 l3 c3 x4 x5 x7 x19 l19 c19 x20 x21 x40 H)

def regex_Valid_31_M (nx35 : Int → HP) (Q : QT) (E : ET) (τ : Tau) (H : Heap) : Prop := mSl (τ 0) fun x0 l0 c0 => mSl (τ 3) fun x3 l3 c3 => mI .i64 (τ 4) fun x4 => mP (τ 5) fun x5 => mI .i64 (τ 7) fun x7 => mSl (τ 19) fun x19 l19 c19 => mI .i64 (τ 20) fun x20 => mI .i64 (τ 21) fun x21 => mI .i64 (τ 40) fun x40 => regex_Valid_31 nx35 Q E x0 l0 c0 x3 l3 c3 x4 x5 x7 x19 l19 c19 x20 x21 x40 H

theorem regex_Valid_32ok (nx35 : Int → HP) (Q : QT) (E : ET) (τ : Tau) (H : Heap) (h : regex_Valid_31_M nx35 Q E τ H) : vc Pr regex_Valid_p47 τ (regex_Valid_q24 nx35 Q E) E H :=
  vSl (i := 0) h (fun x0 l0 c0 h => vSl (i := 3) h (fun x3 l3 c3 h => vI (i := 4) h (fun x4 h => vP (i := 5) h (fun x5 h => vI (i := 7) h (fun x7 h => vSl (i := 19) h (fun x19 l19 c19 h => vI (i := 20) h (fun x20 h => vI (i := 21) h (fun x21 h => vI (i := 40) h (fun x40 h => (conv (by kernel_rfl) h))))))))))

theorem regex_Valid_33ok (nx35 : Int → HP) (Q : QT) (E : ET) (τ : Tau) (H : Heap) (h : regex_Valid_31_M nx35 Q E τ H) : vc Pr regex_Valid_p45 τ (regex_Valid_q23 nx35 Q E) E H :=
  (conv (B := vc Pr regex_Valid_p45 τ (regex_Valid_q23 nx35 Q E) E H) (by kernel_rfl) (vc_seq (K := (regex_Valid_29_M nx35 Q E)) (regex_Valid_32ok nx35 Q E τ H h) (regex_Valid_30ok nx35 Q E)))

@[reducible] noncomputable def regex_Valid_q25 (nx35 : Int → HP) (Q : QT) (E : ET) : Exit → Tau → Heap → Prop := (xthen (regex_Valid_31_M nx35 Q E) (regex_Valid_q23 nx35 Q E))

@[reducible] noncomputable def regex_Valid_p48 : Code := sA regex_Valid_p44

def regex_Valid_34 (nx35 : Int → HP) (Q : QT) (E : ET) (x0 : OA) (l0 : Nat) (c0 : Nat) (x3 : OA) (l3 : Nat) (c3 : Nat) (x4 : Int) (x5 : OA) (x6 : Int) (x7 : Int) (x19 : OA) (l19 : Nat) (c19 : Nat) (x20 : Int) (x21 : Int) (x40 : Int) (H : Heap) : Prop :=
 sel ((x40 : Int) == 0)
 (regex_Valid_7 nx35 Q E x0 l0 c0 x3 l3 c3 x5 x6 x7 x19 l19 c19 x20 x21 H)
 (regex_Valid_31 nx35 Q E x0 l0 c0 x3 l3 c3 x4 x5 x7 x19 l19 c19 x20 x21 x40 H)

def regex_Valid_34_M (nx35 : Int → HP) (Q : QT) (E : ET) (τ : Tau) (H : Heap) : Prop := mSl (τ 0) fun x0 l0 c0 => mSl (τ 3) fun x3 l3 c3 => mI .i64 (τ 4) fun x4 => mP (τ 5) fun x5 => mI .i64 (τ 6) fun x6 => mI .i64 (τ 7) fun x7 => mSl (τ 19) fun x19 l19 c19 => mI .i64 (τ 20) fun x20 => mI .i64 (τ 21) fun x21 => mI .i64 (τ 40) fun x40 => regex_Valid_34 nx35 Q E x0 l0 c0 x3 l3 c3 x4 x5 x6 x7 x19 l19 c19 x20 x21 x40 H

theorem regex_Valid_35ok (nx35 : Int → HP) (Q : QT) (E : ET) (τ : Tau) (H : Heap) (h : regex_Valid_34_M nx35 Q E τ H) : vc Pr regex_Valid_p48 τ (regex_Valid_q25 nx35 Q E) E H :=
  vSl (i := 0) h (fun x0 l0 c0 h => vSl (i := 3) h (fun x3 l3 c3 h => vI (i := 4) h (fun x4 h => vP (i := 5) h (fun x5 h => vI (i := 6) h (fun x6 h => vI (i := 7) h (fun x7 h => vSl (i := 19) h (fun x19 l19 c19 h => vI (i := 20) h (fun x20 h => vI (i := 21) h (fun x21 h => vI (i := 40) h (fun x40 h => (conv (by kernel_rfl) h)))))))))))

theorem regex_Valid_36ok (nx35 : Int → HP) (Q : QT) (E : ET) (τ : Tau) (H : Heap) (h : regex_Valid_34_M nx35 Q E τ H) : vc Pr regex_Valid_p44 τ (regex_Valid_q23 nx35 Q E) E H :=
  (conv (B := vc Pr regex_Valid_p44 τ (regex_Valid_q23 nx35 Q E) E H) (by kernel_rfl) (vc_seq (K := (regex_Valid_31_M nx35 Q E)) (regex_Valid_35ok nx35 Q E τ H h) (regex_Valid_33ok nx35 Q E)))

theorem regex_Valid_37ok (nx35 : Int → HP) (Q : QT) (E : ET) (τ : Tau) (H : Heap) (h : regex_Valid_34_M nx35 Q E τ H) : vc Pr regex_Valid_p43 τ (regex_Valid_q22 nx35 Q E) E H :=
  (conv (B := vc Pr regex_Valid_p43 τ (regex_Valid_q22 nx35 Q E) E H) (by kernel_rfl) (regex_Valid_36ok nx35 Q E τ H h))

theorem regex_Valid_38ok (nx35 : Int → HP) (Q : QT) (E : ET) (τ : Tau) (H : Heap) (h : regex_Valid_34_M nx35 Q E τ H) : vc Pr regex_Valid_p42 τ (regex_Valid_q21 nx35 Q E) E H :=
  (conv (B := vc Pr regex_Valid_p42 τ (regex_Valid_q21 nx35 Q E) E H) (by kernel_rfl) (regex_Valid_37ok nx35 Q E τ H h))

theorem regex_Valid_39ok (nx35 : Int → HP) (Q : QT) (E : ET) (τ : Tau) (H : Heap) (h : regex_Valid_34_M nx35 Q E τ H) : vc Pr regex_Valid_p41 τ (regex_Valid_q20 nx35 Q E) E H :=
  (conv (B := vc Pr regex_Valid_p41 τ (regex_Valid_q20 nx35 Q E) E H) (by kernel_rfl) (regex_Valid_38ok nx35 Q E τ H h))

theorem regex_Valid_40ok (nx35 : Int → HP) (Q : QT) (E : ET) (τ : Tau) (H : Heap) (h : regex_Valid_34_M nx35 Q E τ H) : vc Pr regex_Valid_p40 τ (regex_Valid_q19 nx35 Q E) E H :=
  (conv (B := vc Pr regex_Valid_p40 τ (regex_Valid_q19 nx35 Q E) E H) (by kernel_rfl) (regex_Valid_39ok nx35 Q E τ H h))

theorem regex_Valid_41ok (nx35 : Int → HP) (Q : QT) (E : ET) (τ : Tau) (H : Heap) (h : regex_Valid_34_M nx35 Q E τ H) : vc Pr regex_Valid_p34 τ (regex_Valid_q16 nx35 Q E) E H :=
  (conv (B := vc Pr regex_Valid_p34 τ (regex_Valid_q16 nx35 Q E) E H) (by kernel_rfl) (vc_seq (K := (regex_Valid_26_M nx35 Q E)) (regex_Valid_40ok nx35 Q E τ H h) (regex_Valid_28ok nx35 Q E)))

theorem regex_Valid_42ok (nx35 : Int → HP) (Q : QT) (E : ET) (τ : Tau) (H : Heap) (h : regex_Valid_34_M nx35 Q E τ H) : vc Pr regex_Valid_p33 τ (regex_Valid_q15 nx35 Q E) E H :=
  (conv (B := vc Pr regex_Valid_p33 τ (regex_Valid_q15 nx35 Q E) E H) (by kernel_rfl) (regex_Valid_41ok nx35 Q E τ H h))

theorem regex_Valid_43ok (nx35 : Int → HP) (Q : QT) (E : ET) (τ : Tau) (H : Heap) (h : regex_Valid_34_M nx35 Q E τ H) : vc Pr regex_Valid_p26 τ (regex_Valid_q11 nx35 Q E) E H :=
  (conv (B := vc Pr regex_Valid_p26 τ (regex_Valid_q11 nx35 Q E) E H) (by kernel_rfl) (vc_seq (K := (regex_Valid_17_M nx35 Q E)) (regex_Valid_42ok nx35 Q E τ H h) (regex_Valid_20ok nx35 Q E)))

theorem regex_Valid_44ok (nx35 : Int → HP) (Q : QT) (E : ET) (τ : Tau) (H : Heap) (h : regex_Valid_34_M nx35 Q E τ H) : vc Pr regex_Valid_p25 τ (regex_Valid_q10 nx35 Q E) E H :=
  (conv (B := vc Pr regex_Valid_p25 τ (regex_Valid_q10 nx35 Q E) E H) (by kernel_rfl) (regex_Valid_43ok nx35 Q E τ H h))

theorem regex_Valid_45ok (nx35 : Int → HP) (Q : QT) (E : ET) (τ : Tau) (H : Heap) (h : regex_Valid_34_M nx35 Q E τ H) : vc Pr regex_Valid_p23 τ (regex_Valid_q9 nx35 Q E) E H :=
  (conv (B := vc Pr regex_Valid_p23 τ (regex_Valid_q9 nx35 Q E) E H) (by kernel_rfl) (vc_seq (K := (regex_Valid_10_M nx35 Q E)) (regex_Valid_44ok nx35 Q E τ H h) (regex_Valid_11ok nx35 Q E)))

theorem regex_Valid_46ok (nx35 : Int → HP) (Q : QT) (E : ET) (τ : Tau) (H : Heap) (h : regex_Valid_34_M nx35 Q E τ H) : vc Pr regex_Valid_p22 τ (regex_Valid_q8 nx35 Q E) E H :=
  (conv (B := vc Pr regex_Valid_p22 τ (regex_Valid_q8 nx35 Q E) E H) (by kernel_rfl) (regex_Valid_45ok nx35 Q E τ H h))

@[reducible] noncomputable def regex_Valid_q26 (nx35 : Int → HP) (Q : QT) (E : ET) : Exit → Tau → Heap → Prop := (xthen (regex_Valid_34_M nx35 Q E) (regex_Valid_q8 nx35 Q E))

@[reducible] noncomputable def regex_Valid_p49 : Code := sA regex_Valid_p21

def regex_Valid_47 (nx35 : Int → HP) (Q : QT) (E : ET) (x0 : OA) (l0 : Nat) (c0 : Nat) (x3 : OA) (l3 : Nat) (c3 : Nat) (x4 : Int) (x5 : OA) (x6 : Int) (x7 : Int) (x19 : OA) (l19 : Nat) (c19 : Nat) (x20 : Int) (x21 : Int) (H : Heap) : Prop :=
 ptr x5 fun q164 =>
 ldI .i64 q164 H fun n165 =>
 Does Pr 74 #[(.int .i64 n165)] H (fun v166 H167 =>
 ∃ n168 : Int, v166 = (.int .i64 n168) ∧ regex_Valid_34 nx35 Q E x0 l0 c0 x3 l3 c3 x4 x5 x6 x7 x19 l19 c19 x20 x21 n168 H167) E

def regex_Valid_47_M (nx35 : Int → HP) (Q : QT) (E : ET) (τ : Tau) (H : Heap) : Prop := mSl (τ 0) fun x0 l0 c0 => mSl (τ 3) fun x3 l3 c3 => mI .i64 (τ 4) fun x4 => mP (τ 5) fun x5 => mI .i64 (τ 6) fun x6 => mI .i64 (τ 7) fun x7 => mSl (τ 19) fun x19 l19 c19 => mI .i64 (τ 20) fun x20 => mI .i64 (τ 21) fun x21 => regex_Valid_47 nx35 Q E x0 l0 c0 x3 l3 c3 x4 x5 x6 x7 x19 l19 c19 x20 x21 H

theorem regex_Valid_48ok (nx35 : Int → HP) (Q : QT) (E : ET) (τ : Tau) (H : Heap) (h : regex_Valid_47_M nx35 Q E τ H) : vc Pr regex_Valid_p49 τ (regex_Valid_q26 nx35 Q E) E H :=
  vSl (i := 0) h (fun x0 l0 c0 h => vSl (i := 3) h (fun x3 l3 c3 h => vI (i := 4) h (fun x4 h => vP (i := 5) h (fun x5 h => vI (i := 6) h (fun x6 h => vI (i := 7) h (fun x7 h => vSl (i := 19) h (fun x19 l19 c19 h => vI (i := 20) h (fun x20 h => vI (i := 21) h (fun x21 h => (conv (by kernel_rfl) h))))))))))

theorem regex_Valid_49ok (nx35 : Int → HP) (Q : QT) (E : ET) (τ : Tau) (H : Heap) (h : regex_Valid_47_M nx35 Q E τ H) : vc Pr regex_Valid_p21 τ (regex_Valid_q8 nx35 Q E) E H :=
  (conv (B := vc Pr regex_Valid_p21 τ (regex_Valid_q8 nx35 Q E) E H) (by kernel_rfl) (vc_seq (K := (regex_Valid_34_M nx35 Q E)) (regex_Valid_48ok nx35 Q E τ H h) (regex_Valid_46ok nx35 Q E)))

theorem regex_Valid_50ok (nx35 : Int → HP) (Q : QT) (E : ET) (τ : Tau) (H : Heap) (h : regex_Valid_47_M nx35 Q E τ H) : vc Pr regex_Valid_p17 τ (regex_Valid_q6 nx35 Q E) E H :=
  (conv (B := vc Pr regex_Valid_p17 τ (regex_Valid_q6 nx35 Q E) E H) (by kernel_rfl) (vc_seq (K := (regex_Valid_7_M nx35 Q E)) (regex_Valid_49ok nx35 Q E τ H h) (regex_Valid_9ok nx35 Q E)))

@[reducible] noncomputable def regex_Valid_q27 (nx35 : Int → HP) (Q : QT) (E : ET) : Exit → Tau → Heap → Prop := (xthen (regex_Valid_47_M nx35 Q E) (regex_Valid_q6 nx35 Q E))

@[reducible] noncomputable def regex_Valid_p50 : Code := sA regex_Valid_p16

def regex_Valid_51 (nx35 : Int → HP) (Q : QT) (E : ET) (x0 : OA) (l0 : Nat) (c0 : Nat) (x3 : OA) (l3 : Nat) (c3 : Nat) (x4 : Int) (x5 : OA) (x6 : Int) (x7 : Int) (x19 : OA) (l19 : Nat) (c19 : Nat) (x20 : Int) (x21 : Int) (H : Heap) : Prop :=
 (0 ≤ (x4 : Int) ∧ (x4 : Int) < ((l3 : Nat) : Int)) ∧ ptr x3 fun q169 =>
 wr (Addr.add q169 ((x4 : Int).toNat * 1)) [(.int .i64 1)] H fun H170 =>
 regex_Valid_47 nx35 Q E x0 l0 c0 x3 l3 c3 x4 x5 x6 x7 x19 l19 c19 x20 x21 H170

def regex_Valid_51_M (nx35 : Int → HP) (Q : QT) (E : ET) (τ : Tau) (H : Heap) : Prop := mSl (τ 0) fun x0 l0 c0 => mSl (τ 3) fun x3 l3 c3 => mI .i64 (τ 4) fun x4 => mP (τ 5) fun x5 => mI .i64 (τ 6) fun x6 => mI .i64 (τ 7) fun x7 => mSl (τ 19) fun x19 l19 c19 => mI .i64 (τ 20) fun x20 => mI .i64 (τ 21) fun x21 => regex_Valid_51 nx35 Q E x0 l0 c0 x3 l3 c3 x4 x5 x6 x7 x19 l19 c19 x20 x21 H

theorem regex_Valid_52ok (nx35 : Int → HP) (Q : QT) (E : ET) (τ : Tau) (H : Heap) (h : regex_Valid_51_M nx35 Q E τ H) : vc Pr regex_Valid_p50 τ (regex_Valid_q27 nx35 Q E) E H :=
  vSl (i := 0) h (fun x0 l0 c0 h => vSl (i := 3) h (fun x3 l3 c3 h => vI (i := 4) h (fun x4 h => vP (i := 5) h (fun x5 h => vI (i := 6) h (fun x6 h => vI (i := 7) h (fun x7 h => vSl (i := 19) h (fun x19 l19 c19 h => vI (i := 20) h (fun x20 h => vI (i := 21) h (fun x21 h => (conv (by kernel_rfl) h))))))))))

theorem regex_Valid_53ok (nx35 : Int → HP) (Q : QT) (E : ET) (τ : Tau) (H : Heap) (h : regex_Valid_51_M nx35 Q E τ H) : vc Pr regex_Valid_p16 τ (regex_Valid_q6 nx35 Q E) E H :=
  (conv (B := vc Pr regex_Valid_p16 τ (regex_Valid_q6 nx35 Q E) E H) (by kernel_rfl) (vc_seq (K := (regex_Valid_47_M nx35 Q E)) (regex_Valid_52ok nx35 Q E τ H h) (regex_Valid_50ok nx35 Q E)))

@[reducible] noncomputable def regex_Valid_q28 (nx35 : Int → HP) (Q : QT) (E : ET) : Exit → Tau → Heap → Prop := (xthen (regex_Valid_51_M nx35 Q E) (regex_Valid_q6 nx35 Q E))

@[reducible] noncomputable def regex_Valid_p51 : Code := sA regex_Valid_p15

def regex_Valid_54 (nx35 : Int → HP) (Q : QT) (E : ET) (x0 : OA) (l0 : Nat) (c0 : Nat) (x3 : OA) (l3 : Nat) (c3 : Nat) (x4 : Int) (x5 : OA) (x19 : OA) (l19 : Nat) (c19 : Nat) (x20 : Int) (x21 : Int) (H : Heap) : Prop :=
 regex_Valid_51 nx35 Q E x0 l0 c0 x3 l3 c3 x4 x5 0 0 x19 l19 c19 x20 x21 H

def regex_Valid_54_M (nx35 : Int → HP) (Q : QT) (E : ET) (τ : Tau) (H : Heap) : Prop := mSl (τ 0) fun x0 l0 c0 => mSl (τ 3) fun x3 l3 c3 => mI .i64 (τ 4) fun x4 => mP (τ 5) fun x5 => mSl (τ 19) fun x19 l19 c19 => mI .i64 (τ 20) fun x20 => mI .i64 (τ 21) fun x21 => regex_Valid_54 nx35 Q E x0 l0 c0 x3 l3 c3 x4 x5 x19 l19 c19 x20 x21 H

theorem regex_Valid_55ok (nx35 : Int → HP) (Q : QT) (E : ET) (τ : Tau) (H : Heap) (h : regex_Valid_54_M nx35 Q E τ H) : vc Pr regex_Valid_p51 τ (regex_Valid_q28 nx35 Q E) E H :=
  vSl (i := 0) h (fun x0 l0 c0 h => vSl (i := 3) h (fun x3 l3 c3 h => vI (i := 4) h (fun x4 h => vP (i := 5) h (fun x5 h => vSl (i := 19) h (fun x19 l19 c19 h => vI (i := 20) h (fun x20 h => vI (i := 21) h (fun x21 h => (conv (by kernel_rfl) h))))))))

theorem regex_Valid_56ok (nx35 : Int → HP) (Q : QT) (E : ET) (τ : Tau) (H : Heap) (h : regex_Valid_54_M nx35 Q E τ H) : vc Pr regex_Valid_p15 τ (regex_Valid_q6 nx35 Q E) E H :=
  (conv (B := vc Pr regex_Valid_p15 τ (regex_Valid_q6 nx35 Q E) E H) (by kernel_rfl) (vc_seq (K := (regex_Valid_51_M nx35 Q E)) (regex_Valid_55ok nx35 Q E τ H h) (regex_Valid_53ok nx35 Q E)))

@[reducible] noncomputable def regex_Valid_q29 (nx35 : Int → HP) (Q : QT) (E : ET) : Exit → Tau → Heap → Prop := (xthen (regex_Valid_54_M nx35 Q E) (regex_Valid_q6 nx35 Q E))

@[reducible] noncomputable def regex_Valid_p52 : Code := sA regex_Valid_p14

@[reducible] noncomputable def regex_Valid_p53 : Code := sB regex_Valid_p52

def regex_Valid_57 (nx35 : Int → HP) (Q : QT) (E : ET) (x0 : OA) (l0 : Nat) (c0 : Nat) (x3 : OA) (l3 : Nat) (c3 : Nat) (x4 : Int) (x5 : OA) (x19 : OA) (l19 : Nat) (c19 : Nat) (x20 : Int) (x21 : Int) (x34 : Bool) (H : Heap) : Prop :=
 sel x34
 (Q (.bool false) H)
 (regex_Valid_54 nx35 Q E x0 l0 c0 x3 l3 c3 x4 x5 x19 l19 c19 x20 x21 H)

def regex_Valid_57_M (nx35 : Int → HP) (Q : QT) (E : ET) (τ : Tau) (H : Heap) : Prop := mSl (τ 0) fun x0 l0 c0 => mSl (τ 3) fun x3 l3 c3 => mI .i64 (τ 4) fun x4 => mP (τ 5) fun x5 => mSl (τ 19) fun x19 l19 c19 => mI .i64 (τ 20) fun x20 => mI .i64 (τ 21) fun x21 => mB (τ 34) fun x34 => regex_Valid_57 nx35 Q E x0 l0 c0 x3 l3 c3 x4 x5 x19 l19 c19 x20 x21 x34 H

theorem regex_Valid_58ok (nx35 : Int → HP) (Q : QT) (E : ET) (τ : Tau) (H : Heap) (h : regex_Valid_57_M nx35 Q E τ H) : vc Pr regex_Valid_p53 τ (regex_Valid_q29 nx35 Q E) E H :=
  vSl (i := 0) h (fun x0 l0 c0 h => vSl (i := 3) h (fun x3 l3 c3 h => vI (i := 4) h (fun x4 h => vP (i := 5) h (fun x5 h => vSl (i := 19) h (fun x19 l19 c19 h => vI (i := 20) h (fun x20 h => vI (i := 21) h (fun x21 h => vB (i := 34) h (fun x34 h => (conv (by kernel_rfl) h)))))))))

@[reducible] noncomputable def regex_Valid_q30 (nx35 : Int → HP) (Q : QT) (E : ET) : Exit → Tau → Heap → Prop := (xthen (regex_Valid_57_M nx35 Q E) (regex_Valid_q29 nx35 Q E))

@[reducible] noncomputable def regex_Valid_p54 : Code := sA regex_Valid_p52

def regex_Valid_59 (nx35 : Int → HP) (Q : QT) (E : ET) (x0 : OA) (l0 : Nat) (c0 : Nat) (x3 : OA) (l3 : Nat) (c3 : Nat) (x4 : Int) (x5 : OA) (x19 : OA) (l19 : Nat) (c19 : Nat) (x20 : Int) (x21 : Int) (H : Heap) : Prop :=
 ptr x5 fun q176 =>
 ldI .i64 q176 H fun n177 =>
 sel ((n177 : Int) != 2)
 (ptr x5 fun q178 =>
 ∃ n179 n180 n181 n182 : Int, Heap.rd H (Addr.add q178 3) 0 [(.int .u64 n179), (.int .u64 n180), (.int .u64 n181), (.int .u64 n182)] ∧ regex_Valid_57 nx35 Q E x0 l0 c0 x3 l3 c3 x4 x5 x19 l19 c19 x20 x21 (!(eqVs [(.int .u64 n179), (.int .u64 n180), (.int .u64 n181), (.int .u64 n182)] [(.int .u64 0), (.int .u64 0), (.int .u64 0), (.int .u64 0)])) H)
 (regex_Valid_57 nx35 Q E x0 l0 c0 x3 l3 c3 x4 x5 x19 l19 c19 x20 x21 false H)

def regex_Valid_59_M (nx35 : Int → HP) (Q : QT) (E : ET) (τ : Tau) (H : Heap) : Prop := mSl (τ 0) fun x0 l0 c0 => mSl (τ 3) fun x3 l3 c3 => mI .i64 (τ 4) fun x4 => mP (τ 5) fun x5 => mSl (τ 19) fun x19 l19 c19 => mI .i64 (τ 20) fun x20 => mI .i64 (τ 21) fun x21 => regex_Valid_59 nx35 Q E x0 l0 c0 x3 l3 c3 x4 x5 x19 l19 c19 x20 x21 H

theorem regex_Valid_60ok (nx35 : Int → HP) (Q : QT) (E : ET) (τ : Tau) (H : Heap) (h : regex_Valid_59_M nx35 Q E τ H) : vc Pr regex_Valid_p54 τ (regex_Valid_q30 nx35 Q E) E H :=
  vSl (i := 0) h (fun x0 l0 c0 h => vSl (i := 3) h (fun x3 l3 c3 h => vI (i := 4) h (fun x4 h => vP (i := 5) h (fun x5 h => vSl (i := 19) h (fun x19 l19 c19 h => vI (i := 20) h (fun x20 h => vI (i := 21) h (fun x21 h => (conv (by kernel_rfl) h))))))))

theorem regex_Valid_61ok (nx35 : Int → HP) (Q : QT) (E : ET) (τ : Tau) (H : Heap) (h : regex_Valid_59_M nx35 Q E τ H) : vc Pr regex_Valid_p52 τ (regex_Valid_q29 nx35 Q E) E H :=
  (conv (B := vc Pr regex_Valid_p52 τ (regex_Valid_q29 nx35 Q E) E H) (by kernel_rfl) (vc_seq (K := (regex_Valid_57_M nx35 Q E)) (regex_Valid_60ok nx35 Q E τ H h) (regex_Valid_58ok nx35 Q E)))

theorem regex_Valid_62ok (nx35 : Int → HP) (Q : QT) (E : ET) (τ : Tau) (H : Heap) (h : regex_Valid_59_M nx35 Q E τ H) : vc Pr regex_Valid_p14 τ (regex_Valid_q6 nx35 Q E) E H :=
  (conv (B := vc Pr regex_Valid_p14 τ (regex_Valid_q6 nx35 Q E) E H) (by kernel_rfl) (vc_seq (K := (regex_Valid_54_M nx35 Q E)) (regex_Valid_61ok nx35 Q E τ H h) (regex_Valid_56ok nx35 Q E)))

@[reducible] noncomputable def regex_Valid_q31 (nx35 : Int → HP) (Q : QT) (E : ET) : Exit → Tau → Heap → Prop := (xthen (regex_Valid_59_M nx35 Q E) (regex_Valid_q6 nx35 Q E))

@[reducible] noncomputable def regex_Valid_p55 : Code := sA regex_Valid_p13

def regex_Valid_63 (nx35 : Int → HP) (Q : QT) (E : ET) (x0 : OA) (l0 : Nat) (c0 : Nat) (x3 : OA) (l3 : Nat) (c3 : Nat) (x19 : OA) (l19 : Nat) (c19 : Nat) (x20 : Int) (x21 : Int) (H : Heap) : Prop :=
 (0 ≤ (x21 : Int) ∧ (x21 : Int) < ((l19 : Nat) : Int)) ∧ ptr x19 fun q183 =>
 ∃ n184 n185 n186 n187 n188 n189 n190 : Int, Heap.rd H (Addr.add q183 ((x21 : Int).toNat * 7)) 0 [(.int .i64 n184), (.int .i64 n185), (.int .i64 n186), (.int .u64 n187), (.int .u64 n188), (.int .u64 n189), (.int .u64 n190)] ∧ nw (.cells #[(.int .i64 0), (.int .i64 0), (.int .i64 0), (.int .u64 0), (.int .u64 0), (.int .u64 0), (.int .u64 0)] 48 (0, 0)) H fun i191 H192 =>
 wr ⟨i191, 0, none⟩ [(.int .i64 n184), (.int .i64 n185), (.int .i64 n186), (.int .u64 n187), (.int .u64 n188), (.int .u64 n189), (.int .u64 n190)] H192 fun H193 =>
 regex_Valid_59 nx35 Q E x0 l0 c0 x3 l3 c3 x21 (some ⟨i191, 0, none⟩) x19 l19 c19 x20 x21 H193

def regex_Valid_63_M (nx35 : Int → HP) (Q : QT) (E : ET) (τ : Tau) (H : Heap) : Prop := mSl (τ 0) fun x0 l0 c0 => mSl (τ 3) fun x3 l3 c3 => mSl (τ 19) fun x19 l19 c19 => mI .i64 (τ 20) fun x20 => mI .i64 (τ 21) fun x21 => regex_Valid_63 nx35 Q E x0 l0 c0 x3 l3 c3 x19 l19 c19 x20 x21 H

theorem regex_Valid_64ok (nx35 : Int → HP) (Q : QT) (E : ET) (τ : Tau) (H : Heap) (h : regex_Valid_63_M nx35 Q E τ H) : vc Pr regex_Valid_p55 τ (regex_Valid_q31 nx35 Q E) E H :=
  vSl (i := 0) h (fun x0 l0 c0 h => vSl (i := 3) h (fun x3 l3 c3 h => vSl (i := 19) h (fun x19 l19 c19 h => vI (i := 20) h (fun x20 h => vI (i := 21) h (fun x21 h => (conv (by kernel_rfl) h))))))

theorem regex_Valid_65ok (nx35 : Int → HP) (Q : QT) (E : ET) (τ : Tau) (H : Heap) (h : regex_Valid_63_M nx35 Q E τ H) : vc Pr regex_Valid_p13 τ (regex_Valid_q6 nx35 Q E) E H :=
  (conv (B := vc Pr regex_Valid_p13 τ (regex_Valid_q6 nx35 Q E) E H) (by kernel_rfl) (vc_seq (K := (regex_Valid_59_M nx35 Q E)) (regex_Valid_64ok nx35 Q E τ H h) (regex_Valid_62ok nx35 Q E)))

theorem regex_Valid_66ok (nx35 : Int → HP) (Q : QT) (E : ET) (τ : Tau) (H : Heap) (h : regex_Valid_63_M nx35 Q E τ H) : vc Pr regex_Valid_p12 τ (regex_Valid_q5 nx35 Q E) E H :=
  (conv (B := vc Pr regex_Valid_p12 τ (regex_Valid_q5 nx35 Q E) E H) (by kernel_rfl) (regex_Valid_65ok nx35 Q E τ H h))

theorem regex_Valid_67ok (nx35 : Int → HP) (Q : QT) (E : ET) (τ : Tau) (H : Heap) (h : regex_Valid_63_M nx35 Q E τ H) : vc Pr regex_Valid_p10 τ (regex_Valid_q4 nx35 Q E) E H :=
  (conv (B := vc Pr regex_Valid_p10 τ (regex_Valid_q4 nx35 Q E) E H) (by kernel_rfl) (vc_seq (K := (regex_Valid_3_M nx35 Q E)) (regex_Valid_66ok nx35 Q E τ H h) (regex_Valid_4ok nx35 Q E)))

@[reducible] noncomputable def regex_Valid_q32 (nx35 : Int → HP) (Q : QT) (E : ET) : Exit → Tau → Heap → Prop := (xthen (regex_Valid_63_M nx35 Q E) (regex_Valid_q4 nx35 Q E))

@[reducible] noncomputable def regex_Valid_p56 : Code := sA regex_Valid_p9

def regex_Valid_68 (nx35 : Int → HP) (Q : QT) (E : ET) (x0 : OA) (l0 : Nat) (c0 : Nat) (x3 : OA) (l3 : Nat) (c3 : Nat) (x19 : OA) (l19 : Nat) (c19 : Nat) (x20 : Int) (x21 : Int) (x22 : Bool) (H : Heap) : Prop :=
 sel x22
 (regex_Valid_63 nx35 Q E x0 l0 c0 x3 l3 c3 x19 l19 c19 x20 x21 H)
 (regex_Valid_1 Q E x0 l0 c0 x3 l3 c3 H)

def regex_Valid_68_M (nx35 : Int → HP) (Q : QT) (E : ET) (τ : Tau) (H : Heap) : Prop := mSl (τ 0) fun x0 l0 c0 => mSl (τ 3) fun x3 l3 c3 => mSl (τ 19) fun x19 l19 c19 => mI .i64 (τ 20) fun x20 => mI .i64 (τ 21) fun x21 => mB (τ 22) fun x22 => regex_Valid_68 nx35 Q E x0 l0 c0 x3 l3 c3 x19 l19 c19 x20 x21 x22 H

theorem regex_Valid_69ok (nx35 : Int → HP) (Q : QT) (E : ET) (τ : Tau) (H : Heap) (h : regex_Valid_68_M nx35 Q E τ H) : vc Pr regex_Valid_p56 τ (regex_Valid_q32 nx35 Q E) E H :=
  vSl (i := 0) h (fun x0 l0 c0 h => vSl (i := 3) h (fun x3 l3 c3 h => vSl (i := 19) h (fun x19 l19 c19 h => vI (i := 20) h (fun x20 h => vI (i := 21) h (fun x21 h => vB (i := 22) h (fun x22 h => (conv (by kernel_rfl) h)))))))

theorem regex_Valid_70ok (nx35 : Int → HP) (Q : QT) (E : ET) (τ : Tau) (H : Heap) (h : regex_Valid_68_M nx35 Q E τ H) : vc Pr regex_Valid_p9 τ (regex_Valid_q4 nx35 Q E) E H :=
  (conv (B := vc Pr regex_Valid_p9 τ (regex_Valid_q4 nx35 Q E) E H) (by kernel_rfl) (vc_seq (K := (regex_Valid_63_M nx35 Q E)) (regex_Valid_69ok nx35 Q E τ H h) (regex_Valid_67ok nx35 Q E)))

@[reducible] noncomputable def regex_Valid_q33 (nx35 : Int → HP) (Q : QT) (E : ET) : Exit → Tau → Heap → Prop := (xthen (regex_Valid_68_M nx35 Q E) (regex_Valid_q4 nx35 Q E))

@[reducible] noncomputable def regex_Valid_p57 : Code := sA regex_Valid_p8

def regex_Valid_71 (nx35 : Int → HP) (Q : QT) (E : ET) (x0 : OA) (l0 : Nat) (c0 : Nat) (x3 : OA) (l3 : Nat) (c3 : Nat) (x19 : OA) (l19 : Nat) (c19 : Nat) (x20 : Int) (x21 : Int) (H : Heap) : Prop :=
 regex_Valid_68 nx35 Q E x0 l0 c0 x3 l3 c3 x19 l19 c19 x20 x21 (decide ((x21 : Int) < x20)) H

def regex_Valid_71_M (nx35 : Int → HP) (Q : QT) (E : ET) (τ : Tau) (H : Heap) : Prop := mSl (τ 0) fun x0 l0 c0 => mSl (τ 3) fun x3 l3 c3 => mSl (τ 19) fun x19 l19 c19 => mI .i64 (τ 20) fun x20 => mI .i64 (τ 21) fun x21 => regex_Valid_71 nx35 Q E x0 l0 c0 x3 l3 c3 x19 l19 c19 x20 x21 H

theorem regex_Valid_72ok (nx35 : Int → HP) (Q : QT) (E : ET) (τ : Tau) (H : Heap) (h : regex_Valid_71_M nx35 Q E τ H) : vc Pr regex_Valid_p57 τ (regex_Valid_q33 nx35 Q E) E H :=
  vSl (i := 0) h (fun x0 l0 c0 h => vSl (i := 3) h (fun x3 l3 c3 h => vSl (i := 19) h (fun x19 l19 c19 h => vI (i := 20) h (fun x20 h => vI (i := 21) h (fun x21 h => (conv (by kernel_rfl) h))))))

theorem regex_Valid_73ok (nx35 : Int → HP) (Q : QT) (E : ET) (τ : Tau) (H : Heap) (h : regex_Valid_71_M nx35 Q E τ H) : vc Pr regex_Valid_p8 τ (regex_Valid_q4 nx35 Q E) E H :=
  (conv (B := vc Pr regex_Valid_p8 τ (regex_Valid_q4 nx35 Q E) E H) (by kernel_rfl) (vc_seq (K := (regex_Valid_68_M nx35 Q E)) (regex_Valid_72ok nx35 Q E τ H h) (regex_Valid_70ok nx35 Q E)))

def regex_Valid_74 (Q : QT) (E : ET) (x0 : OA) (l0 : Nat) (c0 : Nat) (x3 : OA) (l3 : Nat) (c3 : Nat) (x19 : OA) (l19 : Nat) (c19 : Nat) (x20 : Int) (x21 : Int) (H : Heap) : Prop :=
 ∃ (I : Int → HP) (μ : Int → Heap → Nat), I x21 H ∧ ∀ (x21 : Int) (H : Heap), I x21 H →
 regex_Valid_71 (fun x21' H1 => I x21' H1 ∧ μ x21' H1 < μ x21 H) Q E x0 l0 c0 x3 l3 c3 x19 l19 c19 x20 x21 H

def regex_Valid_74_M (Q : QT) (E : ET) (τ : Tau) (H : Heap) : Prop := mSl (τ 0) fun x0 l0 c0 => mSl (τ 3) fun x3 l3 c3 => mSl (τ 19) fun x19 l19 c19 => mI .i64 (τ 20) fun x20 => mI .i64 (τ 21) fun x21 => regex_Valid_74 Q E x0 l0 c0 x3 l3 c3 x19 l19 c19 x20 x21 H

theorem regex_Valid_75ok (Q : QT) (E : ET) (τ : Tau) (H : Heap) (h : regex_Valid_74_M Q E τ H) : vc Pr regex_Valid_p7 τ (regex_Valid_q3 Q E) E H :=
  vSl (i := 0) h (fun x0 l0 c0 h => vSl (i := 3) h (fun x3 l3 c3 h => vSl (i := 19) h (fun x19 l19 c19 h => vI (i := 20) h (fun x20 h => vI (i := 21) h (fun x21 h => match h with | ⟨I, μ, h0, hr⟩ => (conv (B := vc Pr regex_Valid_p7 (Tau.upd (Tau.upd (Tau.upd (Tau.upd (Tau.upd τ 0 (.slice x0 l0 c0)) 3 (.slice x3 l3 c3)) 19 (.slice x19 l19 c19)) 20 (.int .i64 x20)) 21 (.int .i64 x21)) (regex_Valid_q3 Q E) E H) (by kernel_rfl) (vc_loop (c := sI regex_Valid_p7) (τ := (Tau.upd (Tau.upd (Tau.upd (Tau.upd (Tau.upd τ 0 (.slice x0 l0 c0)) 3 (.slice x3 l3 c3)) 19 (.slice x19 l19 c19)) 20 (.int .i64 x20)) 21 (.int .i64 x21))) [0, 3, 19, 20] (fun τ H => mI .i64 (τ 21) fun x21' => I x21' H) (fun τ H => μ (gI (τ 21)) H) (by kernel_rfl) h0 (fun τ1 H1 hf hI => fix_elim (τ := τ1) (i := 0) (v := (.slice x0 l0 c0)) (G := fun τ => vc Pr (sI regex_Valid_p7) τ (xthen (fun τ2 H2 => (mI .i64 (τ2 21) fun x21' => I x21' H2) ∧ μ (gI (τ2 21)) H2 < μ (gI (τ 21)) H1) (regex_Valid_q3 Q E)) E H1) (hf 0 (by simp)) (fix_elim (τ := (Tau.upd τ1 0 (.slice x0 l0 c0))) (i := 3) (v := (.slice x3 l3 c3)) (G := fun τ => vc Pr (sI regex_Valid_p7) τ (xthen (fun τ2 H2 => (mI .i64 (τ2 21) fun x21' => I x21' H2) ∧ μ (gI (τ2 21)) H2 < μ (gI (τ 21)) H1) (regex_Valid_q3 Q E)) E H1) (hf 3 (by simp)) (fix_elim (τ := (Tau.upd (Tau.upd τ1 0 (.slice x0 l0 c0)) 3 (.slice x3 l3 c3))) (i := 19) (v := (.slice x19 l19 c19)) (G := fun τ => vc Pr (sI regex_Valid_p7) τ (xthen (fun τ2 H2 => (mI .i64 (τ2 21) fun x21' => I x21' H2) ∧ μ (gI (τ2 21)) H2 < μ (gI (τ 21)) H1) (regex_Valid_q3 Q E)) E H1) (hf 19 (by simp)) (fix_elim (τ := (Tau.upd (Tau.upd (Tau.upd τ1 0 (.slice x0 l0 c0)) 3 (.slice x3 l3 c3)) 19 (.slice x19 l19 c19))) (i := 20) (v := (.int .i64 x20)) (G := fun τ => vc Pr (sI regex_Valid_p7) τ (xthen (fun τ2 H2 => (mI .i64 (τ2 21) fun x21' => I x21' H2) ∧ μ (gI (τ2 21)) H2 < μ (gI (τ 21)) H1) (regex_Valid_q3 Q E)) E H1) (hf 20 (by simp)) (mI_elim (i := 21) (G := fun τ => vc Pr (sI regex_Valid_p7) τ (xthen (fun τ2 H2 => (mI .i64 (τ2 21) fun x21' => I x21' H2) ∧ μ (gI (τ2 21)) H2 < μ (gI (τ 21)) H1) (regex_Valid_q3 Q E)) E H1) hI (fun x21r h => (conv (B := vc Pr (sI regex_Valid_p7) (Tau.upd (Tau.upd (Tau.upd (Tau.upd (Tau.upd τ1 0 (.slice x0 l0 c0)) 3 (.slice x3 l3 c3)) 19 (.slice x19 l19 c19)) 20 (.int .i64 x20)) 21 (.int .i64 x21r)) (xthen (fun τ2 H2 => (mI .i64 (τ2 21) fun x21' => I x21' H2) ∧ μ (gI (τ2 21)) H2 < μ (gI ((Tau.upd (Tau.upd (Tau.upd (Tau.upd (Tau.upd τ1 0 (.slice x0 l0 c0)) 3 (.slice x3 l3 c3)) 19 (.slice x19 l19 c19)) 20 (.int .i64 x20)) 21 (.int .i64 x21r)) 21)) H1) (regex_Valid_q3 Q E)) E H1) (by kernel_rfl) (vc_xthen (regex_Valid_73ok (fun x21' H2 => I x21' H2 ∧ μ x21' H2 < μ x21r H1) Q E (Tau.upd (Tau.upd (Tau.upd (Tau.upd (Tau.upd τ1 0 (.slice x0 l0 c0)) 3 (.slice x3 l3 c3)) 19 (.slice x19 l19 c19)) 20 (.int .i64 x20)) 21 (.int .i64 x21r)) H1 (conv (B := regex_Valid_71_M (fun x21' H2 => I x21' H2 ∧ μ x21' H2 < μ x21r H1) Q E (Tau.upd (Tau.upd (Tau.upd (Tau.upd (Tau.upd τ1 0 (.slice x0 l0 c0)) 3 (.slice x3 l3 c3)) 19 (.slice x19 l19 c19)) 20 (.int .i64 x20)) 21 (.int .i64 x21r)) H1) (by kernel_rfl) (hr x21r H1 h))) (fun τ2 H2 hk => mI_elim (i := 21) (G := fun τ => (mI .i64 (τ 21) fun x21' => I x21' H2) ∧ μ (gI (τ 21)) H2 < μ x21r H1) hk (fun x21' h => h)))))))))))))))))

theorem regex_Valid_76ok (Q : QT) (E : ET) (τ : Tau) (H : Heap) (h : regex_Valid_74_M Q E τ H) : vc Pr regex_Valid_p6 τ (regex_Valid_q2 Q E) E H :=
  (conv (B := vc Pr regex_Valid_p6 τ (regex_Valid_q2 Q E) E H) (by kernel_rfl) (regex_Valid_75ok Q E τ H h))

@[reducible] noncomputable def regex_Valid_q34 (Q : QT) (E : ET) : Exit → Tau → Heap → Prop := (xthen (regex_Valid_74_M Q E) (regex_Valid_q2 Q E))

@[reducible] noncomputable def regex_Valid_p58 : Code := sA regex_Valid_p5

def regex_Valid_77 (Q : QT) (E : ET) (x0 : OA) (l0 : Nat) (c0 : Nat) (x3 : OA) (l3 : Nat) (c3 : Nat) (H : Heap) : Prop :=
 regex_Valid_74 Q E x0 l0 c0 x3 l3 c3 x0 l0 c0 ((l0 : Nat) : Int) 0 H

def regex_Valid_77_M (Q : QT) (E : ET) (τ : Tau) (H : Heap) : Prop := mSl (τ 0) fun x0 l0 c0 => mSl (τ 3) fun x3 l3 c3 => regex_Valid_77 Q E x0 l0 c0 x3 l3 c3 H

theorem regex_Valid_78ok (Q : QT) (E : ET) (τ : Tau) (H : Heap) (h : regex_Valid_77_M Q E τ H) : vc Pr regex_Valid_p58 τ (regex_Valid_q34 Q E) E H :=
  vSl (i := 0) h (fun x0 l0 c0 h => vSl (i := 3) h (fun x3 l3 c3 h => (conv (by kernel_rfl) h)))

theorem regex_Valid_79ok (Q : QT) (E : ET) (τ : Tau) (H : Heap) (h : regex_Valid_77_M Q E τ H) : vc Pr regex_Valid_p5 τ (regex_Valid_q2 Q E) E H :=
  (conv (B := vc Pr regex_Valid_p5 τ (regex_Valid_q2 Q E) E H) (by kernel_rfl) (vc_seq (K := (regex_Valid_74_M Q E)) (regex_Valid_78ok Q E τ H h) (regex_Valid_76ok Q E)))

theorem regex_Valid_80ok (Q : QT) (E : ET) (τ : Tau) (H : Heap) (h : regex_Valid_77_M Q E τ H) : vc Pr regex_Valid_p3 τ (regex_Valid_q1 Q E) E H :=
  (conv (B := vc Pr regex_Valid_p3 τ (regex_Valid_q1 Q E) E H) (by kernel_rfl) (vc_seq (K := (regex_Valid_1_M Q E)) (regex_Valid_79ok Q E τ H h) (regex_Valid_2ok Q E)))

@[reducible] noncomputable def regex_Valid_q35 (Q : QT) (E : ET) : Exit → Tau → Heap → Prop := (xthen (regex_Valid_77_M Q E) (regex_Valid_q1 Q E))

@[reducible] noncomputable def regex_Valid_p59 : Code := sA regex_Valid_p2

def regex_Valid_81 (Q : QT) (E : ET) (x0 : OA) (l0 : Nat) (c0 : Nat) (H : Heap) : Prop :=
 (0 ≤ (((l0 : Nat) : Int) : Int) ∧ (((l0 : Nat) : Int) : Int) ≤ ((l0 : Nat) : Int) ∧ (((l0 : Nat) : Int) : Int) ≤ 281474976710656 ∧ ((8 : Nat) : Int) * ((l0 : Nat) : Int) ≤ 281474976710656) ∧ nw (.cells (rep (((l0 : Nat) : Int) : Int).toNat [(.int .i64 0)]).toArray 3 (0, 0)) H fun i194 H195 =>
 regex_Valid_77 Q E x0 l0 c0 (some ⟨i194, 0, none⟩) ((((l0 : Nat) : Int) : Int).toNat) ((((l0 : Nat) : Int) : Int).toNat) H195

def regex_Valid_81_M (Q : QT) (E : ET) (τ : Tau) (H : Heap) : Prop := mSl (τ 0) fun x0 l0 c0 => regex_Valid_81 Q E x0 l0 c0 H

theorem regex_Valid_82ok (Q : QT) (E : ET) (τ : Tau) (H : Heap) (h : regex_Valid_81_M Q E τ H) : vc Pr regex_Valid_p59 τ (regex_Valid_q35 Q E) E H :=
  vSl (i := 0) h (fun x0 l0 c0 h => (conv (by kernel_rfl) h))

theorem regex_Valid_83ok (Q : QT) (E : ET) (τ : Tau) (H : Heap) (h : regex_Valid_81_M Q E τ H) : vc Pr regex_Valid_p2 τ (regex_Valid_q1 Q E) E H :=
  (conv (B := vc Pr regex_Valid_p2 τ (regex_Valid_q1 Q E) E H) (by kernel_rfl) (vc_seq (K := (regex_Valid_77_M Q E)) (regex_Valid_82ok Q E τ H h) (regex_Valid_80ok Q E)))

@[reducible] noncomputable def regex_Valid_q36 (Q : QT) (E : ET) : Exit → Tau → Heap → Prop := (xthen (regex_Valid_81_M Q E) (regex_Valid_q1 Q E))

@[reducible] noncomputable def regex_Valid_p60 : Code := sA regex_Valid_p1

@[reducible] noncomputable def regex_Valid_p61 : Code := sB regex_Valid_p60

def regex_Valid_84 (Q : QT) (E : ET) (x0 : OA) (l0 : Nat) (c0 : Nat) (x15 : Bool) (H : Heap) : Prop :=
 sel x15
 (Q (.bool false) H)
 (regex_Valid_81 Q E x0 l0 c0 H)

def regex_Valid_84_M (Q : QT) (E : ET) (τ : Tau) (H : Heap) : Prop := mSl (τ 0) fun x0 l0 c0 => mB (τ 15) fun x15 => regex_Valid_84 Q E x0 l0 c0 x15 H

theorem regex_Valid_85ok (Q : QT) (E : ET) (τ : Tau) (H : Heap) (h : regex_Valid_84_M Q E τ H) : vc Pr regex_Valid_p61 τ (regex_Valid_q36 Q E) E H :=
  vSl (i := 0) h (fun x0 l0 c0 h => vB (i := 15) h (fun x15 h => (conv (by kernel_rfl) h)))

@[reducible] noncomputable def regex_Valid_q37 (Q : QT) (E : ET) : Exit → Tau → Heap → Prop := (xthen (regex_Valid_84_M Q E) (regex_Valid_q36 Q E))

@[reducible] noncomputable def regex_Valid_p62 : Code := sA regex_Valid_p60

def regex_Valid_86 (Q : QT) (E : ET) (x0 : OA) (l0 : Nat) (c0 : Nat) (H : Heap) : Prop :=
 sel ((((l0 : Nat) : Int) : Int) == 0)
 (regex_Valid_84 Q E x0 l0 c0 true H)
 (regex_Valid_84 Q E x0 l0 c0 (decide ((((l0 : Nat) : Int) : Int) > 256)) H)

def regex_Valid_86_M (Q : QT) (E : ET) (τ : Tau) (H : Heap) : Prop := mSl (τ 0) fun x0 l0 c0 => regex_Valid_86 Q E x0 l0 c0 H

theorem regex_Valid_87ok (Q : QT) (E : ET) (τ : Tau) (H : Heap) (h : regex_Valid_86_M Q E τ H) : vc Pr regex_Valid_p62 τ (regex_Valid_q37 Q E) E H :=
  vSl (i := 0) h (fun x0 l0 c0 h => (conv (by kernel_rfl) h))

theorem regex_Valid_88ok (Q : QT) (E : ET) (τ : Tau) (H : Heap) (h : regex_Valid_86_M Q E τ H) : vc Pr regex_Valid_p60 τ (regex_Valid_q36 Q E) E H :=
  (conv (B := vc Pr regex_Valid_p60 τ (regex_Valid_q36 Q E) E H) (by kernel_rfl) (vc_seq (K := (regex_Valid_84_M Q E)) (regex_Valid_87ok Q E τ H h) (regex_Valid_85ok Q E)))

theorem regex_Valid_89ok (Q : QT) (E : ET) (τ : Tau) (H : Heap) (h : regex_Valid_86_M Q E τ H) : vc Pr regex_Valid_p1 τ (regex_Valid_q1 Q E) E H :=
  (conv (B := vc Pr regex_Valid_p1 τ (regex_Valid_q1 Q E) E H) (by kernel_rfl) (vc_seq (K := (regex_Valid_81_M Q E)) (regex_Valid_88ok Q E τ H h) (regex_Valid_83ok Q E)))

@[reducible] noncomputable def regex_Valid_q38 (Q : QT) (E : ET) : Exit → Tau → Heap → Prop := (xthen (regex_Valid_86_M Q E) (regex_Valid_q1 Q E))

@[reducible] noncomputable def regex_Valid_p63 : Code := sA regex_Valid_p0

def regex_Valid (Q : QT) (E : ET) (a0 : OA) (a0l : Nat) (a0c : Nat) (H : Heap) : Prop :=
 regex_Valid_86 Q E a0 a0l a0c H

theorem regex_Valid_fn (a0 : OA) (a0l : Nat) (a0c : Nat) (Q : QT) (E : ET) (H : Heap) (h : regex_Valid Q E a0 a0l a0c H)   : Does Pr 40 #[(.slice a0 a0l a0c)] H Q E :=
  Fn_of_vc (fn := Try.f40) (c := regex_Valid_p0) (args := [(.slice a0 a0l a0c)]) mixed (by kernel_rfl) (by kernel_rfl) (by kernel_rfl) (by kernel_rfl) (by kernel_rfl) ((conv (B := vc Pr regex_Valid_p0 (argT [(.slice a0 a0l a0c)]) (regex_Valid_q1 Q E) E H) (by kernel_rfl) (vc_seq (K := (regex_Valid_86_M Q E)) (conv (B := vc Pr regex_Valid_p63 (argT [(.slice a0 a0l a0c)]) (regex_Valid_q38 Q E) E H) (by kernel_rfl) h) (regex_Valid_89ok Q E))))

/-! jobmux/regex.Kids -/
@[reducible] noncomputable def regex_Kids_q1 (Q : QT) (E : ET) : Exit → Tau → Heap → Prop := (retQ Pr (Try.f74).results.toList Q)

@[reducible] noncomputable def regex_Kids_p0 : Code := bodyOf Try.f74

@[reducible] noncomputable def regex_Kids_p1 : Code := sB regex_Kids_p0

@[reducible] noncomputable def regex_Kids_p2 : Code := sB regex_Kids_p1

def regex_Kids_1 (Q : QT) (E : ET)  (H : Heap) : Prop :=
 Q (.int .i64 (-1)) H

def regex_Kids_1_M (Q : QT) (E : ET) (τ : Tau) (H : Heap) : Prop := regex_Kids_1 Q E  H

theorem regex_Kids_2ok (Q : QT) (E : ET) (τ : Tau) (H : Heap) (h : regex_Kids_1_M Q E τ H) : vc Pr regex_Kids_p2 τ (regex_Kids_q1 Q E) E H :=
  (conv (B := vc Pr regex_Kids_p2 τ (regex_Kids_q1 Q E) E H) (by kernel_rfl) h)

@[reducible] noncomputable def regex_Kids_q2 (Q : QT) (E : ET) : Exit → Tau → Heap → Prop := (xthen (regex_Kids_1_M Q E) (regex_Kids_q1 Q E))

@[reducible] noncomputable def regex_Kids_p3 : Code := sA regex_Kids_p1

@[reducible] noncomputable def regex_Kids_p4 : Code := sB regex_Kids_p3

@[reducible] noncomputable def regex_Kids_q3 (Q : QT) (E : ET) : Exit → Tau → Heap → Prop := (xblock 0 (regex_Kids_q2 Q E))

@[reducible] noncomputable def regex_Kids_p5 : Code := sI regex_Kids_p4

@[reducible] noncomputable def regex_Kids_p6 : Code := sB regex_Kids_p5

@[reducible] noncomputable def regex_Kids_p7 : Code := sT regex_Kids_p6

def regex_Kids_3 (Q : QT) (E : ET)  (H : Heap) : Prop :=
 Q (.int .i64 0) H

def regex_Kids_3_M (Q : QT) (E : ET) (τ : Tau) (H : Heap) : Prop := regex_Kids_3 Q E  H

theorem regex_Kids_4ok (Q : QT) (E : ET) (τ : Tau) (H : Heap) (h : regex_Kids_3_M Q E τ H) : vc Pr regex_Kids_p7 τ (regex_Kids_q3 Q E) E H :=
  (conv (B := vc Pr regex_Kids_p7 τ (regex_Kids_q3 Q E) E H) (by kernel_rfl) h)

@[reducible] noncomputable def regex_Kids_p8 : Code := sE regex_Kids_p6

@[reducible] noncomputable def regex_Kids_p9 : Code := sB regex_Kids_p8

@[reducible] noncomputable def regex_Kids_p10 : Code := sT regex_Kids_p9

def regex_Kids_5 (Q : QT) (E : ET)  (H : Heap) : Prop :=
 Q (.int .i64 1) H

def regex_Kids_5_M (Q : QT) (E : ET) (τ : Tau) (H : Heap) : Prop := regex_Kids_5 Q E  H

theorem regex_Kids_6ok (Q : QT) (E : ET) (τ : Tau) (H : Heap) (h : regex_Kids_5_M Q E τ H) : vc Pr regex_Kids_p10 τ (regex_Kids_q3 Q E) E H :=
  (conv (B := vc Pr regex_Kids_p10 τ (regex_Kids_q3 Q E) E H) (by kernel_rfl) h)

@[reducible] noncomputable def regex_Kids_p11 : Code := sE regex_Kids_p9

@[reducible] noncomputable def regex_Kids_p12 : Code := sB regex_Kids_p11

def regex_Kids_7 (Q : QT) (E : ET) (x13 : Bool) (H : Heap) : Prop :=
 sel x13
 (Q (.int .i64 2) H)
 (regex_Kids_1 Q E  H)

def regex_Kids_7_M (Q : QT) (E : ET) (τ : Tau) (H : Heap) : Prop := mB (τ 13) fun x13 => regex_Kids_7 Q E x13 H

theorem regex_Kids_8ok (Q : QT) (E : ET) (τ : Tau) (H : Heap) (h : regex_Kids_7_M Q E τ H) : vc Pr regex_Kids_p12 τ (regex_Kids_q3 Q E) E H :=
  vB (i := 13) h (fun x13 h => (conv (by kernel_rfl) h))

@[reducible] noncomputable def regex_Kids_q4 (Q : QT) (E : ET) : Exit → Tau → Heap → Prop := (xthen (regex_Kids_7_M Q E) (regex_Kids_q3 Q E))

@[reducible] noncomputable def regex_Kids_p13 : Code := sA regex_Kids_p11

def regex_Kids_9 (Q : QT) (E : ET) (x3 : Int) (H : Heap) : Prop :=
 sel ((x3 : Int) == 3)
 (regex_Kids_7 Q E ((x3 : Int) == 3) H)
 (regex_Kids_7 Q E ((x3 : Int) == 4) H)

def regex_Kids_9_M (Q : QT) (E : ET) (τ : Tau) (H : Heap) : Prop := mI .i64 (τ 3) fun x3 => regex_Kids_9 Q E x3 H

theorem regex_Kids_10ok (Q : QT) (E : ET) (τ : Tau) (H : Heap) (h : regex_Kids_9_M Q E τ H) : vc Pr regex_Kids_p13 τ (regex_Kids_q4 Q E) E H :=
  vI (i := 3) h (fun x3 h => (conv (by kernel_rfl) h))

theorem regex_Kids_11ok (Q : QT) (E : ET) (τ : Tau) (H : Heap) (h : regex_Kids_9_M Q E τ H) : vc Pr regex_Kids_p11 τ (regex_Kids_q3 Q E) E H :=
  (conv (B := vc Pr regex_Kids_p11 τ (regex_Kids_q3 Q E) E H) (by kernel_rfl) (vc_seq (K := (regex_Kids_7_M Q E)) (regex_Kids_10ok Q E τ H h) (regex_Kids_8ok Q E)))

def regex_Kids_12 (Q : QT) (E : ET) (x3 : Int) (x9 : Bool) (H : Heap) : Prop :=
 sel x9
 (regex_Kids_5 Q E  H)
 (regex_Kids_9 Q E x3 H)

def regex_Kids_12_M (Q : QT) (E : ET) (τ : Tau) (H : Heap) : Prop := mI .i64 (τ 3) fun x3 => mB (τ 9) fun x9 => regex_Kids_12 Q E x3 x9 H

theorem regex_Kids_13ok (Q : QT) (E : ET) (τ : Tau) (H : Heap) (h : regex_Kids_12_M Q E τ H) : vc Pr regex_Kids_p9 τ (regex_Kids_q3 Q E) E H :=
  vI (i := 3) h (fun x3 h => vB (i := 9) h (fun x9 h => (conv (B := vc Pr regex_Kids_p9 (Tau.upd (Tau.upd τ 3 (.int .i64 x3)) 9 (.bool x9)) (regex_Kids_q3 Q E) E H) (by kernel_rfl) (sel_map (regex_Kids_6ok Q E (Tau.upd (Tau.upd τ 3 (.int .i64 x3)) 9 (.bool x9)) H) (regex_Kids_11ok Q E (Tau.upd (Tau.upd τ 3 (.int .i64 x3)) 9 (.bool x9)) H) (conv (B := sel x9 (regex_Kids_5_M Q E (Tau.upd (Tau.upd τ 3 (.int .i64 x3)) 9 (.bool x9)) H) (regex_Kids_9_M Q E (Tau.upd (Tau.upd τ 3 (.int .i64 x3)) 9 (.bool x9)) H)) (by kernel_rfl) h)))))

@[reducible] noncomputable def regex_Kids_q5 (Q : QT) (E : ET) : Exit → Tau → Heap → Prop := (xthen (regex_Kids_12_M Q E) (regex_Kids_q3 Q E))

@[reducible] noncomputable def regex_Kids_p14 : Code := sA regex_Kids_p8

def regex_Kids_14 (Q : QT) (E : ET) (x3 : Int) (H : Heap) : Prop :=
 sel ((x3 : Int) == 5)
 (regex_Kids_12 Q E x3 ((x3 : Int) == 5) H)
 (sel ((x3 : Int) == 6)
 (regex_Kids_12 Q E x3 ((x3 : Int) == 6) H)
 (regex_Kids_12 Q E x3 ((x3 : Int) == 7) H))

def regex_Kids_14_M (Q : QT) (E : ET) (τ : Tau) (H : Heap) : Prop := mI .i64 (τ 3) fun x3 => regex_Kids_14 Q E x3 H

theorem regex_Kids_15ok (Q : QT) (E : ET) (τ : Tau) (H : Heap) (h : regex_Kids_14_M Q E τ H) : vc Pr regex_Kids_p14 τ (regex_Kids_q5 Q E) E H :=
  vI (i := 3) h (fun x3 h => (conv (by kernel_rfl) h))

theorem regex_Kids_16ok (Q : QT) (E : ET) (τ : Tau) (H : Heap) (h : regex_Kids_14_M Q E τ H) : vc Pr regex_Kids_p8 τ (regex_Kids_q3 Q E) E H :=
  (conv (B := vc Pr regex_Kids_p8 τ (regex_Kids_q3 Q E) E H) (by kernel_rfl) (vc_seq (K := (regex_Kids_12_M Q E)) (regex_Kids_15ok Q E τ H h) (regex_Kids_13ok Q E)))

def regex_Kids_17 (Q : QT) (E : ET) (x3 : Int) (x4 : Bool) (H : Heap) : Prop :=
 sel x4
 (regex_Kids_3 Q E  H)
 (regex_Kids_14 Q E x3 H)

def regex_Kids_17_M (Q : QT) (E : ET) (τ : Tau) (H : Heap) : Prop := mI .i64 (τ 3) fun x3 => mB (τ 4) fun x4 => regex_Kids_17 Q E x3 x4 H

theorem regex_Kids_18ok (Q : QT) (E : ET) (τ : Tau) (H : Heap) (h : regex_Kids_17_M Q E τ H) : vc Pr regex_Kids_p6 τ (regex_Kids_q3 Q E) E H :=
  vI (i := 3) h (fun x3 h => vB (i := 4) h (fun x4 h => (conv (B := vc Pr regex_Kids_p6 (Tau.upd (Tau.upd τ 3 (.int .i64 x3)) 4 (.bool x4)) (regex_Kids_q3 Q E) E H) (by kernel_rfl) (sel_map (regex_Kids_4ok Q E (Tau.upd (Tau.upd τ 3 (.int .i64 x3)) 4 (.bool x4)) H) (regex_Kids_16ok Q E (Tau.upd (Tau.upd τ 3 (.int .i64 x3)) 4 (.bool x4)) H) (conv (B := sel x4 (regex_Kids_3_M Q E (Tau.upd (Tau.upd τ 3 (.int .i64 x3)) 4 (.bool x4)) H) (regex_Kids_14_M Q E (Tau.upd (Tau.upd τ 3 (.int .i64 x3)) 4 (.bool x4)) H)) (by kernel_rfl) h)))))

@[reducible] noncomputable def regex_Kids_q6 (Q : QT) (E : ET) : Exit → Tau → Heap → Prop := (xthen (regex_Kids_17_M Q E) (regex_Kids_q3 Q E))

@[reducible] noncomputable def regex_Kids_p15 : Code := sA regex_Kids_p5

def regex_Kids_19 (Q : QT) (E : ET) (x3 : Int) (H : Heap) : Prop :=
 sel ((x3 : Int) == 1)
 (regex_Kids_17 Q E x3 ((x3 : Int) == 1) H)
 (sel ((x3 : Int) == 2)
 (regex_Kids_17 Q E x3 ((x3 : Int) == 2) H)
 (sel ((x3 : Int) == 8)
 (regex_Kids_17 Q E x3 ((x3 : Int) == 8) H)
 (regex_Kids_17 Q E x3 ((x3 : Int) == 9) H)))

def regex_Kids_19_M (Q : QT) (E : ET) (τ : Tau) (H : Heap) : Prop := mI .i64 (τ 3) fun x3 => regex_Kids_19 Q E x3 H

theorem regex_Kids_20ok (Q : QT) (E : ET) (τ : Tau) (H : Heap) (h : regex_Kids_19_M Q E τ H) : vc Pr regex_Kids_p15 τ (regex_Kids_q6 Q E) E H :=
  vI (i := 3) h (fun x3 h => (conv (by kernel_rfl) h))

theorem regex_Kids_21ok (Q : QT) (E : ET) (τ : Tau) (H : Heap) (h : regex_Kids_19_M Q E τ H) : vc Pr regex_Kids_p5 τ (regex_Kids_q3 Q E) E H :=
  (conv (B := vc Pr regex_Kids_p5 τ (regex_Kids_q3 Q E) E H) (by kernel_rfl) (vc_seq (K := (regex_Kids_17_M Q E)) (regex_Kids_20ok Q E τ H h) (regex_Kids_18ok Q E)))

theorem regex_Kids_22ok (Q : QT) (E : ET) (τ : Tau) (H : Heap) (h : regex_Kids_19_M Q E τ H) : vc Pr regex_Kids_p4 τ (regex_Kids_q2 Q E) E H :=
  (conv (B := vc Pr regex_Kids_p4 τ (regex_Kids_q2 Q E) E H) (by kernel_rfl) (regex_Kids_21ok Q E τ H h))

@[reducible] noncomputable def regex_Kids_q7 (Q : QT) (E : ET) : Exit → Tau → Heap → Prop := (xthen (regex_Kids_19_M Q E) (regex_Kids_q2 Q E))

@[reducible] noncomputable def regex_Kids_p16 : Code := sA regex_Kids_p3

def regex_Kids_23 (Q : QT) (E : ET) (x0 : Int) (H : Heap) : Prop :=
 regex_Kids_19 Q E x0 H

def regex_Kids_23_M (Q : QT) (E : ET) (τ : Tau) (H : Heap) : Prop := mI .i64 (τ 0) fun x0 => regex_Kids_23 Q E x0 H

theorem regex_Kids_24ok (Q : QT) (E : ET) (τ : Tau) (H : Heap) (h : regex_Kids_23_M Q E τ H) : vc Pr regex_Kids_p16 τ (regex_Kids_q7 Q E) E H :=
  vI (i := 0) h (fun x0 h => (conv (by kernel_rfl) h))

theorem regex_Kids_25ok (Q : QT) (E : ET) (τ : Tau) (H : Heap) (h : regex_Kids_23_M Q E τ H) : vc Pr regex_Kids_p3 τ (regex_Kids_q2 Q E) E H :=
  (conv (B := vc Pr regex_Kids_p3 τ (regex_Kids_q2 Q E) E H) (by kernel_rfl) (vc_seq (K := (regex_Kids_19_M Q E)) (regex_Kids_24ok Q E τ H h) (regex_Kids_22ok Q E)))

theorem regex_Kids_26ok (Q : QT) (E : ET) (τ : Tau) (H : Heap) (h : regex_Kids_23_M Q E τ H) : vc Pr regex_Kids_p1 τ (regex_Kids_q1 Q E) E H :=
  (conv (B := vc Pr regex_Kids_p1 τ (regex_Kids_q1 Q E) E H) (by kernel_rfl) (vc_seq (K := (regex_Kids_1_M Q E)) (regex_Kids_25ok Q E τ H h) (regex_Kids_2ok Q E)))

@[reducible] noncomputable def regex_Kids_q8 (Q : QT) (E : ET) : Exit → Tau → Heap → Prop := (xthen (regex_Kids_23_M Q E) (regex_Kids_q1 Q E))

@[reducible] noncomputable def regex_Kids_p17 : Code := sA regex_Kids_p0

def regex_Kids (Q : QT) (E : ET) (a0 : Int) (H : Heap) : Prop :=
 regex_Kids_23 Q E a0 H

theorem regex_Kids_fn (a0 : Int) (Q : QT) (E : ET) (H : Heap) (h : regex_Kids Q E a0 H)   : Does Pr 74 #[(.int .i64 a0)] H Q E :=
  Fn_of_vc (fn := Try.f74) (c := regex_Kids_p0) (args := [(.int .i64 a0)]) mixed (by kernel_rfl) (by kernel_rfl) (by kernel_rfl) (by kernel_rfl) (by kernel_rfl) ((conv (B := vc Pr regex_Kids_p0 (argT [(.int .i64 a0)]) (regex_Kids_q1 Q E) E H) (by kernel_rfl) (vc_seq (K := (regex_Kids_23_M Q E)) (conv (B := vc Pr regex_Kids_p17 (argT [(.int .i64 a0)]) (regex_Kids_q8 Q E) E H) (by kernel_rfl) h) (regex_Kids_26ok Q E))))

end Go.Proofs.Ytaffcoiomggpfaa
