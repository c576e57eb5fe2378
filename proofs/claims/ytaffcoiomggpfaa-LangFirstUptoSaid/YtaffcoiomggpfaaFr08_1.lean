import Derived.Test.YtaffcoiomggpfaaVPr
/- Printed by gen.py: the Go functions of package r08 over a heap view, and that the model does so. -/
namespace Go.Proofs.Ytaffcoiomggpfaa
open Go.V
set_option linter.unusedVariables false
set_option maxRecDepth 100000
/-! jobmux/jobmuxref08.Parse -/
@[reducible] noncomputable def zqa_q1 (Q : QT) (E : ET) : Exit → Tau → Heap → Prop := (retQ Pr (Try.f23).results.toList Q)

@[reducible] noncomputable def zqa_p0 : Code := bodyOf Try.f23

@[reducible] noncomputable def zqa_p1 : Code := sB zqa_p0

@[reducible] noncomputable def zqa_p2 : Code := sB zqa_p1

@[reducible] noncomputable def zqa_p3 : Code := sB zqa_p2

@[reducible] noncomputable def zqa_p4 : Code := sB zqa_p3

@[reducible] noncomputable def zqa_p5 : Code := sB zqa_p4

@[reducible] noncomputable def zqa_p6 : Code := sB zqa_p5

@[reducible] noncomputable def zqa_p7 : Code := sB zqa_p6

def zqa_1 (Q : QT) (E : ET) (x5 : OA) (l5 : Nat) (c5 : Nat) (H : Heap) : Prop :=
 Q (.tuple #[(.slice x5 l5 c5), (.int .i64 0)]) H

def zqa_1_M (Q : QT) (E : ET) (τ : Tau) (H : Heap) : Prop := mSl (τ 5) fun x5 l5 c5 => zqa_1 Q E x5 l5 c5 H

theorem zqa_2ok (Q : QT) (E : ET) (τ : Tau) (H : Heap) (h : zqa_1_M Q E τ H) : vc Pr zqa_p7 τ (zqa_q1 Q E) E H :=
  vSl (i := 5) h (fun x5 l5 c5 h => (conv (by kernel_rfl) h))

@[reducible] noncomputable def zqa_q2 (Q : QT) (E : ET) : Exit → Tau → Heap → Prop := (xthen (zqa_1_M Q E) (zqa_q1 Q E))

@[reducible] noncomputable def zqa_p8 : Code := sA zqa_p6

def zqa_3 (Q : QT) (E : ET) (x4 : OA) (x5 : OA) (l5 : Nat) (c5 : Nat) (H : Heap) : Prop :=
 ptr x4 fun q17 =>
 ldI .i64 (Addr.add q17 3) H fun n18 =>
 sel ((n18 : Int) != 0)
 (ptr x4 fun q19 =>
 ldI .i64 (Addr.add q19 3) H fun n20 =>
 Q (.tuple #[(.slice none 0 0), (.int .i64 n20)]) H)
 (zqa_1 Q E x5 l5 c5 H)

def zqa_3_M (Q : QT) (E : ET) (τ : Tau) (H : Heap) : Prop := mP (τ 4) fun x4 => mSl (τ 5) fun x5 l5 c5 => zqa_3 Q E x4 x5 l5 c5 H

theorem zqa_4ok (Q : QT) (E : ET) (τ : Tau) (H : Heap) (h : zqa_3_M Q E τ H) : vc Pr zqa_p8 τ (zqa_q2 Q E) E H :=
  vP (i := 4) h (fun x4 h => vSl (i := 5) h (fun x5 l5 c5 h => (conv (by kernel_rfl) h)))

theorem zqa_5ok (Q : QT) (E : ET) (τ : Tau) (H : Heap) (h : zqa_3_M Q E τ H) : vc Pr zqa_p6 τ (zqa_q1 Q E) E H :=
  (conv (B := vc Pr zqa_p6 τ (zqa_q1 Q E) E H) (by kernel_rfl) (vc_seq (K := (zqa_1_M Q E)) (zqa_4ok Q E τ H h) (zqa_2ok Q E)))

@[reducible] noncomputable def zqa_q3 (Q : QT) (E : ET) : Exit → Tau → Heap → Prop := (xthen (zqa_3_M Q E) (zqa_q1 Q E))

@[reducible] noncomputable def zqa_p9 : Code := sA zqa_p5

@[reducible] noncomputable def zqa_p10 : Code := sB zqa_p9

def zqa_6 (Q : QT) (E : ET) (x4 : OA) (x5 : OA) (l5 : Nat) (c5 : Nat) (x39 : Bool) (H : Heap) : Prop :=
 sel x39
 (Does Pr 57 #[(.pointer x4), (.int .i64 1)] H (fun v22 H23 =>
 zqa_3 Q E x4 x5 l5 c5 H23) E)
 (zqa_3 Q E x4 x5 l5 c5 H)

def zqa_6_M (Q : QT) (E : ET) (τ : Tau) (H : Heap) : Prop := mP (τ 4) fun x4 => mSl (τ 5) fun x5 l5 c5 => mB (τ 39) fun x39 => zqa_6 Q E x4 x5 l5 c5 x39 H

theorem zqa_7ok (Q : QT) (E : ET) (τ : Tau) (H : Heap) (h : zqa_6_M Q E τ H) : vc Pr zqa_p10 τ (zqa_q3 Q E) E H :=
  vP (i := 4) h (fun x4 h => vSl (i := 5) h (fun x5 l5 c5 h => vB (i := 39) h (fun x39 h => (conv (by kernel_rfl) h))))

@[reducible] noncomputable def zqa_q4 (Q : QT) (E : ET) : Exit → Tau → Heap → Prop := (xthen (zqa_6_M Q E) (zqa_q3 Q E))

@[reducible] noncomputable def zqa_p11 : Code := sA zqa_p9

def zqa_8 (Q : QT) (E : ET) (x4 : OA) (x5 : OA) (l5 : Nat) (c5 : Nat) (H : Heap) : Prop :=
 ptr x4 fun q24 =>
 ldI .i64 (Addr.add q24 3) H fun n25 =>
 sel ((n25 : Int) == 0)
 (zqa_6 Q E x4 x5 l5 c5 (decide ((((l5 : Nat) : Int) : Int) > 256)) H)
 (zqa_6 Q E x4 x5 l5 c5 false H)

def zqa_8_M (Q : QT) (E : ET) (τ : Tau) (H : Heap) : Prop := mP (τ 4) fun x4 => mSl (τ 5) fun x5 l5 c5 => zqa_8 Q E x4 x5 l5 c5 H

theorem zqa_9ok (Q : QT) (E : ET) (τ : Tau) (H : Heap) (h : zqa_8_M Q E τ H) : vc Pr zqa_p11 τ (zqa_q4 Q E) E H :=
  vP (i := 4) h (fun x4 h => vSl (i := 5) h (fun x5 l5 c5 h => (conv (by kernel_rfl) h)))

theorem zqa_10ok (Q : QT) (E : ET) (τ : Tau) (H : Heap) (h : zqa_8_M Q E τ H) : vc Pr zqa_p9 τ (zqa_q3 Q E) E H :=
  (conv (B := vc Pr zqa_p9 τ (zqa_q3 Q E) E H) (by kernel_rfl) (vc_seq (K := (zqa_6_M Q E)) (zqa_9ok Q E τ H h) (zqa_7ok Q E)))

theorem zqa_11ok (Q : QT) (E : ET) (τ : Tau) (H : Heap) (h : zqa_8_M Q E τ H) : vc Pr zqa_p5 τ (zqa_q1 Q E) E H :=
  (conv (B := vc Pr zqa_p5 τ (zqa_q1 Q E) E H) (by kernel_rfl) (vc_seq (K := (zqa_3_M Q E)) (zqa_10ok Q E τ H h) (zqa_5ok Q E)))

@[reducible] noncomputable def zqa_q5 (Q : QT) (E : ET) : Exit → Tau → Heap → Prop := (xthen (zqa_8_M Q E) (zqa_q1 Q E))

@[reducible] noncomputable def zqa_p12 : Code := sA zqa_p4

@[reducible] noncomputable def zqa_p13 : Code := sB zqa_p12

def zqa_12 (Q : QT) (E : ET) (x4 : OA) (x5 : OA) (l5 : Nat) (c5 : Nat) (x27 : Bool) (H : Heap) : Prop :=
 sel x27
 (Does Pr 57 #[(.pointer x4), (.int .i64 83)] H (fun v28 H29 =>
 zqa_8 Q E x4 x5 l5 c5 H29) E)
 (zqa_8 Q E x4 x5 l5 c5 H)

def zqa_12_M (Q : QT) (E : ET) (τ : Tau) (H : Heap) : Prop := mP (τ 4) fun x4 => mSl (τ 5) fun x5 l5 c5 => mB (τ 27) fun x27 => zqa_12 Q E x4 x5 l5 c5 x27 H

theorem zqa_13ok (Q : QT) (E : ET) (τ : Tau) (H : Heap) (h : zqa_12_M Q E τ H) : vc Pr zqa_p13 τ (zqa_q5 Q E) E H :=
  vP (i := 4) h (fun x4 h => vSl (i := 5) h (fun x5 l5 c5 h => vB (i := 27) h (fun x27 h => (conv (by kernel_rfl) h))))

@[reducible] noncomputable def zqa_q6 (Q : QT) (E : ET) : Exit → Tau → Heap → Prop := (xthen (zqa_12_M Q E) (zqa_q5 Q E))

@[reducible] noncomputable def zqa_p14 : Code := sA zqa_p12

def zqa_14 (Q : QT) (E : ET) (x0 : ByteArray) (x4 : OA) (x5 : OA) (l5 : Nat) (c5 : Nat) (H : Heap) : Prop :=
 ptr x4 fun q30 =>
 ldI .i64 (Addr.add q30 3) H fun n31 =>
 sel ((n31 : Int) == 0)
 (ptr x4 fun q32 =>
 ldI .i64 (Addr.add q32 1) H fun n33 =>
 zqa_12 Q E x4 x5 l5 c5 (decide ((n33 : Int) < ((ByteArray.size x0 : Nat) : Int))) H)
 (zqa_12 Q E x4 x5 l5 c5 false H)

def zqa_14_M (Q : QT) (E : ET) (τ : Tau) (H : Heap) : Prop := mS (τ 0) fun x0 => mP (τ 4) fun x4 => mSl (τ 5) fun x5 l5 c5 => zqa_14 Q E x0 x4 x5 l5 c5 H

theorem zqa_15ok (Q : QT) (E : ET) (τ : Tau) (H : Heap) (h : zqa_14_M Q E τ H) : vc Pr zqa_p14 τ (zqa_q6 Q E) E H :=
  vS (i := 0) h (fun x0 h => vP (i := 4) h (fun x4 h => vSl (i := 5) h (fun x5 l5 c5 h => (conv (by kernel_rfl) h))))

theorem zqa_16ok (Q : QT) (E : ET) (τ : Tau) (H : Heap) (h : zqa_14_M Q E τ H) : vc Pr zqa_p12 τ (zqa_q5 Q E) E H :=
  (conv (B := vc Pr zqa_p12 τ (zqa_q5 Q E) E H) (by kernel_rfl) (vc_seq (K := (zqa_12_M Q E)) (zqa_15ok Q E τ H h) (zqa_13ok Q E)))

theorem zqa_17ok (Q : QT) (E : ET) (τ : Tau) (H : Heap) (h : zqa_14_M Q E τ H) : vc Pr zqa_p4 τ (zqa_q1 Q E) E H :=
  (conv (B := vc Pr zqa_p4 τ (zqa_q1 Q E) E H) (by kernel_rfl) (vc_seq (K := (zqa_8_M Q E)) (zqa_16ok Q E τ H h) (zqa_11ok Q E)))

@[reducible] noncomputable def zqa_q7 (Q : QT) (E : ET) : Exit → Tau → Heap → Prop := (xthen (zqa_14_M Q E) (zqa_q1 Q E))

@[reducible] noncomputable def zqa_p15 : Code := sA zqa_p3

def zqa_18 (Q : QT) (E : ET) (x0 : ByteArray) (x4 : OA) (H : Heap) : Prop :=
 Does Pr 56 #[(.pointer x4)] H (fun v34 H35 =>
 ∃ (p36 : OA) (l37 c38 : Nat), v34 = (.slice p36 l37 c38) ∧ zqa_14 Q E x0 x4 p36 l37 c38 H35) E

def zqa_18_M (Q : QT) (E : ET) (τ : Tau) (H : Heap) : Prop := mS (τ 0) fun x0 => mP (τ 4) fun x4 => zqa_18 Q E x0 x4 H

theorem zqa_19ok (Q : QT) (E : ET) (τ : Tau) (H : Heap) (h : zqa_18_M Q E τ H) : vc Pr zqa_p15 τ (zqa_q7 Q E) E H :=
  vS (i := 0) h (fun x0 h => vP (i := 4) h (fun x4 h => (conv (by kernel_rfl) h)))

theorem zqa_20ok (Q : QT) (E : ET) (τ : Tau) (H : Heap) (h : zqa_18_M Q E τ H) : vc Pr zqa_p3 τ (zqa_q1 Q E) E H :=
  (conv (B := vc Pr zqa_p3 τ (zqa_q1 Q E) E H) (by kernel_rfl) (vc_seq (K := (zqa_14_M Q E)) (zqa_19ok Q E τ H h) (zqa_17ok Q E)))

@[reducible] noncomputable def zqa_q8 (Q : QT) (E : ET) : Exit → Tau → Heap → Prop := (xthen (zqa_18_M Q E) (zqa_q1 Q E))

@[reducible] noncomputable def zqa_p16 : Code := sA zqa_p2

def zqa_21 (Q : QT) (E : ET) (x0 : ByteArray) (H : Heap) : Prop :=
 nw (.cells #[(.string x0), (.int .i64 0), (.int .i64 0), (.int .i64 0)] 83 (0, 0)) H fun i39 H40 =>
 zqa_18 Q E x0 (some ⟨i39, 0, none⟩) H40

def zqa_21_M (Q : QT) (E : ET) (τ : Tau) (H : Heap) : Prop := mS (τ 0) fun x0 => zqa_21 Q E x0 H

theorem zqa_22ok (Q : QT) (E : ET) (τ : Tau) (H : Heap) (h : zqa_21_M Q E τ H) : vc Pr zqa_p16 τ (zqa_q8 Q E) E H :=
  vS (i := 0) h (fun x0 h => (conv (by kernel_rfl) h))

theorem zqa_23ok (Q : QT) (E : ET) (τ : Tau) (H : Heap) (h : zqa_21_M Q E τ H) : vc Pr zqa_p2 τ (zqa_q1 Q E) E H :=
  (conv (B := vc Pr zqa_p2 τ (zqa_q1 Q E) E H) (by kernel_rfl) (vc_seq (K := (zqa_18_M Q E)) (zqa_22ok Q E τ H h) (zqa_20ok Q E)))

@[reducible] noncomputable def zqa_q9 (Q : QT) (E : ET) : Exit → Tau → Heap → Prop := (xthen (zqa_21_M Q E) (zqa_q1 Q E))

@[reducible] noncomputable def zqa_p17 : Code := sA zqa_p1

def zqa_24 (Q : QT) (E : ET) (x0 : ByteArray) (H : Heap) : Prop :=
 sel (decide ((((ByteArray.size x0 : Nat) : Int) : Int) > 128))
 (Q (.tuple #[(.slice none 0 0), (.int .i64 1)]) H)
 (zqa_21 Q E x0 H)

def zqa_24_M (Q : QT) (E : ET) (τ : Tau) (H : Heap) : Prop := mS (τ 0) fun x0 => zqa_24 Q E x0 H

theorem zqa_25ok (Q : QT) (E : ET) (τ : Tau) (H : Heap) (h : zqa_24_M Q E τ H) : vc Pr zqa_p17 τ (zqa_q9 Q E) E H :=
  vS (i := 0) h (fun x0 h => (conv (by kernel_rfl) h))

theorem zqa_26ok (Q : QT) (E : ET) (τ : Tau) (H : Heap) (h : zqa_24_M Q E τ H) : vc Pr zqa_p1 τ (zqa_q1 Q E) E H :=
  (conv (B := vc Pr zqa_p1 τ (zqa_q1 Q E) E H) (by kernel_rfl) (vc_seq (K := (zqa_21_M Q E)) (zqa_25ok Q E τ H h) (zqa_23ok Q E)))

@[reducible] noncomputable def zqa_q10 (Q : QT) (E : ET) : Exit → Tau → Heap → Prop := (xthen (zqa_24_M Q E) (zqa_q1 Q E))

@[reducible] noncomputable def zqa_p18 : Code := sA zqa_p0

def zqa (Q : QT) (E : ET) (a0 : ByteArray) (H : Heap) : Prop :=
 zqa_24 Q E a0 H

theorem zqa_fn (a0 : ByteArray) (Q : QT) (E : ET) (H : Heap) (h : zqa Q E a0 H)   : Does Pr 23 #[(.string a0)] H Q E :=
  Fn_of_vc (fn := Try.f23) (c := zqa_p0) (args := [(.string a0)]) mixed (by kernel_rfl) (by kernel_rfl) (by kernel_rfl) (by kernel_rfl) (by kernel_rfl) ((conv (B := vc Pr zqa_p0 (argT [(.string a0)]) (zqa_q1 Q E) E H) (by kernel_rfl) (vc_seq (K := (zqa_24_M Q E)) (conv (B := vc Pr zqa_p18 (argT [(.string a0)]) (zqa_q10 Q E) E H) (by kernel_rfl) h) (zqa_26ok Q E))))

/-! jobmux/jobmuxref08.Valid -/
@[reducible] noncomputable def zqb_q1 (Q : QT) (E : ET) : Exit → Tau → Heap → Prop := (retQ Pr (Try.f41).results.toList Q)

@[reducible] noncomputable def zqb_p0 : Code := bodyOf Try.f41

def zqb (Q : QT) (E : ET) (a0 : OA) (a0l : Nat) (a0c : Nat) (H : Heap) : Prop :=
 sel (decide ((((a0l : Nat) : Int) : Int) ≥ 1))
 (sel (decide ((((a0l : Nat) : Int) : Int) ≤ 256))
 (Does Pr 75 #[(.slice a0 a0l a0c), (.int .i64 (IntKind.wrap .i64 (((a0l : Nat) : Int) - 1)))] H (fun v1 H2 =>
 ∃ n3 : Int, v1 = (.int .i64 n3) ∧ Q (.bool ((n3 : Int) == 0)) H2) E)
 (Q (.bool false) H))
 (Q (.bool false) H)

theorem zqb_fn (a0 : OA) (a0l : Nat) (a0c : Nat) (Q : QT) (E : ET) (H : Heap) (h : zqb Q E a0 a0l a0c H)   : Does Pr 41 #[(.slice a0 a0l a0c)] H Q E :=
  Fn_of_vc (fn := Try.f41) (c := zqb_p0) (args := [(.slice a0 a0l a0c)]) mixed (by kernel_rfl) (by kernel_rfl) (by kernel_rfl) (by kernel_rfl) (by kernel_rfl) ((conv (B := vc Pr zqb_p0 (argT [(.slice a0 a0l a0c)]) (zqb_q1 Q E) E H) (by kernel_rfl) h))

/-! jobmux/jobmuxref08.Kids -/
@[reducible] noncomputable def zqc_q1 (Q : QT) (E : ET) : Exit → Tau → Heap → Prop := (retQ Pr (Try.f42).results.toList Q)

@[reducible] noncomputable def zqc_p0 : Code := bodyOf Try.f42

@[reducible] noncomputable def zqc_p1 : Code := sB zqc_p0

@[reducible] noncomputable def zqc_p2 : Code := sB zqc_p1

def zqc_1 (Q : QT) (E : ET)  (H : Heap) : Prop :=
 Q (.int .i64 0) H

def zqc_1_M (Q : QT) (E : ET) (τ : Tau) (H : Heap) : Prop := zqc_1 Q E  H

theorem zqc_2ok (Q : QT) (E : ET) (τ : Tau) (H : Heap) (h : zqc_1_M Q E τ H) : vc Pr zqc_p2 τ (zqc_q1 Q E) E H :=
  (conv (B := vc Pr zqc_p2 τ (zqc_q1 Q E) E H) (by kernel_rfl) h)

@[reducible] noncomputable def zqc_q2 (Q : QT) (E : ET) : Exit → Tau → Heap → Prop := (xthen (zqc_1_M Q E) (zqc_q1 Q E))

@[reducible] noncomputable def zqc_p3 : Code := sA zqc_p1

@[reducible] noncomputable def zqc_p4 : Code := sB zqc_p3

@[reducible] noncomputable def zqc_q3 (Q : QT) (E : ET) : Exit → Tau → Heap → Prop := (xblock 0 (zqc_q2 Q E))

@[reducible] noncomputable def zqc_p5 : Code := sI zqc_p4

@[reducible] noncomputable def zqc_p6 : Code := sB zqc_p5

@[reducible] noncomputable def zqc_p7 : Code := sT zqc_p6

def zqc_3 (Q : QT) (E : ET)  (H : Heap) : Prop :=
 Q (.int .i64 2) H

def zqc_3_M (Q : QT) (E : ET) (τ : Tau) (H : Heap) : Prop := zqc_3 Q E  H

theorem zqc_4ok (Q : QT) (E : ET) (τ : Tau) (H : Heap) (h : zqc_3_M Q E τ H) : vc Pr zqc_p7 τ (zqc_q3 Q E) E H :=
  (conv (B := vc Pr zqc_p7 τ (zqc_q3 Q E) E H) (by kernel_rfl) h)

@[reducible] noncomputable def zqc_p8 : Code := sE zqc_p6

@[reducible] noncomputable def zqc_p9 : Code := sB zqc_p8

def zqc_5 (Q : QT) (E : ET) (x7 : Bool) (H : Heap) : Prop :=
 sel x7
 (Q (.int .i64 1) H)
 (zqc_1 Q E  H)

def zqc_5_M (Q : QT) (E : ET) (τ : Tau) (H : Heap) : Prop := mB (τ 7) fun x7 => zqc_5 Q E x7 H

theorem zqc_6ok (Q : QT) (E : ET) (τ : Tau) (H : Heap) (h : zqc_5_M Q E τ H) : vc Pr zqc_p9 τ (zqc_q3 Q E) E H :=
  vB (i := 7) h (fun x7 h => (conv (by kernel_rfl) h))

@[reducible] noncomputable def zqc_q4 (Q : QT) (E : ET) : Exit → Tau → Heap → Prop := (xthen (zqc_5_M Q E) (zqc_q3 Q E))

@[reducible] noncomputable def zqc_p10 : Code := sA zqc_p8

def zqc_7 (Q : QT) (E : ET) (x3 : Int) (H : Heap) : Prop :=
 sel ((x3 : Int) == 5)
 (zqc_5 Q E ((x3 : Int) == 5) H)
 (sel ((x3 : Int) == 6)
 (zqc_5 Q E ((x3 : Int) == 6) H)
 (zqc_5 Q E ((x3 : Int) == 7) H))

def zqc_7_M (Q : QT) (E : ET) (τ : Tau) (H : Heap) : Prop := mI .i64 (τ 3) fun x3 => zqc_7 Q E x3 H

theorem zqc_8ok (Q : QT) (E : ET) (τ : Tau) (H : Heap) (h : zqc_7_M Q E τ H) : vc Pr zqc_p10 τ (zqc_q4 Q E) E H :=
  vI (i := 3) h (fun x3 h => (conv (by kernel_rfl) h))

theorem zqc_9ok (Q : QT) (E : ET) (τ : Tau) (H : Heap) (h : zqc_7_M Q E τ H) : vc Pr zqc_p8 τ (zqc_q3 Q E) E H :=
  (conv (B := vc Pr zqc_p8 τ (zqc_q3 Q E) E H) (by kernel_rfl) (vc_seq (K := (zqc_5_M Q E)) (zqc_8ok Q E τ H h) (zqc_6ok Q E)))

def zqc_10 (Q : QT) (E : ET) (x3 : Int) (x4 : Bool) (H : Heap) : Prop :=
 sel x4
 (zqc_3 Q E  H)
 (zqc_7 Q E x3 H)

def zqc_10_M (Q : QT) (E : ET) (τ : Tau) (H : Heap) : Prop := mI .i64 (τ 3) fun x3 => mB (τ 4) fun x4 => zqc_10 Q E x3 x4 H

theorem zqc_11ok (Q : QT) (E : ET) (τ : Tau) (H : Heap) (h : zqc_10_M Q E τ H) : vc Pr zqc_p6 τ (zqc_q3 Q E) E H :=
  vI (i := 3) h (fun x3 h => vB (i := 4) h (fun x4 h => (conv (B := vc Pr zqc_p6 (Tau.upd (Tau.upd τ 3 (.int .i64 x3)) 4 (.bool x4)) (zqc_q3 Q E) E H) (by kernel_rfl) (sel_map (zqc_4ok Q E (Tau.upd (Tau.upd τ 3 (.int .i64 x3)) 4 (.bool x4)) H) (zqc_9ok Q E (Tau.upd (Tau.upd τ 3 (.int .i64 x3)) 4 (.bool x4)) H) (conv (B := sel x4 (zqc_3_M Q E (Tau.upd (Tau.upd τ 3 (.int .i64 x3)) 4 (.bool x4)) H) (zqc_7_M Q E (Tau.upd (Tau.upd τ 3 (.int .i64 x3)) 4 (.bool x4)) H)) (by kernel_rfl) h)))))

@[reducible] noncomputable def zqc_q5 (Q : QT) (E : ET) : Exit → Tau → Heap → Prop := (xthen (zqc_10_M Q E) (zqc_q3 Q E))

@[reducible] noncomputable def zqc_p11 : Code := sA zqc_p5

def zqc_12 (Q : QT) (E : ET) (x3 : Int) (H : Heap) : Prop :=
 sel ((x3 : Int) == 3)
 (zqc_10 Q E x3 ((x3 : Int) == 3) H)
 (zqc_10 Q E x3 ((x3 : Int) == 4) H)

def zqc_12_M (Q : QT) (E : ET) (τ : Tau) (H : Heap) : Prop := mI .i64 (τ 3) fun x3 => zqc_12 Q E x3 H

theorem zqc_13ok (Q : QT) (E : ET) (τ : Tau) (H : Heap) (h : zqc_12_M Q E τ H) : vc Pr zqc_p11 τ (zqc_q5 Q E) E H :=
  vI (i := 3) h (fun x3 h => (conv (by kernel_rfl) h))

theorem zqc_14ok (Q : QT) (E : ET) (τ : Tau) (H : Heap) (h : zqc_12_M Q E τ H) : vc Pr zqc_p5 τ (zqc_q3 Q E) E H :=
  (conv (B := vc Pr zqc_p5 τ (zqc_q3 Q E) E H) (by kernel_rfl) (vc_seq (K := (zqc_10_M Q E)) (zqc_13ok Q E τ H h) (zqc_11ok Q E)))

theorem zqc_15ok (Q : QT) (E : ET) (τ : Tau) (H : Heap) (h : zqc_12_M Q E τ H) : vc Pr zqc_p4 τ (zqc_q2 Q E) E H :=
  (conv (B := vc Pr zqc_p4 τ (zqc_q2 Q E) E H) (by kernel_rfl) (zqc_14ok Q E τ H h))

@[reducible] noncomputable def zqc_q6 (Q : QT) (E : ET) : Exit → Tau → Heap → Prop := (xthen (zqc_12_M Q E) (zqc_q2 Q E))

@[reducible] noncomputable def zqc_p12 : Code := sA zqc_p3

def zqc_16 (Q : QT) (E : ET) (x0 : Int) (H : Heap) : Prop :=
 zqc_12 Q E x0 H

def zqc_16_M (Q : QT) (E : ET) (τ : Tau) (H : Heap) : Prop := mI .i64 (τ 0) fun x0 => zqc_16 Q E x0 H

theorem zqc_17ok (Q : QT) (E : ET) (τ : Tau) (H : Heap) (h : zqc_16_M Q E τ H) : vc Pr zqc_p12 τ (zqc_q6 Q E) E H :=
  vI (i := 0) h (fun x0 h => (conv (by kernel_rfl) h))

theorem zqc_18ok (Q : QT) (E : ET) (τ : Tau) (H : Heap) (h : zqc_16_M Q E τ H) : vc Pr zqc_p3 τ (zqc_q2 Q E) E H :=
  (conv (B := vc Pr zqc_p3 τ (zqc_q2 Q E) E H) (by kernel_rfl) (vc_seq (K := (zqc_12_M Q E)) (zqc_17ok Q E τ H h) (zqc_15ok Q E)))

theorem zqc_19ok (Q : QT) (E : ET) (τ : Tau) (H : Heap) (h : zqc_16_M Q E τ H) : vc Pr zqc_p1 τ (zqc_q1 Q E) E H :=
  (conv (B := vc Pr zqc_p1 τ (zqc_q1 Q E) E H) (by kernel_rfl) (vc_seq (K := (zqc_1_M Q E)) (zqc_18ok Q E τ H h) (zqc_2ok Q E)))

@[reducible] noncomputable def zqc_q7 (Q : QT) (E : ET) : Exit → Tau → Heap → Prop := (xthen (zqc_16_M Q E) (zqc_q1 Q E))

@[reducible] noncomputable def zqc_p13 : Code := sA zqc_p0

def zqc (Q : QT) (E : ET) (a0 : Int) (H : Heap) : Prop :=
 zqc_16 Q E a0 H

theorem zqc_fn (a0 : Int) (Q : QT) (E : ET) (H : Heap) (h : zqc Q E a0 H)   : Does Pr 42 #[(.int .i64 a0)] H Q E :=
  Fn_of_vc (fn := Try.f42) (c := zqc_p0) (args := [(.int .i64 a0)]) mixed (by kernel_rfl) (by kernel_rfl) (by kernel_rfl) (by kernel_rfl) (by kernel_rfl) ((conv (B := vc Pr zqc_p0 (argT [(.int .i64 a0)]) (zqc_q1 Q E) E H) (by kernel_rfl) (vc_seq (K := (zqc_16_M Q E)) (conv (B := vc Pr zqc_p13 (argT [(.int .i64 a0)]) (zqc_q7 Q E) E H) (by kernel_rfl) h) (zqc_19ok Q E))))

/-! (*jobmux/jobmuxref08.parser).alt -/
@[reducible] noncomputable def zqd_q1 (Q : QT) (E : ET) : Exit → Tau → Heap → Prop := (retQ Pr (Try.f56).results.toList Q)

@[reducible] noncomputable def zqd_p0 : Code := bodyOf Try.f56

@[reducible] noncomputable def zqd_p1 : Code := sB zqd_p0

@[reducible] noncomputable def zqd_p2 : Code := sB zqd_p1

@[reducible] noncomputable def zqd_p3 : Code := sB zqd_p2

def zqd_1 (Q : QT) (E : ET) (x3 : OA) (l3 : Nat) (c3 : Nat) (H : Heap) : Prop :=
 Q (.slice x3 l3 c3) H

def zqd_1_M (Q : QT) (E : ET) (τ : Tau) (H : Heap) : Prop := mSl (τ 3) fun x3 l3 c3 => zqd_1 Q E x3 l3 c3 H

theorem zqd_2ok (Q : QT) (E : ET) (τ : Tau) (H : Heap) (h : zqd_1_M Q E τ H) : vc Pr zqd_p3 τ (zqd_q1 Q E) E H :=
  vSl (i := 3) h (fun x3 l3 c3 h => (conv (by kernel_rfl) h))

@[reducible] noncomputable def zqd_q2 (Q : QT) (E : ET) : Exit → Tau → Heap → Prop := (xthen (zqd_1_M Q E) (zqd_q1 Q E))

@[reducible] noncomputable def zqd_p4 : Code := sA zqd_p2

@[reducible] noncomputable def zqd_q3 (Q : QT) (E : ET) : Exit → Tau → Heap → Prop := (xblock 0 (zqd_q2 Q E))

@[reducible] noncomputable def zqd_p5 : Code := sI zqd_p4

@[reducible] noncomputable def zqd_q4 (nx29 : Option Addr → Nat → Nat → HP) (Q : QT) (E : ET) : Exit → Tau → Heap → Prop := (xthen (fun τ H => mSl (τ 3) fun x3' l3' c3' => nx29 x3' l3' c3' H) (zqd_q3 Q E))

@[reducible] noncomputable def zqd_p6 : Code := sI zqd_p5

@[reducible] noncomputable def zqd_p7 : Code := sB zqd_p6

@[reducible] noncomputable def zqd_q5 (nx29 : Option Addr → Nat → Nat → HP) (Q : QT) (E : ET) : Exit → Tau → Heap → Prop := (xblock 1 (zqd_q4 nx29 Q E))

@[reducible] noncomputable def zqd_p8 : Code := sI zqd_p7

@[reducible] noncomputable def zqd_p9 : Code := sB zqd_p8

@[reducible] noncomputable def zqd_p10 : Code := sB zqd_p9

@[reducible] noncomputable def zqd_p11 : Code := sB zqd_p10

def zqd_3 (nx29 : Option Addr → Nat → Nat → HP) (Q : QT) (E : ET) (x0 : OA) (x3 : OA) (l3 : Nat) (c3 : Nat) (x4 : OA) (l4 : Nat) (c4 : Nat) (H : Heap) : Prop :=
 Does Pr 91 #[(.int .i64 4), (.slice x3 l3 c3), (.slice x4 l4 c4)] H (fun v48 H49 =>
 ∃ (p50 : OA) (l51 c52 : Nat), v48 = (.slice p50 l51 c52) ∧ nx29 p50 l51 c52 H49) E

def zqd_3_M (nx29 : Option Addr → Nat → Nat → HP) (Q : QT) (E : ET) (τ : Tau) (H : Heap) : Prop := mP (τ 0) fun x0 => mSl (τ 3) fun x3 l3 c3 => mSl (τ 4) fun x4 l4 c4 => zqd_3 nx29 Q E x0 x3 l3 c3 x4 l4 c4 H

theorem zqd_4ok (nx29 : Option Addr → Nat → Nat → HP) (Q : QT) (E : ET) (τ : Tau) (H : Heap) (h : zqd_3_M nx29 Q E τ H) : vc Pr zqd_p11 τ (zqd_q5 nx29 Q E) E H :=
  vP (i := 0) h (fun x0 h => vSl (i := 3) h (fun x3 l3 c3 h => vSl (i := 4) h (fun x4 l4 c4 h => (conv (by kernel_rfl) h))))

@[reducible] noncomputable def zqd_q6 (nx29 : Option Addr → Nat → Nat → HP) (Q : QT) (E : ET) : Exit → Tau → Heap → Prop := (xthen (zqd_3_M nx29 Q E) (zqd_q5 nx29 Q E))

@[reducible] noncomputable def zqd_p12 : Code := sA zqd_p10

def zqd_5 (nx29 : Option Addr → Nat → Nat → HP) (Q : QT) (E : ET) (x0 : OA) (x3 : OA) (l3 : Nat) (c3 : Nat) (x4 : OA) (l4 : Nat) (c4 : Nat) (H : Heap) : Prop :=
 ptr x0 fun q53 =>
 ldI .i64 (Addr.add q53 3) H fun n54 =>
 sel ((n54 : Int) != 0)
 (Q (.slice none 0 0) H)
 (zqd_3 nx29 Q E x0 x3 l3 c3 x4 l4 c4 H)

def zqd_5_M (nx29 : Option Addr → Nat → Nat → HP) (Q : QT) (E : ET) (τ : Tau) (H : Heap) : Prop := mP (τ 0) fun x0 => mSl (τ 3) fun x3 l3 c3 => mSl (τ 4) fun x4 l4 c4 => zqd_5 nx29 Q E x0 x3 l3 c3 x4 l4 c4 H

theorem zqd_6ok (nx29 : Option Addr → Nat → Nat → HP) (Q : QT) (E : ET) (τ : Tau) (H : Heap) (h : zqd_5_M nx29 Q E τ H) : vc Pr zqd_p12 τ (zqd_q6 nx29 Q E) E H :=
  vP (i := 0) h (fun x0 h => vSl (i := 3) h (fun x3 l3 c3 h => vSl (i := 4) h (fun x4 l4 c4 h => (conv (by kernel_rfl) h))))

theorem zqd_7ok (nx29 : Option Addr → Nat → Nat → HP) (Q : QT) (E : ET) (τ : Tau) (H : Heap) (h : zqd_5_M nx29 Q E τ H) : vc Pr zqd_p10 τ (zqd_q5 nx29 Q E) E H :=
  (conv (B := vc Pr zqd_p10 τ (zqd_q5 nx29 Q E) E H) (by kernel_rfl) (vc_seq (K := (zqd_3_M nx29 Q E)) (zqd_6ok nx29 Q E τ H h) (zqd_4ok nx29 Q E)))

@[reducible] noncomputable def zqd_q7 (nx29 : Option Addr → Nat → Nat → HP) (Q : QT) (E : ET) : Exit → Tau → Heap → Prop := (xthen (zqd_5_M nx29 Q E) (zqd_q5 nx29 Q E))

@[reducible] noncomputable def zqd_p13 : Code := sA zqd_p9

def zqd_8 (nx29 : Option Addr → Nat → Nat → HP) (Q : QT) (E : ET) (x0 : OA) (x3 : OA) (l3 : Nat) (c3 : Nat) (H : Heap) : Prop :=
 Does Pr 89 #[(.pointer x0)] H (fun v55 H56 =>
 ∃ (p57 : OA) (l58 c59 : Nat), v55 = (.slice p57 l58 c59) ∧ zqd_5 nx29 Q E x0 x3 l3 c3 p57 l58 c59 H56) E

def zqd_8_M (nx29 : Option Addr → Nat → Nat → HP) (Q : QT) (E : ET) (τ : Tau) (H : Heap) : Prop := mP (τ 0) fun x0 => mSl (τ 3) fun x3 l3 c3 => zqd_8 nx29 Q E x0 x3 l3 c3 H

theorem zqd_9ok (nx29 : Option Addr → Nat → Nat → HP) (Q : QT) (E : ET) (τ : Tau) (H : Heap) (h : zqd_8_M nx29 Q E τ H) : vc Pr zqd_p13 τ (zqd_q7 nx29 Q E) E H :=
  vP (i := 0) h (fun x0 h => vSl (i := 3) h (fun x3 l3 c3 h => (conv (by kernel_rfl) h)))

theorem zqd_10ok (nx29 : Option Addr → Nat → Nat → HP) (Q : QT) (E : ET) (τ : Tau) (H : Heap) (h : zqd_8_M nx29 Q E τ H) : vc Pr zqd_p9 τ (zqd_q5 nx29 Q E) E H :=
  (conv (B := vc Pr zqd_p9 τ (zqd_q5 nx29 Q E) E H) (by kernel_rfl) (vc_seq (K := (zqd_5_M nx29 Q E)) (zqd_9ok nx29 Q E τ H h) (zqd_7ok nx29 Q E)))

@[reducible] noncomputable def zqd_q8 (nx29 : Option Addr → Nat → Nat → HP) (Q : QT) (E : ET) : Exit → Tau → Heap → Prop := (xthen (zqd_8_M nx29 Q E) (zqd_q5 nx29 Q E))

@[reducible] noncomputable def zqd_p14 : Code := sA zqd_p8

def zqd_11 (nx29 : Option Addr → Nat → Nat → HP) (Q : QT) (E : ET) (x0 : OA) (x3 : OA) (l3 : Nat) (c3 : Nat) (H : Heap) : Prop :=
 ptr x0 fun q60 =>
 ldI .i64 (Addr.add q60 1) H fun n61 =>
 ptr x0 fun q62 =>
 wr (Addr.add q62 1) [(.int .i64 (IntKind.wrap .i64 (n61 + 1)))] H fun H63 =>
 zqd_8 nx29 Q E x0 x3 l3 c3 H63

def zqd_11_M (nx29 : Option Addr → Nat → Nat → HP) (Q : QT) (E : ET) (τ : Tau) (H : Heap) : Prop := mP (τ 0) fun x0 => mSl (τ 3) fun x3 l3 c3 => zqd_11 nx29 Q E x0 x3 l3 c3 H

theorem zqd_12ok (nx29 : Option Addr → Nat → Nat → HP) (Q : QT) (E : ET) (τ : Tau) (H : Heap) (h : zqd_11_M nx29 Q E τ H) : vc Pr zqd_p14 τ (zqd_q8 nx29 Q E) E H :=
  vP (i := 0) h (fun x0 h => vSl (i := 3) h (fun x3 l3 c3 h => (conv (by kernel_rfl) h)))

theorem zqd_13ok (nx29 : Option Addr → Nat → Nat → HP) (Q : QT) (E : ET) (τ : Tau) (H : Heap) (h : zqd_11_M nx29 Q E τ H) : vc Pr zqd_p8 τ (zqd_q5 nx29 Q E) E H :=
  (conv (B := vc Pr zqd_p8 τ (zqd_q5 nx29 Q E) E H) (by kernel_rfl) (vc_seq (K := (zqd_8_M nx29 Q E)) (zqd_12ok nx29 Q E τ H h) (zqd_10ok nx29 Q E)))

theorem zqd_14ok (nx29 : Option Addr → Nat → Nat → HP) (Q : QT) (E : ET) (τ : Tau) (H : Heap) (h : zqd_11_M nx29 Q E τ H) : vc Pr zqd_p7 τ (zqd_q4 nx29 Q E) E H :=
  (conv (B := vc Pr zqd_p7 τ (zqd_q4 nx29 Q E) E H) (by kernel_rfl) (zqd_13ok nx29 Q E τ H h))

@[reducible] noncomputable def zqd_q9 (nx29 : Option Addr → Nat → Nat → HP) (Q : QT) (E : ET) : Exit → Tau → Heap → Prop := (xthen (zqd_11_M nx29 Q E) (zqd_q4 nx29 Q E))

@[reducible] noncomputable def zqd_p15 : Code := sA zqd_p6

@[reducible] noncomputable def zqd_p16 : Code := sB zqd_p15

def zqd_15 (nx29 : Option Addr → Nat → Nat → HP) (Q : QT) (E : ET) (x0 : OA) (x3 : OA) (l3 : Nat) (c3 : Nat) (x20 : Bool) (H : Heap) : Prop :=
 sel x20
 (zqd_11 nx29 Q E x0 x3 l3 c3 H)
 (zqd_1 Q E x3 l3 c3 H)

def zqd_15_M (nx29 : Option Addr → Nat → Nat → HP) (Q : QT) (E : ET) (τ : Tau) (H : Heap) : Prop := mP (τ 0) fun x0 => mSl (τ 3) fun x3 l3 c3 => mB (τ 20) fun x20 => zqd_15 nx29 Q E x0 x3 l3 c3 x20 H

theorem zqd_16ok (nx29 : Option Addr → Nat → Nat → HP) (Q : QT) (E : ET) (τ : Tau) (H : Heap) (h : zqd_15_M nx29 Q E τ H) : vc Pr zqd_p16 τ (zqd_q9 nx29 Q E) E H :=
  vP (i := 0) h (fun x0 h => vSl (i := 3) h (fun x3 l3 c3 h => vB (i := 20) h (fun x20 h => (conv (by kernel_rfl) h))))

@[reducible] noncomputable def zqd_q10 (nx29 : Option Addr → Nat → Nat → HP) (Q : QT) (E : ET) : Exit → Tau → Heap → Prop := (xthen (zqd_15_M nx29 Q E) (zqd_q9 nx29 Q E))

@[reducible] noncomputable def zqd_p17 : Code := sA zqd_p15

def zqd_17 (nx29 : Option Addr → Nat → Nat → HP) (Q : QT) (E : ET) (x0 : OA) (x3 : OA) (l3 : Nat) (c3 : Nat) (H : Heap) : Prop :=
 Does Pr 90 #[(.pointer x0)] H (fun v71 H72 =>
 ∃ b73 : Bool, v71 = (.bool b73) ∧ sel b73
 (ptr x0 fun q74 =>
 ldS q74 H72 fun s75 =>
 ptr x0 fun q76 =>
 ldI .i64 (Addr.add q76 1) H72 fun n77 =>
 (0 ≤ (n77 : Int) ∧ (n77 : Int) < ((ByteArray.size s75 : Nat) : Int)) ∧ zqd_15 nx29 Q E x0 x3 l3 c3 (((sAt s75 n77) : Int) == 124) H72)
 (zqd_15 nx29 Q E x0 x3 l3 c3 false H72)) (fun _ _ => False)

def zqd_17_M (nx29 : Option Addr → Nat → Nat → HP) (Q : QT) (E : ET) (τ : Tau) (H : Heap) : Prop := mP (τ 0) fun x0 => mSl (τ 3) fun x3 l3 c3 => zqd_17 nx29 Q E x0 x3 l3 c3 H

theorem zqd_18ok (nx29 : Option Addr → Nat → Nat → HP) (Q : QT) (E : ET) (τ : Tau) (H : Heap) (h : zqd_17_M nx29 Q E τ H) : vc Pr zqd_p17 τ (zqd_q10 nx29 Q E) E H :=
  vP (i := 0) h (fun x0 h => vSl (i := 3) h (fun x3 l3 c3 h => (conv (by kernel_rfl) h)))

theorem zqd_19ok (nx29 : Option Addr → Nat → Nat → HP) (Q : QT) (E : ET) (τ : Tau) (H : Heap) (h : zqd_17_M nx29 Q E τ H) : vc Pr zqd_p15 τ (zqd_q9 nx29 Q E) E H :=
  (conv (B := vc Pr zqd_p15 τ (zqd_q9 nx29 Q E) E H) (by kernel_rfl) (vc_seq (K := (zqd_15_M nx29 Q E)) (zqd_18ok nx29 Q E τ H h) (zqd_16ok nx29 Q E)))

theorem zqd_20ok (nx29 : Option Addr → Nat → Nat → HP) (Q : QT) (E : ET) (τ : Tau) (H : Heap) (h : zqd_17_M nx29 Q E τ H) : vc Pr zqd_p6 τ (zqd_q4 nx29 Q E) E H :=
  (conv (B := vc Pr zqd_p6 τ (zqd_q4 nx29 Q E) E H) (by kernel_rfl) (vc_seq (K := (zqd_11_M nx29 Q E)) (zqd_19ok nx29 Q E τ H h) (zqd_14ok nx29 Q E)))

def zqd_21 (Q : QT) (E : ET) (x0 : OA) (x3 : OA) (l3 : Nat) (c3 : Nat) (H : Heap) : Prop :=
 ∃ (I : Option Addr → Nat → Nat → HP) (μ : Option Addr → Nat → Nat → Heap → Nat), I x3 l3 c3 H ∧ ∀ (x3 : OA) (l3 : Nat) (c3 : Nat) (H : Heap), I x3 l3 c3 H →
 zqd_17 (fun x3' l3' c3' H1 => I x3' l3' c3' H1 ∧ μ x3' l3' c3' H1 < μ x3 l3 c3 H) Q E x0 x3 l3 c3 H

def zqd_21_M (Q : QT) (E : ET) (τ : Tau) (H : Heap) : Prop := mP (τ 0) fun x0 => mSl (τ 3) fun x3 l3 c3 => zqd_21 Q E x0 x3 l3 c3 H

theorem zqd_22ok (Q : QT) (E : ET) (τ : Tau) (H : Heap) (h : zqd_21_M Q E τ H) : vc Pr zqd_p5 τ (zqd_q3 Q E) E H :=
  vP (i := 0) h (fun x0 h => vSl (i := 3) h (fun x3 l3 c3 h => match h with | ⟨I, μ, h0, hr⟩ => (conv (B := vc Pr zqd_p5 (Tau.upd (Tau.upd τ 0 (.pointer x0)) 3 (.slice x3 l3 c3)) (zqd_q3 Q E) E H) (by kernel_rfl) (vc_loop (c := sI zqd_p5) (τ := (Tau.upd (Tau.upd τ 0 (.pointer x0)) 3 (.slice x3 l3 c3))) [0] (fun τ H => mSl (τ 3) fun x3' l3' c3' => I x3' l3' c3' H) (fun τ H => μ (gL1 (τ 3)) (gL2 (τ 3)) (gL3 (τ 3)) H) (by kernel_rfl) h0 (fun τ1 H1 hf hI => fix_elim (τ := τ1) (i := 0) (v := (.pointer x0)) (G := fun τ => vc Pr (sI zqd_p5) τ (xthen (fun τ2 H2 => (mSl (τ2 3) fun x3' l3' c3' => I x3' l3' c3' H2) ∧ μ (gL1 (τ2 3)) (gL2 (τ2 3)) (gL3 (τ2 3)) H2 < μ (gL1 (τ 3)) (gL2 (τ 3)) (gL3 (τ 3)) H1) (zqd_q3 Q E)) E H1) (hf 0 (by simp)) (mSl_elim (i := 3) (G := fun τ => vc Pr (sI zqd_p5) τ (xthen (fun τ2 H2 => (mSl (τ2 3) fun x3' l3' c3' => I x3' l3' c3' H2) ∧ μ (gL1 (τ2 3)) (gL2 (τ2 3)) (gL3 (τ2 3)) H2 < μ (gL1 (τ 3)) (gL2 (τ 3)) (gL3 (τ 3)) H1) (zqd_q3 Q E)) E H1) hI (fun x3r l3r c3r h => (conv (B := vc Pr (sI zqd_p5) (Tau.upd (Tau.upd τ1 0 (.pointer x0)) 3 (.slice x3r l3r c3r)) (xthen (fun τ2 H2 => (mSl (τ2 3) fun x3' l3' c3' => I x3' l3' c3' H2) ∧ μ (gL1 (τ2 3)) (gL2 (τ2 3)) (gL3 (τ2 3)) H2 < μ (gL1 ((Tau.upd (Tau.upd τ1 0 (.pointer x0)) 3 (.slice x3r l3r c3r)) 3)) (gL2 ((Tau.upd (Tau.upd τ1 0 (.pointer x0)) 3 (.slice x3r l3r c3r)) 3)) (gL3 ((Tau.upd (Tau.upd τ1 0 (.pointer x0)) 3 (.slice x3r l3r c3r)) 3)) H1) (zqd_q3 Q E)) E H1) (by kernel_rfl) (vc_xthen (zqd_20ok (fun x3' l3' c3' H2 => I x3' l3' c3' H2 ∧ μ x3' l3' c3' H2 < μ x3r l3r c3r H1) Q E (Tau.upd (Tau.upd τ1 0 (.pointer x0)) 3 (.slice x3r l3r c3r)) H1 (conv (B := zqd_17_M (fun x3' l3' c3' H2 => I x3' l3' c3' H2 ∧ μ x3' l3' c3' H2 < μ x3r l3r c3r H1) Q E (Tau.upd (Tau.upd τ1 0 (.pointer x0)) 3 (.slice x3r l3r c3r)) H1) (by kernel_rfl) (hr x3r l3r c3r H1 h))) (fun τ2 H2 hk => mSl_elim (i := 3) (G := fun τ => (mSl (τ 3) fun x3' l3' c3' => I x3' l3' c3' H2) ∧ μ (gL1 (τ 3)) (gL2 (τ 3)) (gL3 (τ 3)) H2 < μ x3r l3r c3r H1) hk (fun x3' l3' c3' h => h)))))))))))

theorem zqd_23ok (Q : QT) (E : ET) (τ : Tau) (H : Heap) (h : zqd_21_M Q E τ H) : vc Pr zqd_p4 τ (zqd_q2 Q E) E H :=
  (conv (B := vc Pr zqd_p4 τ (zqd_q2 Q E) E H) (by kernel_rfl) (zqd_22ok Q E τ H h))

theorem zqd_24ok (Q : QT) (E : ET) (τ : Tau) (H : Heap) (h : zqd_21_M Q E τ H) : vc Pr zqd_p2 τ (zqd_q1 Q E) E H :=
  (conv (B := vc Pr zqd_p2 τ (zqd_q1 Q E) E H) (by kernel_rfl) (vc_seq (K := (zqd_1_M Q E)) (zqd_23ok Q E τ H h) (zqd_2ok Q E)))

@[reducible] noncomputable def zqd_q11 (Q : QT) (E : ET) : Exit → Tau → Heap → Prop := (xthen (zqd_21_M Q E) (zqd_q1 Q E))

@[reducible] noncomputable def zqd_p18 : Code := sA zqd_p1

def zqd_25 (Q : QT) (E : ET) (x0 : OA) (H : Heap) : Prop :=
 Does Pr 89 #[(.pointer x0)] H (fun v78 H79 =>
 ∃ (p80 : OA) (l81 c82 : Nat), v78 = (.slice p80 l81 c82) ∧ zqd_21 Q E x0 p80 l81 c82 H79) E

def zqd_25_M (Q : QT) (E : ET) (τ : Tau) (H : Heap) : Prop := mP (τ 0) fun x0 => zqd_25 Q E x0 H

theorem zqd_26ok (Q : QT) (E : ET) (τ : Tau) (H : Heap) (h : zqd_25_M Q E τ H) : vc Pr zqd_p18 τ (zqd_q11 Q E) E H :=
  vP (i := 0) h (fun x0 h => (conv (by kernel_rfl) h))

theorem zqd_27ok (Q : QT) (E : ET) (τ : Tau) (H : Heap) (h : zqd_25_M Q E τ H) : vc Pr zqd_p1 τ (zqd_q1 Q E) E H :=
  (conv (B := vc Pr zqd_p1 τ (zqd_q1 Q E) E H) (by kernel_rfl) (vc_seq (K := (zqd_21_M Q E)) (zqd_26ok Q E τ H h) (zqd_24ok Q E)))

@[reducible] noncomputable def zqd_q12 (Q : QT) (E : ET) : Exit → Tau → Heap → Prop := (xthen (zqd_25_M Q E) (zqd_q1 Q E))

@[reducible] noncomputable def zqd_p19 : Code := sA zqd_p0

def zqd (Q : QT) (E : ET) (a0 : OA) (H : Heap) : Prop :=
 zqd_25 Q E a0 H

theorem zqd_fn (a0 : OA) (Q : QT) (E : ET) (H : Heap) (h : zqd Q E a0 H)   : Does Pr 56 #[(.pointer a0)] H Q E :=
  Fn_of_vc (fn := Try.f56) (c := zqd_p0) (args := [(.pointer a0)]) mixed (by kernel_rfl) (by kernel_rfl) (by kernel_rfl) (by kernel_rfl) (by kernel_rfl) ((conv (B := vc Pr zqd_p0 (argT [(.pointer a0)]) (zqd_q1 Q E) E H) (by kernel_rfl) (vc_seq (K := (zqd_25_M Q E)) (conv (B := vc Pr zqd_p19 (argT [(.pointer a0)]) (zqd_q12 Q E) E H) (by kernel_rfl) h) (zqd_27ok Q E))))

/-! (*jobmux/jobmuxref08.parser).fail -/
@[reducible] noncomputable def zqe_q1 (Q : QT) (E : ET) : Exit → Tau → Heap → Prop := (retQ Pr (Try.f57).results.toList Q)

@[reducible] noncomputable def zqe_p0 : Code := bodyOf Try.f57

def zqe (Q : QT) (E : ET) (a0 : OA) (a1 : Int) (H : Heap) : Prop :=
 ptr a0 fun q1 =>
 ldI .i64 (Addr.add q1 3) H fun n2 =>
 sel ((n2 : Int) == 0)
 (ptr a0 fun q3 =>
 wr (Addr.add q3 3) [(.int .i64 a1)] H fun H4 =>
 Q (.tuple #[]) H4)
 (Q (.tuple #[]) H)

theorem zqe_fn (a0 : OA) (a1 : Int) (Q : QT) (E : ET) (H : Heap) (h : zqe Q E a0 a1 H)   : Does Pr 57 #[(.pointer a0), (.int .i64 a1)] H Q E :=
  Fn_of_vc (fn := Try.f57) (c := zqe_p0) (args := [(.pointer a0), (.int .i64 a1)]) mixed (by kernel_rfl) (by kernel_rfl) (by kernel_rfl) (by kernel_rfl) (by kernel_rfl) ((conv (B := vc Pr zqe_p0 (argT [(.pointer a0), (.int .i64 a1)]) (zqe_q1 Q E) E H) (by kernel_rfl) h))

/-! jobmux/jobmuxref08.Has -/
@[reducible] noncomputable def zqf_q1 (Q : QT) (E : ET) : Exit → Tau → Heap → Prop := (retQ Pr (Try.f73).results.toList Q)

@[reducible] noncomputable def zqf_p0 : Code := bodyOf Try.f73

def zqf (Q : QT) (E : ET) (a0_0 : Int) (a0_1 : Int) (a0_2 : Int) (a0_3 : Int) (a1 : Int) (H : Heap) : Prop :=
 nw (.cells #[(.int .u64 a0_0), (.int .u64 a0_1), (.int .u64 a0_2), (.int .u64 a0_3)] 46 (0, 0)) H fun i1 H2 =>
 (64 : Int) ≠ 0 ∧ (0 ≤ ((IntKind.wrap .u8 (Int.tdiv a1 64)) : Int) ∧ ((IntKind.wrap .u8 (Int.tdiv a1 64)) : Int) < ((4 : Nat) : Int)) ∧ ldI .u64 (Addr.add ⟨i1, 0, none⟩ (((IntKind.wrap .u8 (Int.tdiv a1 64)) : Int).toNat * 1)) H2 fun n3 =>
 (64 : Int) ≠ 0 ∧ 0 ≤ ((Int.tmod a1 64) : Int) ∧ Q (.bool (((IntKind.wrap .u64 (BitVec.ofInt (IntKind.bits .u64) (Int.fdiv n3 (2 ^ min ((Int.tmod a1 64) : Int).toNat (IntKind.bits .u64))) &&& BitVec.ofInt (IntKind.bits .u64) 1).toNat) : Int) == 1)) H2

theorem zqf_fn (a0_0 : Int) (a0_1 : Int) (a0_2 : Int) (a0_3 : Int) (a1 : Int) (Q : QT) (E : ET) (H : Heap) (h : zqf Q E a0_0 a0_1 a0_2 a0_3 a1 H)   : Does Pr 73 #[(.agg #[(.int .u64 a0_0), (.int .u64 a0_1), (.int .u64 a0_2), (.int .u64 a0_3)]), (.int .u8 a1)] H Q E :=
  Fn_of_vc (fn := Try.f73) (c := zqf_p0) (args := [(.agg #[(.int .u64 a0_0), (.int .u64 a0_1), (.int .u64 a0_2), (.int .u64 a0_3)]), (.int .u8 a1)]) mixed (by kernel_rfl) (by kernel_rfl) (by kernel_rfl) (by kernel_rfl) (by kernel_rfl) ((conv (B := vc Pr zqf_p0 (argT [(.agg #[(.int .u64 a0_0), (.int .u64 a0_1), (.int .u64 a0_2), (.int .u64 a0_3)]), (.int .u8 a1)]) (zqf_q1 Q E) E H) (by kernel_rfl) h))

/-! jobmux/jobmuxref08.tree -/
@[reducible] noncomputable def zqg_q1 (Q : QT) (E : ET) : Exit → Tau → Heap → Prop := (retQ Pr (Try.f75).results.toList Q)

@[reducible] noncomputable def zqg_p0 : Code := bodyOf Try.f75

@[reducible] noncomputable def zqg_p1 : Code := sB zqg_p0

@[reducible] noncomputable def zqg_p2 : Code := sB zqg_p1

@[reducible] noncomputable def zqg_p3 : Code := sB zqg_p2

@[reducible] noncomputable def zqg_p4 : Code := sB zqg_p3

@[reducible] noncomputable def zqg_p5 : Code := sB zqg_p4

@[reducible] noncomputable def zqg_p6 : Code := sB zqg_p5

@[reducible] noncomputable def zqg_p7 : Code := sB zqg_p6

@[reducible] noncomputable def zqg_p8 : Code := sB zqg_p7

@[reducible] noncomputable def zqg_p9 : Code := sB zqg_p8

@[reducible] noncomputable def zqg_p10 : Code := sB zqg_p9

def zqg_1 (Q : QT) (E : ET) (x0 : OA) (l0 : Nat) (c0 : Nat) (x7 : Int) (H : Heap) : Prop :=
 Does Pr 75 #[(.slice x0 l0 c0), (.int .i64 x7)] H (fun v31 H32 =>
 ∃ n33 : Int, v31 = (.int .i64 n33) ∧ Q (.int .i64 n33) H32) E

def zqg_1_M (Q : QT) (E : ET) (τ : Tau) (H : Heap) : Prop := mSl (τ 0) fun x0 l0 c0 => mI .i64 (τ 7) fun x7 => zqg_1 Q E x0 l0 c0 x7 H

theorem zqg_2ok (Q : QT) (E : ET) (τ : Tau) (H : Heap) (h : zqg_1_M Q E τ H) : vc Pr zqg_p10 τ (zqg_q1 Q E) E H :=
  vSl (i := 0) h (fun x0 l0 c0 h => vI (i := 7) h (fun x7 h => (conv (by kernel_rfl) h)))

@[reducible] noncomputable def zqg_q2 (Q : QT) (E : ET) : Exit → Tau → Heap → Prop := (xthen (zqg_1_M Q E) (zqg_q1 Q E))

@[reducible] noncomputable def zqg_p11 : Code := sA zqg_p9

@[reducible] noncomputable def zqg_p12 : Code := sB zqg_p11

def zqg_3 (Q : QT) (E : ET) (x0 : OA) (l0 : Nat) (c0 : Nat) (x7 : Int) (x74 : Bool) (H : Heap) : Prop :=
 sel x74
 (Q (.int .i64 (-1)) H)
 (zqg_1 Q E x0 l0 c0 x7 H)

def zqg_3_M (Q : QT) (E : ET) (τ : Tau) (H : Heap) : Prop := mSl (τ 0) fun x0 l0 c0 => mI .i64 (τ 7) fun x7 => mB (τ 74) fun x74 => zqg_3 Q E x0 l0 c0 x7 x74 H

theorem zqg_4ok (Q : QT) (E : ET) (τ : Tau) (H : Heap) (h : zqg_3_M Q E τ H) : vc Pr zqg_p12 τ (zqg_q2 Q E) E H :=
  vSl (i := 0) h (fun x0 l0 c0 h => vI (i := 7) h (fun x7 h => vB (i := 74) h (fun x74 h => (conv (by kernel_rfl) h))))

@[reducible] noncomputable def zqg_q3 (Q : QT) (E : ET) : Exit → Tau → Heap → Prop := (xthen (zqg_3_M Q E) (zqg_q2 Q E))

@[reducible] noncomputable def zqg_p13 : Code := sA zqg_p11

def zqg_5 (Q : QT) (E : ET) (x0 : OA) (l0 : Nat) (c0 : Nat) (x5 : OA) (x7 : Int) (H : Heap) : Prop :=
 sel (decide ((x7 : Int) < 0))
 (zqg_3 Q E x0 l0 c0 x7 true H)
 (ptr x5 fun q35 =>
 ldI .i64 (Addr.add q35 1) H fun n36 =>
 zqg_3 Q E x0 l0 c0 x7 ((n36 : Int) != x7) H)

def zqg_5_M (Q : QT) (E : ET) (τ : Tau) (H : Heap) : Prop := mSl (τ 0) fun x0 l0 c0 => mP (τ 5) fun x5 => mI .i64 (τ 7) fun x7 => zqg_5 Q E x0 l0 c0 x5 x7 H

theorem zqg_6ok (Q : QT) (E : ET) (τ : Tau) (H : Heap) (h : zqg_5_M Q E τ H) : vc Pr zqg_p13 τ (zqg_q3 Q E) E H :=
  vSl (i := 0) h (fun x0 l0 c0 h => vP (i := 5) h (fun x5 h => vI (i := 7) h (fun x7 h => (conv (by kernel_rfl) h))))

theorem zqg_7ok (Q : QT) (E : ET) (τ : Tau) (H : Heap) (h : zqg_5_M Q E τ H) : vc Pr zqg_p11 τ (zqg_q2 Q E) E H :=
  (conv (B := vc Pr zqg_p11 τ (zqg_q2 Q E) E H) (by kernel_rfl) (vc_seq (K := (zqg_3_M Q E)) (zqg_6ok Q E τ H h) (zqg_4ok Q E)))

theorem zqg_8ok (Q : QT) (E : ET) (τ : Tau) (H : Heap) (h : zqg_5_M Q E τ H) : vc Pr zqg_p9 τ (zqg_q1 Q E) E H :=
  (conv (B := vc Pr zqg_p9 τ (zqg_q1 Q E) E H) (by kernel_rfl) (vc_seq (K := (zqg_1_M Q E)) (zqg_7ok Q E τ H h) (zqg_2ok Q E)))

@[reducible] noncomputable def zqg_q4 (Q : QT) (E : ET) : Exit → Tau → Heap → Prop := (xthen (zqg_5_M Q E) (zqg_q1 Q E))

@[reducible] noncomputable def zqg_p14 : Code := sA zqg_p8

@[reducible] noncomputable def zqg_p15 : Code := sB zqg_p14

@[reducible] noncomputable def zqg_p16 : Code := sT zqg_p15

@[reducible] noncomputable def zqg_p17 : Code := sB zqg_p16

def zqg_9 (Q : QT) (E : ET) (x0 : OA) (l0 : Nat) (c0 : Nat) (x5 : OA) (x7 : Int) (H : Heap) : Prop :=
 Does Pr 75 #[(.slice x0 l0 c0), (.int .i64 x7)] H (fun v38 H39 =>
 ∃ n40 : Int, v38 = (.int .i64 n40) ∧ zqg_5 Q E x0 l0 c0 x5 (IntKind.wrap .i64 (n40 - 1)) H39) E

def zqg_9_M (Q : QT) (E : ET) (τ : Tau) (H : Heap) : Prop := mSl (τ 0) fun x0 l0 c0 => mP (τ 5) fun x5 => mI .i64 (τ 7) fun x7 => zqg_9 Q E x0 l0 c0 x5 x7 H

theorem zqg_10ok (Q : QT) (E : ET) (τ : Tau) (H : Heap) (h : zqg_9_M Q E τ H) : vc Pr zqg_p17 τ (zqg_q4 Q E) E H :=
  vSl (i := 0) h (fun x0 l0 c0 h => vP (i := 5) h (fun x5 h => vI (i := 7) h (fun x7 h => (conv (by kernel_rfl) h))))

@[reducible] noncomputable def zqg_q5 (Q : QT) (E : ET) : Exit → Tau → Heap → Prop := (xthen (zqg_9_M Q E) (zqg_q4 Q E))

@[reducible] noncomputable def zqg_p18 : Code := sA zqg_p16

def zqg_11 (Q : QT) (E : ET) (x0 : OA) (l0 : Nat) (c0 : Nat) (x5 : OA) (x7 : Int) (H : Heap) : Prop :=
 ptr x5 fun q41 =>
 ldI .i64 (Addr.add q41 2) H fun n42 =>
 sel ((n42 : Int) != x7)
 (Q (.int .i64 (-1)) H)
 (zqg_9 Q E x0 l0 c0 x5 x7 H)

def zqg_11_M (Q : QT) (E : ET) (τ : Tau) (H : Heap) : Prop := mSl (τ 0) fun x0 l0 c0 => mP (τ 5) fun x5 => mI .i64 (τ 7) fun x7 => zqg_11 Q E x0 l0 c0 x5 x7 H

theorem zqg_12ok (Q : QT) (E : ET) (τ : Tau) (H : Heap) (h : zqg_11_M Q E τ H) : vc Pr zqg_p18 τ (zqg_q5 Q E) E H :=
  vSl (i := 0) h (fun x0 l0 c0 h => vP (i := 5) h (fun x5 h => vI (i := 7) h (fun x7 h => (conv (by kernel_rfl) h))))

theorem zqg_13ok (Q : QT) (E : ET) (τ : Tau) (H : Heap) (h : zqg_11_M Q E τ H) : vc Pr zqg_p16 τ (zqg_q4 Q E) E H :=
  (conv (B := vc Pr zqg_p16 τ (zqg_q4 Q E) E H) (by kernel_rfl) (vc_seq (K := (zqg_9_M Q E)) (zqg_12ok Q E τ H h) (zqg_10ok Q E)))

@[reducible] noncomputable def zqg_p19 : Code := sE zqg_p15

def zqg_14 (Q : QT) (E : ET) (x0 : OA) (l0 : Nat) (c0 : Nat) (x5 : OA) (x7 : Int) (H : Heap) : Prop :=
 zqg_5 Q E x0 l0 c0 x5 x7 H

def zqg_14_M (Q : QT) (E : ET) (τ : Tau) (H : Heap) : Prop := mSl (τ 0) fun x0 l0 c0 => mP (τ 5) fun x5 => mI .i64 (τ 7) fun x7 => zqg_14 Q E x0 l0 c0 x5 x7 H

theorem zqg_15ok (Q : QT) (E : ET) (τ : Tau) (H : Heap) (h : zqg_14_M Q E τ H) : vc Pr zqg_p19 τ (zqg_q4 Q E) E H :=
  vSl (i := 0) h (fun x0 l0 c0 h => vP (i := 5) h (fun x5 h => vI (i := 7) h (fun x7 h => (conv (by kernel_rfl) h))))

def zqg_16 (Q : QT) (E : ET) (x0 : OA) (l0 : Nat) (c0 : Nat) (x5 : OA) (x7 : Int) (x58 : Bool) (H : Heap) : Prop :=
 sel x58
 (zqg_11 Q E x0 l0 c0 x5 x7 H)
 (zqg_14 Q E x0 l0 c0 x5 x7 H)

def zqg_16_M (Q : QT) (E : ET) (τ : Tau) (H : Heap) : Prop := mSl (τ 0) fun x0 l0 c0 => mP (τ 5) fun x5 => mI .i64 (τ 7) fun x7 => mB (τ 58) fun x58 => zqg_16 Q E x0 l0 c0 x5 x7 x58 H

theorem zqg_17ok (Q : QT) (E : ET) (τ : Tau) (H : Heap) (h : zqg_16_M Q E τ H) : vc Pr zqg_p15 τ (zqg_q4 Q E) E H :=
  vSl (i := 0) h (fun x0 l0 c0 h => vP (i := 5) h (fun x5 h => vI (i := 7) h (fun x7 h => vB (i := 58) h (fun x58 h => (conv (B := vc Pr zqg_p15 (Tau.upd (Tau.upd (Tau.upd (Tau.upd τ 0 (.slice x0 l0 c0)) 5 (.pointer x5)) 7 (.int .i64 x7)) 58 (.bool x58)) (zqg_q4 Q E) E H) (by kernel_rfl) (sel_map (zqg_13ok Q E (Tau.upd (Tau.upd (Tau.upd (Tau.upd τ 0 (.slice x0 l0 c0)) 5 (.pointer x5)) 7 (.int .i64 x7)) 58 (.bool x58)) H) (zqg_15ok Q E (Tau.upd (Tau.upd (Tau.upd (Tau.upd τ 0 (.slice x0 l0 c0)) 5 (.pointer x5)) 7 (.int .i64 x7)) 58 (.bool x58)) H) (conv (B := sel x58 (zqg_11_M Q E (Tau.upd (Tau.upd (Tau.upd (Tau.upd τ 0 (.slice x0 l0 c0)) 5 (.pointer x5)) 7 (.int .i64 x7)) 58 (.bool x58)) H) (zqg_14_M Q E (Tau.upd (Tau.upd (Tau.upd (Tau.upd τ 0 (.slice x0 l0 c0)) 5 (.pointer x5)) 7 (.int .i64 x7)) 58 (.bool x58)) H)) (by kernel_rfl) h)))))))

@[reducible] noncomputable def zqg_q6 (Q : QT) (E : ET) : Exit → Tau → Heap → Prop := (xthen (zqg_16_M Q E) (zqg_q4 Q E))

@[reducible] noncomputable def zqg_p20 : Code := sA zqg_p14

def zqg_18 (Q : QT) (E : ET) (x0 : OA) (l0 : Nat) (c0 : Nat) (x5 : OA) (x6 : Int) (x7 : Int) (H : Heap) : Prop :=
 zqg_16 Q E x0 l0 c0 x5 x7 ((x6 : Int) == 2) H

def zqg_18_M (Q : QT) (E : ET) (τ : Tau) (H : Heap) : Prop := mSl (τ 0) fun x0 l0 c0 => mP (τ 5) fun x5 => mI .i64 (τ 6) fun x6 => mI .i64 (τ 7) fun x7 => zqg_18 Q E x0 l0 c0 x5 x6 x7 H

theorem zqg_19ok (Q : QT) (E : ET) (τ : Tau) (H : Heap) (h : zqg_18_M Q E τ H) : vc Pr zqg_p20 τ (zqg_q6 Q E) E H :=
  vSl (i := 0) h (fun x0 l0 c0 h => vP (i := 5) h (fun x5 h => vI (i := 6) h (fun x6 h => vI (i := 7) h (fun x7 h => (conv (by kernel_rfl) h)))))

theorem zqg_20ok (Q : QT) (E : ET) (τ : Tau) (H : Heap) (h : zqg_18_M Q E τ H) : vc Pr zqg_p14 τ (zqg_q4 Q E) E H :=
  (conv (B := vc Pr zqg_p14 τ (zqg_q4 Q E) E H) (by kernel_rfl) (vc_seq (K := (zqg_16_M Q E)) (zqg_19ok Q E τ H h) (zqg_17ok Q E)))

theorem zqg_21ok (Q : QT) (E : ET) (τ : Tau) (H : Heap) (h : zqg_18_M Q E τ H) : vc Pr zqg_p8 τ (zqg_q1 Q E) E H :=
  (conv (B := vc Pr zqg_p8 τ (zqg_q1 Q E) E H) (by kernel_rfl) (vc_seq (K := (zqg_5_M Q E)) (zqg_20ok Q E τ H h) (zqg_8ok Q E)))

@[reducible] noncomputable def zqg_q7 (Q : QT) (E : ET) : Exit → Tau → Heap → Prop := (xthen (zqg_18_M Q E) (zqg_q1 Q E))

@[reducible] noncomputable def zqg_p21 : Code := sA zqg_p7

def zqg_22 (Q : QT) (E : ET) (x0 : OA) (l0 : Nat) (c0 : Nat) (x1 : Int) (x5 : OA) (x6 : Int) (H : Heap) : Prop :=
 zqg_18 Q E x0 l0 c0 x5 x6 (IntKind.wrap .i64 (x1 - 1)) H

def zqg_22_M (Q : QT) (E : ET) (τ : Tau) (H : Heap) : Prop := mSl (τ 0) fun x0 l0 c0 => mI .i64 (τ 1) fun x1 => mP (τ 5) fun x5 => mI .i64 (τ 6) fun x6 => zqg_22 Q E x0 l0 c0 x1 x5 x6 H

theorem zqg_23ok (Q : QT) (E : ET) (τ : Tau) (H : Heap) (h : zqg_22_M Q E τ H) : vc Pr zqg_p21 τ (zqg_q7 Q E) E H :=
  vSl (i := 0) h (fun x0 l0 c0 h => vI (i := 1) h (fun x1 h => vP (i := 5) h (fun x5 h => vI (i := 6) h (fun x6 h => (conv (by kernel_rfl) h)))))

theorem zqg_24ok (Q : QT) (E : ET) (τ : Tau) (H : Heap) (h : zqg_22_M Q E τ H) : vc Pr zqg_p7 τ (zqg_q1 Q E) E H :=
  (conv (B := vc Pr zqg_p7 τ (zqg_q1 Q E) E H) (by kernel_rfl) (vc_seq (K := (zqg_18_M Q E)) (zqg_23ok Q E τ H h) (zqg_21ok Q E)))

@[reducible] noncomputable def zqg_q8 (Q : QT) (E : ET) : Exit → Tau → Heap → Prop := (xthen (zqg_22_M Q E) (zqg_q1 Q E))

@[reducible] noncomputable def zqg_p22 : Code := sA zqg_p6

def zqg_25 (Q : QT) (E : ET) (x0 : OA) (l0 : Nat) (c0 : Nat) (x1 : Int) (x5 : OA) (x6 : Int) (H : Heap) : Prop :=
 sel ((x6 : Int) == 0)
 (Q (.int .i64 x1) H)
 (zqg_22 Q E x0 l0 c0 x1 x5 x6 H)

def zqg_25_M (Q : QT) (E : ET) (τ : Tau) (H : Heap) : Prop := mSl (τ 0) fun x0 l0 c0 => mI .i64 (τ 1) fun x1 => mP (τ 5) fun x5 => mI .i64 (τ 6) fun x6 => zqg_25 Q E x0 l0 c0 x1 x5 x6 H

theorem zqg_26ok (Q : QT) (E : ET) (τ : Tau) (H : Heap) (h : zqg_25_M Q E τ H) : vc Pr zqg_p22 τ (zqg_q8 Q E) E H :=
  vSl (i := 0) h (fun x0 l0 c0 h => vI (i := 1) h (fun x1 h => vP (i := 5) h (fun x5 h => vI (i := 6) h (fun x6 h => (conv (by kernel_rfl) h)))))

theorem zqg_27ok (Q : QT) (E : ET) (τ : Tau) (H : Heap) (h : zqg_25_M Q E τ H) : vc Pr zqg_p6 τ (zqg_q1 Q E) E H :=
  (conv (B := vc Pr zqg_p6 τ (zqg_q1 Q E) E H) (by kernel_rfl) (vc_seq (K := (zqg_22_M Q E)) (zqg_26ok Q E τ H h) (zqg_24ok Q E)))

@[reducible] noncomputable def zqg_q9 (Q : QT) (E : ET) : Exit → Tau → Heap → Prop := (xthen (zqg_25_M Q E) (zqg_q1 Q E))

@[reducible] noncomputable def zqg_p23 : Code := sA zqg_p5

@[reducible] noncomputable def zqg_p24 : Code := sB zqg_p23

def zqg_28 (Q : QT) (E : ET) (x0 : OA) (l0 : Nat) (c0 : Nat) (x1 : Int) (x5 : OA) (x6 : Int) (x51 : Bool) (H : Heap) : Prop :=
 sel x51
 (Q (.int .i64 (-1)) H)
 (zqg_25 Q E x0 l0 c0 x1 x5 x6 H)

def zqg_28_M (Q : QT) (E : ET) (τ : Tau) (H : Heap) : Prop := mSl (τ 0) fun x0 l0 c0 => mI .i64 (τ 1) fun x1 => mP (τ 5) fun x5 => mI .i64 (τ 6) fun x6 => mB (τ 51) fun x51 => zqg_28 Q E x0 l0 c0 x1 x5 x6 x51 H

theorem zqg_29ok (Q : QT) (E : ET) (τ : Tau) (H : Heap) (h : zqg_28_M Q E τ H) : vc Pr zqg_p24 τ (zqg_q9 Q E) E H :=
  vSl (i := 0) h (fun x0 l0 c0 h => vI (i := 1) h (fun x1 h => vP (i := 5) h (fun x5 h => vI (i := 6) h (fun x6 h => vB (i := 51) h (fun x51 h => (conv (by kernel_rfl) h))))))

@[reducible] noncomputable def zqg_q10 (Q : QT) (E : ET) : Exit → Tau → Heap → Prop := (xthen (zqg_28_M Q E) (zqg_q9 Q E))

@[reducible] noncomputable def zqg_p25 : Code := sA zqg_p23

def zqg_30 (Q : QT) (E : ET) (x0 : OA) (l0 : Nat) (c0 : Nat) (x1 : Int) (x5 : OA) (x6 : Int) (H : Heap) : Prop :=
 sel (decide ((x6 : Int) < 2))
 (ptr x5 fun q46 =>
 ldI .i64 (Addr.add q46 2) H fun n47 =>
 sel ((n47 : Int) != 0)
 (zqg_28 Q E x0 l0 c0 x1 x5 x6 true H)
 (sel (decide ((x6 : Int) < 1))
 (ptr x5 fun q48 =>
 ldI .i64 (Addr.add q48 1) H fun n49 =>
 zqg_28 Q E x0 l0 c0 x1 x5 x6 ((n49 : Int) != 0) H)
 (zqg_28 Q E x0 l0 c0 x1 x5 x6 false H)))
 (sel (decide ((x6 : Int) < 1))
 (ptr x5 fun q50 =>
 ldI .i64 (Addr.add q50 1) H fun n51 =>
 zqg_28 Q E x0 l0 c0 x1 x5 x6 ((n51 : Int) != 0) H)
 (zqg_28 Q E x0 l0 c0 x1 x5 x6 false H))

def zqg_30_M (Q : QT) (E : ET) (τ : Tau) (H : Heap) : Prop := mSl (τ 0) fun x0 l0 c0 => mI .i64 (τ 1) fun x1 => mP (τ 5) fun x5 => mI .i64 (τ 6) fun x6 => zqg_30 Q E x0 l0 c0 x1 x5 x6 H

theorem zqg_31ok (Q : QT) (E : ET) (τ : Tau) (H : Heap) (h : zqg_30_M Q E τ H) : vc Pr zqg_p25 τ (zqg_q10 Q E) E H :=
  vSl (i := 0) h (fun x0 l0 c0 h => vI (i := 1) h (fun x1 h => vP (i := 5) h (fun x5 h => vI (i := 6) h (fun x6 h => (conv (by kernel_rfl) h)))))

theorem zqg_32ok (Q : QT) (E : ET) (τ : Tau) (H : Heap) (h : zqg_30_M Q E τ H) : vc Pr zqg_p23 τ (zqg_q9 Q E) E H :=
  (conv (B := vc Pr zqg_p23 τ (zqg_q9 Q E) E H) (by kernel_rfl) (vc_seq (K := (zqg_28_M Q E)) (zqg_31ok Q E τ H h) (zqg_29ok Q E)))

theorem zqg_33ok (Q : QT) (E : ET) (τ : Tau) (H : Heap) (h : zqg_30_M Q E τ H) : vc Pr zqg_p5 τ (zqg_q1 Q E) E H :=
  (conv (B := vc Pr zqg_p5 τ (zqg_q1 Q E) E H) (by kernel_rfl) (vc_seq (K := (zqg_25_M Q E)) (zqg_32ok Q E τ H h) (zqg_27ok Q E)))

@[reducible] noncomputable def zqg_q11 (Q : QT) (E : ET) : Exit → Tau → Heap → Prop := (xthen (zqg_30_M Q E) (zqg_q1 Q E))

@[reducible] noncomputable def zqg_p26 : Code := sA zqg_p4

def zqg_34 (Q : QT) (E : ET) (x0 : OA) (l0 : Nat) (c0 : Nat) (x1 : Int) (x5 : OA) (H : Heap) : Prop :=
 ptr x5 fun q52 =>
 ldI .i64 q52 H fun n53 =>
 Does Pr 42 #[(.int .i64 n53)] H (fun v54 H55 =>
 ∃ n56 : Int, v54 = (.int .i64 n56) ∧ zqg_30 Q E x0 l0 c0 x1 x5 n56 H55) E

def zqg_34_M (Q : QT) (E : ET) (τ : Tau) (H : Heap) : Prop := mSl (τ 0) fun x0 l0 c0 => mI .i64 (τ 1) fun x1 => mP (τ 5) fun x5 => zqg_34 Q E x0 l0 c0 x1 x5 H

theorem zqg_35ok (Q : QT) (E : ET) (τ : Tau) (H : Heap) (h : zqg_34_M Q E τ H) : vc Pr zqg_p26 τ (zqg_q11 Q E) E H :=
  vSl (i := 0) h (fun x0 l0 c0 h => vI (i := 1) h (fun x1 h => vP (i := 5) h (fun x5 h => (conv (by kernel_rfl) h))))

theorem zqg_36ok (Q : QT) (E : ET) (τ : Tau) (H : Heap) (h : zqg_34_M Q E τ H) : vc Pr zqg_p4 τ (zqg_q1 Q E) E H :=
  (conv (B := vc Pr zqg_p4 τ (zqg_q1 Q E) E H) (by kernel_rfl) (vc_seq (K := (zqg_30_M Q E)) (zqg_35ok Q E τ H h) (zqg_33ok Q E)))

@[reducible] noncomputable def zqg_q12 (Q : QT) (E : ET) : Exit → Tau → Heap → Prop := (xthen (zqg_34_M Q E) (zqg_q1 Q E))

@[reducible] noncomputable def zqg_p27 : Code := sA zqg_p3

@[reducible] noncomputable def zqg_p28 : Code := sB zqg_p27

def zqg_37 (Q : QT) (E : ET) (x0 : OA) (l0 : Nat) (c0 : Nat) (x1 : Int) (x5 : OA) (x32 : Bool) (H : Heap) : Prop :=
 sel x32
 (Q (.int .i64 (-1)) H)
 (zqg_34 Q E x0 l0 c0 x1 x5 H)

def zqg_37_M (Q : QT) (E : ET) (τ : Tau) (H : Heap) : Prop := mSl (τ 0) fun x0 l0 c0 => mI .i64 (τ 1) fun x1 => mP (τ 5) fun x5 => mB (τ 32) fun x32 => zqg_37 Q E x0 l0 c0 x1 x5 x32 H

theorem zqg_38ok (Q : QT) (E : ET) (τ : Tau) (H : Heap) (h : zqg_37_M Q E τ H) : vc Pr zqg_p28 τ (zqg_q12 Q E) E H :=
  vSl (i := 0) h (fun x0 l0 c0 h => vI (i := 1) h (fun x1 h => vP (i := 5) h (fun x5 h => vB (i := 32) h (fun x32 h => (conv (by kernel_rfl) h)))))

@[reducible] noncomputable def zqg_q13 (Q : QT) (E : ET) : Exit → Tau → Heap → Prop := (xthen (zqg_37_M Q E) (zqg_q12 Q E))

@[reducible] noncomputable def zqg_p29 : Code := sA zqg_p27

def zqg_39 (Q : QT) (E : ET) (x0 : OA) (l0 : Nat) (c0 : Nat) (x1 : Int) (x5 : OA) (H : Heap) : Prop :=
 ptr x5 fun q64 =>
 ldI .i64 q64 H fun n65 =>
 sel (decide ((n65 : Int) < 1))
 (zqg_37 Q E x0 l0 c0 x1 x5 true H)
 (ptr x5 fun q66 =>
 ldI .i64 q66 H fun n67 =>
 sel (decide ((n67 : Int) > 9))
 (zqg_37 Q E x0 l0 c0 x1 x5 true H)
 (ptr x5 fun q68 =>
 ldI .i64 q68 H fun n69 =>
 sel ((n69 : Int) != 2)
 (ptr x5 fun q70 =>
 ∃ n71 n72 n73 n74 : Int, Heap.rd H (Addr.add q70 3) 0 [(.int .u64 n71), (.int .u64 n72), (.int .u64 n73), (.int .u64 n74)] ∧ zqg_37 Q E x0 l0 c0 x1 x5 (!(eqVs [(.int .u64 n71), (.int .u64 n72), (.int .u64 n73), (.int .u64 n74)] [(.int .u64 0), (.int .u64 0), (.int .u64 0), (.int .u64 0)])) H)
 (zqg_37 Q E x0 l0 c0 x1 x5 false H)))

def zqg_39_M (Q : QT) (E : ET) (τ : Tau) (H : Heap) : Prop := mSl (τ 0) fun x0 l0 c0 => mI .i64 (τ 1) fun x1 => mP (τ 5) fun x5 => zqg_39 Q E x0 l0 c0 x1 x5 H

theorem zqg_40ok (Q : QT) (E : ET) (τ : Tau) (H : Heap) (h : zqg_39_M Q E τ H) : vc Pr zqg_p29 τ (zqg_q13 Q E) E H :=
  vSl (i := 0) h (fun x0 l0 c0 h => vI (i := 1) h (fun x1 h => vP (i := 5) h (fun x5 h => (conv (by kernel_rfl) h))))

theorem zqg_41ok (Q : QT) (E : ET) (τ : Tau) (H : Heap) (h : zqg_39_M Q E τ H) : vc Pr zqg_p27 τ (zqg_q12 Q E) E H :=
  (conv (B := vc Pr zqg_p27 τ (zqg_q12 Q E) E H) (by kernel_rfl) (vc_seq (K := (zqg_37_M Q E)) (zqg_40ok Q E τ H h) (zqg_38ok Q E)))

theorem zqg_42ok (Q : QT) (E : ET) (τ : Tau) (H : Heap) (h : zqg_39_M Q E τ H) : vc Pr zqg_p3 τ (zqg_q1 Q E) E H :=
  (conv (B := vc Pr zqg_p3 τ (zqg_q1 Q E) E H) (by kernel_rfl) (vc_seq (K := (zqg_34_M Q E)) (zqg_41ok Q E τ H h) (zqg_36ok Q E)))

@[reducible] noncomputable def zqg_q14 (Q : QT) (E : ET) : Exit → Tau → Heap → Prop := (xthen (zqg_39_M Q E) (zqg_q1 Q E))

@[reducible] noncomputable def zqg_p30 : Code := sA zqg_p2

def zqg_43 (Q : QT) (E : ET) (x0 : OA) (l0 : Nat) (c0 : Nat) (x1 : Int) (H : Heap) : Prop :=
 (0 ≤ (x1 : Int) ∧ (x1 : Int) < ((l0 : Nat) : Int)) ∧ ptr x0 fun q75 =>
 ∃ n76 n77 n78 n79 n80 n81 n82 : Int, Heap.rd H (Addr.add q75 ((x1 : Int).toNat * 7)) 0 [(.int .i64 n76), (.int .i64 n77), (.int .i64 n78), (.int .u64 n79), (.int .u64 n80), (.int .u64 n81), (.int .u64 n82)] ∧ nw (.cells #[(.int .i64 0), (.int .i64 0), (.int .i64 0), (.int .u64 0), (.int .u64 0), (.int .u64 0), (.int .u64 0)] 48 (0, 0)) H fun i83 H84 =>
 wr ⟨i83, 0, none⟩ [(.int .i64 n76), (.int .i64 n77), (.int .i64 n78), (.int .u64 n79), (.int .u64 n80), (.int .u64 n81), (.int .u64 n82)] H84 fun H85 =>
 zqg_39 Q E x0 l0 c0 x1 (some ⟨i83, 0, none⟩) H85

def zqg_43_M (Q : QT) (E : ET) (τ : Tau) (H : Heap) : Prop := mSl (τ 0) fun x0 l0 c0 => mI .i64 (τ 1) fun x1 => zqg_43 Q E x0 l0 c0 x1 H

theorem zqg_44ok (Q : QT) (E : ET) (τ : Tau) (H : Heap) (h : zqg_43_M Q E τ H) : vc Pr zqg_p30 τ (zqg_q14 Q E) E H :=
  vSl (i := 0) h (fun x0 l0 c0 h => vI (i := 1) h (fun x1 h => (conv (by kernel_rfl) h)))

theorem zqg_45ok (Q : QT) (E : ET) (τ : Tau) (H : Heap) (h : zqg_43_M Q E τ H) : vc Pr zqg_p2 τ (zqg_q1 Q E) E H :=
  (conv (B := vc Pr zqg_p2 τ (zqg_q1 Q E) E H) (by kernel_rfl) (vc_seq (K := (zqg_39_M Q E)) (zqg_44ok Q E τ H h) (zqg_42ok Q E)))

@[reducible] noncomputable def zqg_q15 (Q : QT) (E : ET) : Exit → Tau → Heap → Prop := (xthen (zqg_43_M Q E) (zqg_q1 Q E))

@[reducible] noncomputable def zqg_p31 : Code := sA zqg_p1

def zqg_46 (Q : QT) (E : ET) (x0 : OA) (l0 : Nat) (c0 : Nat) (x1 : Int) (H : Heap) : Prop :=
 sel (decide ((x1 : Int) < 0))
 (Q (.int .i64 (-1)) H)
 (zqg_43 Q E x0 l0 c0 x1 H)

def zqg_46_M (Q : QT) (E : ET) (τ : Tau) (H : Heap) : Prop := mSl (τ 0) fun x0 l0 c0 => mI .i64 (τ 1) fun x1 => zqg_46 Q E x0 l0 c0 x1 H

theorem zqg_47ok (Q : QT) (E : ET) (τ : Tau) (H : Heap) (h : zqg_46_M Q E τ H) : vc Pr zqg_p31 τ (zqg_q15 Q E) E H :=
  vSl (i := 0) h (fun x0 l0 c0 h => vI (i := 1) h (fun x1 h => (conv (by kernel_rfl) h)))

theorem zqg_48ok (Q : QT) (E : ET) (τ : Tau) (H : Heap) (h : zqg_46_M Q E τ H) : vc Pr zqg_p1 τ (zqg_q1 Q E) E H :=
  (conv (B := vc Pr zqg_p1 τ (zqg_q1 Q E) E H) (by kernel_rfl) (vc_seq (K := (zqg_43_M Q E)) (zqg_47ok Q E τ H h) (zqg_45ok Q E)))

@[reducible] noncomputable def zqg_q16 (Q : QT) (E : ET) : Exit → Tau → Heap → Prop := (xthen (zqg_46_M Q E) (zqg_q1 Q E))

@[reducible] noncomputable def zqg_p32 : Code := sA zqg_p0

def zqg (Q : QT) (E : ET) (a0 : OA) (a0l : Nat) (a0c : Nat) (a1 : Int) (H : Heap) : Prop :=
 zqg_46 Q E a0 a0l a0c a1 H

theorem zqg_fn (a0 : OA) (a0l : Nat) (a0c : Nat) (a1 : Int) (Q : QT) (E : ET) (H : Heap) (h : zqg Q E a0 a0l a0c a1 H)   : Does Pr 75 #[(.slice a0 a0l a0c), (.int .i64 a1)] H Q E :=
  Fn_of_vc (fn := Try.f75) (c := zqg_p0) (args := [(.slice a0 a0l a0c), (.int .i64 a1)]) mixed (by kernel_rfl) (by kernel_rfl) (by kernel_rfl) (by kernel_rfl) (by kernel_rfl) ((conv (B := vc Pr zqg_p0 (argT [(.slice a0 a0l a0c), (.int .i64 a1)]) (zqg_q1 Q E) E H) (by kernel_rfl) (vc_seq (K := (zqg_46_M Q E)) (conv (B := vc Pr zqg_p32 (argT [(.slice a0 a0l a0c), (.int .i64 a1)]) (zqg_q16 Q E) E H) (by kernel_rfl) h) (zqg_48ok Q E))))

/-! (*jobmux/jobmuxref08.parser).cat -/
@[reducible] noncomputable def zqh_q1 (Q : QT) (E : ET) : Exit → Tau → Heap → Prop := (retQ Pr (Try.f89).results.toList Q)

@[reducible] noncomputable def zqh_p0 : Code := bodyOf Try.f89

@[reducible] noncomputable def zqh_p1 : Code := sB zqh_p0

@[reducible] noncomputable def zqh_p2 : Code := sB zqh_p1

@[reducible] noncomputable def zqh_p3 : Code := sB zqh_p2

@[reducible] noncomputable def zqh_p4 : Code := sB zqh_p3

def zqh_1 (Q : QT) (E : ET) (x3 : OA) (l3 : Nat) (c3 : Nat) (H : Heap) : Prop :=
 Q (.slice x3 l3 c3) H

def zqh_1_M (Q : QT) (E : ET) (τ : Tau) (H : Heap) : Prop := mSl (τ 3) fun x3 l3 c3 => zqh_1 Q E x3 l3 c3 H

theorem zqh_2ok (Q : QT) (E : ET) (τ : Tau) (H : Heap) (h : zqh_1_M Q E τ H) : vc Pr zqh_p4 τ (zqh_q1 Q E) E H :=
  vSl (i := 3) h (fun x3 l3 c3 h => (conv (by kernel_rfl) h))

@[reducible] noncomputable def zqh_q2 (Q : QT) (E : ET) : Exit → Tau → Heap → Prop := (xthen (zqh_1_M Q E) (zqh_q1 Q E))

@[reducible] noncomputable def zqh_p5 : Code := sA zqh_p3

def zqh_3 (Q : QT) (E : ET) (x3 : OA) (l3 : Nat) (c3 : Nat) (H : Heap) : Prop :=
 sel ((((l3 : Nat) : Int) : Int) == 0)
 (Does Pr 101 #[(.int .i64 1), (.agg #[(.int .u64 0), (.int .u64 0), (.int .u64 0), (.int .u64 0)])] H (fun v29 H30 =>
 ∃ (p31 : OA) (l32 c33 : Nat), v29 = (.slice p31 l32 c33) ∧ Q (.slice p31 l32 c33) H30) E)
 (zqh_1 Q E x3 l3 c3 H)

def zqh_3_M (Q : QT) (E : ET) (τ : Tau) (H : Heap) : Prop := mSl (τ 3) fun x3 l3 c3 => zqh_3 Q E x3 l3 c3 H

theorem zqh_4ok (Q : QT) (E : ET) (τ : Tau) (H : Heap) (h : zqh_3_M Q E τ H) : vc Pr zqh_p5 τ (zqh_q2 Q E) E H :=
  vSl (i := 3) h (fun x3 l3 c3 h => (conv (by kernel_rfl) h))

theorem zqh_5ok (Q : QT) (E : ET) (τ : Tau) (H : Heap) (h : zqh_3_M Q E τ H) : vc Pr zqh_p3 τ (zqh_q1 Q E) E H :=
  (conv (B := vc Pr zqh_p3 τ (zqh_q1 Q E) E H) (by kernel_rfl) (vc_seq (K := (zqh_1_M Q E)) (zqh_4ok Q E τ H h) (zqh_2ok Q E)))

@[reducible] noncomputable def zqh_q3 (Q : QT) (E : ET) : Exit → Tau → Heap → Prop := (xthen (zqh_3_M Q E) (zqh_q1 Q E))

@[reducible] noncomputable def zqh_p6 : Code := sA zqh_p2

@[reducible] noncomputable def zqh_q4 (Q : QT) (E : ET) : Exit → Tau → Heap → Prop := (xblock 0 (zqh_q3 Q E))

@[reducible] noncomputable def zqh_p7 : Code := sI zqh_p6

@[reducible] noncomputable def zqh_q5 (nx34 : Option Addr → Nat → Nat → HP) (Q : QT) (E : ET) : Exit → Tau → Heap → Prop := (xthen (fun τ H => mSl (τ 3) fun x3' l3' c3' => nx34 x3' l3' c3' H) (zqh_q4 Q E))

@[reducible] noncomputable def zqh_p8 : Code := sI zqh_p7

@[reducible] noncomputable def zqh_p9 : Code := sB zqh_p8

@[reducible] noncomputable def zqh_q6 (nx34 : Option Addr → Nat → Nat → HP) (Q : QT) (E : ET) : Exit → Tau → Heap → Prop := (xblock 1 (zqh_q5 nx34 Q E))

@[reducible] noncomputable def zqh_p10 : Code := sI zqh_p9

@[reducible] noncomputable def zqh_p11 : Code := sB zqh_p10

@[reducible] noncomputable def zqh_p12 : Code := sB zqh_p11

def zqh_6 (nx34 : Option Addr → Nat → Nat → HP) (Q : QT) (E : ET) (x0 : OA) (x3 : OA) (l3 : Nat) (c3 : Nat) (x4 : OA) (l4 : Nat) (c4 : Nat) (H : Heap) : Prop :=
 sel ((((l3 : Nat) : Int) : Int) == 0)
 (nx34 x4 l4 c4 H)
 (Does Pr 91 #[(.int .i64 3), (.slice x3 l3 c3), (.slice x4 l4 c4)] H (fun v53 H54 =>
 ∃ (p55 : OA) (l56 c57 : Nat), v53 = (.slice p55 l56 c57) ∧ nx34 p55 l56 c57 H54) E)

def zqh_6_M (nx34 : Option Addr → Nat → Nat → HP) (Q : QT) (E : ET) (τ : Tau) (H : Heap) : Prop := mP (τ 0) fun x0 => mSl (τ 3) fun x3 l3 c3 => mSl (τ 4) fun x4 l4 c4 => zqh_6 nx34 Q E x0 x3 l3 c3 x4 l4 c4 H

theorem zqh_7ok (nx34 : Option Addr → Nat → Nat → HP) (Q : QT) (E : ET) (τ : Tau) (H : Heap) (h : zqh_6_M nx34 Q E τ H) : vc Pr zqh_p12 τ (zqh_q6 nx34 Q E) E H :=
  vP (i := 0) h (fun x0 h => vSl (i := 3) h (fun x3 l3 c3 h => vSl (i := 4) h (fun x4 l4 c4 h => (conv (by kernel_rfl) h))))

@[reducible] noncomputable def zqh_q7 (nx34 : Option Addr → Nat → Nat → HP) (Q : QT) (E : ET) : Exit → Tau → Heap → Prop := (xthen (zqh_6_M nx34 Q E) (zqh_q6 nx34 Q E))

@[reducible] noncomputable def zqh_p13 : Code := sA zqh_p11

def zqh_8 (nx34 : Option Addr → Nat → Nat → HP) (Q : QT) (E : ET) (x0 : OA) (x3 : OA) (l3 : Nat) (c3 : Nat) (x4 : OA) (l4 : Nat) (c4 : Nat) (H : Heap) : Prop :=
 ptr x0 fun q58 =>
 ldI .i64 (Addr.add q58 3) H fun n59 =>
 sel ((n59 : Int) != 0)
 (Q (.slice none 0 0) H)
 (zqh_6 nx34 Q E x0 x3 l3 c3 x4 l4 c4 H)

def zqh_8_M (nx34 : Option Addr → Nat → Nat → HP) (Q : QT) (E : ET) (τ : Tau) (H : Heap) : Prop := mP (τ 0) fun x0 => mSl (τ 3) fun x3 l3 c3 => mSl (τ 4) fun x4 l4 c4 => zqh_8 nx34 Q E x0 x3 l3 c3 x4 l4 c4 H

theorem zqh_9ok (nx34 : Option Addr → Nat → Nat → HP) (Q : QT) (E : ET) (τ : Tau) (H : Heap) (h : zqh_8_M nx34 Q E τ H) : vc Pr zqh_p13 τ (zqh_q7 nx34 Q E) E H :=
  vP (i := 0) h (fun x0 h => vSl (i := 3) h (fun x3 l3 c3 h => vSl (i := 4) h (fun x4 l4 c4 h => (conv (by kernel_rfl) h))))

theorem zqh_10ok (nx34 : Option Addr → Nat → Nat → HP) (Q : QT) (E : ET) (τ : Tau) (H : Heap) (h : zqh_8_M nx34 Q E τ H) : vc Pr zqh_p11 τ (zqh_q6 nx34 Q E) E H :=
  (conv (B := vc Pr zqh_p11 τ (zqh_q6 nx34 Q E) E H) (by kernel_rfl) (vc_seq (K := (zqh_6_M nx34 Q E)) (zqh_9ok nx34 Q E τ H h) (zqh_7ok nx34 Q E)))

@[reducible] noncomputable def zqh_q8 (nx34 : Option Addr → Nat → Nat → HP) (Q : QT) (E : ET) : Exit → Tau → Heap → Prop := (xthen (zqh_8_M nx34 Q E) (zqh_q6 nx34 Q E))

@[reducible] noncomputable def zqh_p14 : Code := sA zqh_p10

def zqh_11 (nx34 : Option Addr → Nat → Nat → HP) (Q : QT) (E : ET) (x0 : OA) (x3 : OA) (l3 : Nat) (c3 : Nat) (H : Heap) : Prop :=
 Does Pr 100 #[(.pointer x0)] H (fun v60 H61 =>
 ∃ (p62 : OA) (l63 c64 : Nat), v60 = (.slice p62 l63 c64) ∧ zqh_8 nx34 Q E x0 x3 l3 c3 p62 l63 c64 H61) E

def zqh_11_M (nx34 : Option Addr → Nat → Nat → HP) (Q : QT) (E : ET) (τ : Tau) (H : Heap) : Prop := mP (τ 0) fun x0 => mSl (τ 3) fun x3 l3 c3 => zqh_11 nx34 Q E x0 x3 l3 c3 H

theorem zqh_12ok (nx34 : Option Addr → Nat → Nat → HP) (Q : QT) (E : ET) (τ : Tau) (H : Heap) (h : zqh_11_M nx34 Q E τ H) : vc Pr zqh_p14 τ (zqh_q8 nx34 Q E) E H :=
  vP (i := 0) h (fun x0 h => vSl (i := 3) h (fun x3 l3 c3 h => (conv (by kernel_rfl) h)))

theorem zqh_13ok (nx34 : Option Addr → Nat → Nat → HP) (Q : QT) (E : ET) (τ : Tau) (H : Heap) (h : zqh_11_M nx34 Q E τ H) : vc Pr zqh_p10 τ (zqh_q6 nx34 Q E) E H :=
  (conv (B := vc Pr zqh_p10 τ (zqh_q6 nx34 Q E) E H) (by kernel_rfl) (vc_seq (K := (zqh_8_M nx34 Q E)) (zqh_12ok nx34 Q E τ H h) (zqh_10ok nx34 Q E)))

theorem zqh_14ok (nx34 : Option Addr → Nat → Nat → HP) (Q : QT) (E : ET) (τ : Tau) (H : Heap) (h : zqh_11_M nx34 Q E τ H) : vc Pr zqh_p9 τ (zqh_q5 nx34 Q E) E H :=
  (conv (B := vc Pr zqh_p9 τ (zqh_q5 nx34 Q E) E H) (by kernel_rfl) (zqh_13ok nx34 Q E τ H h))

@[reducible] noncomputable def zqh_q9 (nx34 : Option Addr → Nat → Nat → HP) (Q : QT) (E : ET) : Exit → Tau → Heap → Prop := (xthen (zqh_11_M nx34 Q E) (zqh_q5 nx34 Q E))

@[reducible] noncomputable def zqh_p15 : Code := sA zqh_p8

@[reducible] noncomputable def zqh_p16 : Code := sB zqh_p15

def zqh_15 (nx34 : Option Addr → Nat → Nat → HP) (Q : QT) (E : ET) (x0 : OA) (x3 : OA) (l3 : Nat) (c3 : Nat) (x30 : Bool) (H : Heap) : Prop :=
 sel x30
 (zqh_11 nx34 Q E x0 x3 l3 c3 H)
 (zqh_3 Q E x3 l3 c3 H)

def zqh_15_M (nx34 : Option Addr → Nat → Nat → HP) (Q : QT) (E : ET) (τ : Tau) (H : Heap) : Prop := mP (τ 0) fun x0 => mSl (τ 3) fun x3 l3 c3 => mB (τ 30) fun x30 => zqh_15 nx34 Q E x0 x3 l3 c3 x30 H

theorem zqh_16ok (nx34 : Option Addr → Nat → Nat → HP) (Q : QT) (E : ET) (τ : Tau) (H : Heap) (h : zqh_15_M nx34 Q E τ H) : vc Pr zqh_p16 τ (zqh_q9 nx34 Q E) E H :=
  vP (i := 0) h (fun x0 h => vSl (i := 3) h (fun x3 l3 c3 h => vB (i := 30) h (fun x30 h => (conv (by kernel_rfl) h))))

@[reducible] noncomputable def zqh_q10 (nx34 : Option Addr → Nat → Nat → HP) (Q : QT) (E : ET) : Exit → Tau → Heap → Prop := (xthen (zqh_15_M nx34 Q E) (zqh_q9 nx34 Q E))

@[reducible] noncomputable def zqh_p17 : Code := sA zqh_p15

def zqh_17 (nx34 : Option Addr → Nat → Nat → HP) (Q : QT) (E : ET) (x0 : OA) (x3 : OA) (l3 : Nat) (c3 : Nat) (H : Heap) : Prop :=
 Does Pr 90 #[(.pointer x0)] H (fun v76 H77 =>
 ∃ b78 : Bool, v76 = (.bool b78) ∧ sel b78
 (ptr x0 fun q79 =>
 ldS q79 H77 fun s80 =>
 ptr x0 fun q81 =>
 ldI .i64 (Addr.add q81 1) H77 fun n82 =>
 (0 ≤ (n82 : Int) ∧ (n82 : Int) < ((ByteArray.size s80 : Nat) : Int)) ∧ sel (((sAt s80 n82) : Int) != 124)
 (ptr x0 fun q83 =>
 ldS q83 H77 fun s84 =>
 ptr x0 fun q85 =>
 ldI .i64 (Addr.add q85 1) H77 fun n86 =>
 (0 ≤ (n86 : Int) ∧ (n86 : Int) < ((ByteArray.size s84 : Nat) : Int)) ∧ zqh_15 nx34 Q E x0 x3 l3 c3 (((sAt s84 n86) : Int) != 41) H77)
 (zqh_15 nx34 Q E x0 x3 l3 c3 false H77))
 (zqh_15 nx34 Q E x0 x3 l3 c3 false H77)) (fun _ _ => False)

def zqh_17_M (nx34 : Option Addr → Nat → Nat → HP) (Q : QT) (E : ET) (τ : Tau) (H : Heap) : Prop := mP (τ 0) fun x0 => mSl (τ 3) fun x3 l3 c3 => zqh_17 nx34 Q E x0 x3 l3 c3 H

theorem zqh_18ok (nx34 : Option Addr → Nat → Nat → HP) (Q : QT) (E : ET) (τ : Tau) (H : Heap) (h : zqh_17_M nx34 Q E τ H) : vc Pr zqh_p17 τ (zqh_q10 nx34 Q E) E H :=
  vP (i := 0) h (fun x0 h => vSl (i := 3) h (fun x3 l3 c3 h => (conv (by kernel_rfl) h)))

theorem zqh_19ok (nx34 : Option Addr → Nat → Nat → HP) (Q : QT) (E : ET) (τ : Tau) (H : Heap) (h : zqh_17_M nx34 Q E τ H) : vc Pr zqh_p15 τ (zqh_q9 nx34 Q E) E H :=
  (conv (B := vc Pr zqh_p15 τ (zqh_q9 nx34 Q E) E H) (by kernel_rfl) (vc_seq (K := (zqh_15_M nx34 Q E)) (zqh_18ok nx34 Q E τ H h) (zqh_16ok nx34 Q E)))

theorem zqh_20ok (nx34 : Option Addr → Nat → Nat → HP) (Q : QT) (E : ET) (τ : Tau) (H : Heap) (h : zqh_17_M nx34 Q E τ H) : vc Pr zqh_p8 τ (zqh_q5 nx34 Q E) E H :=
  (conv (B := vc Pr zqh_p8 τ (zqh_q5 nx34 Q E) E H) (by kernel_rfl) (vc_seq (K := (zqh_11_M nx34 Q E)) (zqh_19ok nx34 Q E τ H h) (zqh_14ok nx34 Q E)))

def zqh_21 (Q : QT) (E : ET) (x0 : OA) (x3 : OA) (l3 : Nat) (c3 : Nat) (H : Heap) : Prop :=
 ∃ (I : Option Addr → Nat → Nat → HP) (μ : Option Addr → Nat → Nat → Heap → Nat), I x3 l3 c3 H ∧ ∀ (x3 : OA) (l3 : Nat) (c3 : Nat) (H : Heap), I x3 l3 c3 H →
 zqh_17 (fun x3' l3' c3' H1 => I x3' l3' c3' H1 ∧ μ x3' l3' c3' H1 < μ x3 l3 c3 H) Q E x0 x3 l3 c3 H

def zqh_21_M (Q : QT) (E : ET) (τ : Tau) (H : Heap) : Prop := mP (τ 0) fun x0 => mSl (τ 3) fun x3 l3 c3 => zqh_21 Q E x0 x3 l3 c3 H

theorem zqh_22ok (Q : QT) (E : ET) (τ : Tau) (H : Heap) (h : zqh_21_M Q E τ H) : vc Pr zqh_p7 τ (zqh_q4 Q E) E H :=
  vP (i := 0) h (fun x0 h => vSl (i := 3) h (fun x3 l3 c3 h => match h with | ⟨I, μ, h0, hr⟩ => (conv (B := vc Pr zqh_p7 (Tau.upd (Tau.upd τ 0 (.pointer x0)) 3 (.slice x3 l3 c3)) (zqh_q4 Q E) E H) (by kernel_rfl) (vc_loop (c := sI zqh_p7) (τ := (Tau.upd (Tau.upd τ 0 (.pointer x0)) 3 (.slice x3 l3 c3))) [0] (fun τ H => mSl (τ 3) fun x3' l3' c3' => I x3' l3' c3' H) (fun τ H => μ (gL1 (τ 3)) (gL2 (τ 3)) (gL3 (τ 3)) H) (by kernel_rfl) h0 (fun τ1 H1 hf hI => fix_elim (τ := τ1) (i := 0) (v := (.pointer x0)) (G := fun τ => vc Pr (sI zqh_p7) τ (xthen (fun τ2 H2 => (mSl (τ2 3) fun x3' l3' c3' => I x3' l3' c3' H2) ∧ μ (gL1 (τ2 3)) (gL2 (τ2 3)) (gL3 (τ2 3)) H2 < μ (gL1 (τ 3)) (gL2 (τ 3)) (gL3 (τ 3)) H1) (zqh_q4 Q E)) E H1) (hf 0 (by simp)) (mSl_elim (i := 3) (G := fun τ => vc Pr (sI zqh_p7) τ (xthen (fun τ2 H2 => (mSl (τ2 3) fun x3' l3' c3' => I x3' l3' c3' H2) ∧ μ (gL1 (τ2 3)) (gL2 (τ2 3)) (gL3 (τ2 3)) H2 < μ (gL1 (τ 3)) (gL2 (τ 3)) (gL3 (τ 3)) H1) (zqh_q4 Q E)) E H1) hI (fun x3r l3r c3r h => (conv (B := vc Pr (sI zqh_p7) (Tau.upd (Tau.upd τ1 0 (.pointer x0)) 3 (.slice x3r l3r c3r)) (xthen (fun τ2 H2 => (mSl (τ2 3) fun x3' l3' c3' => I x3' l3' c3' H2) ∧ μ (gL1 (τ2 3)) (gL2 (τ2 3)) (gL3 (τ2 3)) H2 < μ (gL1 ((Tau.upd (Tau.upd τ1 0 (.pointer x0)) 3 (.slice x3r l3r c3r)) 3)) (gL2 ((Tau.upd (Tau.upd τ1 0 (.pointer x0)) 3 (.slice x3r l3r c3r)) 3)) (gL3 ((Tau.upd (Tau.upd τ1 0 (.pointer x0)) 3 (.slice x3r l3r c3r)) 3)) H1) (zqh_q4 Q E)) E H1) (by kernel_rfl) (vc_xthen (zqh_20ok (fun x3' l3' c3' H2 => I x3' l3' c3' H2 ∧ μ x3' l3' c3' H2 < μ x3r l3r c3r H1) Q E (Tau.upd (Tau.upd τ1 0 (.pointer x0)) 3 (.slice x3r l3r c3r)) H1 (conv (B := zqh_17_M (fun x3' l3' c3' H2 => I x3' l3' c3' H2 ∧ μ x3' l3' c3' H2 < μ x3r l3r c3r H1) Q E (Tau.upd (Tau.upd τ1 0 (.pointer x0)) 3 (.slice x3r l3r c3r)) H1) (by kernel_rfl) (hr x3r l3r c3r H1 h))) (fun τ2 H2 hk => mSl_elim (i := 3) (G := fun τ => (mSl (τ 3) fun x3' l3' c3' => I x3' l3' c3' H2) ∧ μ (gL1 (τ 3)) (gL2 (τ 3)) (gL3 (τ 3)) H2 < μ x3r l3r c3r H1) hk (fun x3' l3' c3' h => h)))))))))))

theorem zqh_23ok (Q : QT) (E : ET) (τ : Tau) (H : Heap) (h : zqh_21_M Q E τ H) : vc Pr zqh_p6 τ (zqh_q3 Q E) E H :=
  (conv (B := vc Pr zqh_p6 τ (zqh_q3 Q E) E H) (by kernel_rfl) (zqh_22ok Q E τ H h))

theorem zqh_24ok (Q : QT) (E : ET) (τ : Tau) (H : Heap) (h : zqh_21_M Q E τ H) : vc Pr zqh_p2 τ (zqh_q1 Q E) E H :=
  (conv (B := vc Pr zqh_p2 τ (zqh_q1 Q E) E H) (by kernel_rfl) (vc_seq (K := (zqh_3_M Q E)) (zqh_23ok Q E τ H h) (zqh_5ok Q E)))

@[reducible] noncomputable def zqh_q11 (Q : QT) (E : ET) : Exit → Tau → Heap → Prop := (xthen (zqh_21_M Q E) (zqh_q1 Q E))

@[reducible] noncomputable def zqh_p18 : Code := sA zqh_p1

def zqh_25 (Q : QT) (E : ET) (x0 : OA) (H : Heap) : Prop :=
 zqh_21 Q E x0 none 0 0 H

def zqh_25_M (Q : QT) (E : ET) (τ : Tau) (H : Heap) : Prop := mP (τ 0) fun x0 => zqh_25 Q E x0 H

theorem zqh_26ok (Q : QT) (E : ET) (τ : Tau) (H : Heap) (h : zqh_25_M Q E τ H) : vc Pr zqh_p18 τ (zqh_q11 Q E) E H :=
  vP (i := 0) h (fun x0 h => (conv (by kernel_rfl) h))

theorem zqh_27ok (Q : QT) (E : ET) (τ : Tau) (H : Heap) (h : zqh_25_M Q E τ H) : vc Pr zqh_p1 τ (zqh_q1 Q E) E H :=
  (conv (B := vc Pr zqh_p1 τ (zqh_q1 Q E) E H) (by kernel_rfl) (vc_seq (K := (zqh_21_M Q E)) (zqh_26ok Q E τ H h) (zqh_24ok Q E)))

@[reducible] noncomputable def zqh_q12 (Q : QT) (E : ET) : Exit → Tau → Heap → Prop := (xthen (zqh_25_M Q E) (zqh_q1 Q E))

@[reducible] noncomputable def zqh_p19 : Code := sA zqh_p0

def zqh (Q : QT) (E : ET) (a0 : OA) (H : Heap) : Prop :=
 zqh_25 Q E a0 H

theorem zqh_fn (a0 : OA) (Q : QT) (E : ET) (H : Heap) (h : zqh Q E a0 H)   : Does Pr 89 #[(.pointer a0)] H Q E :=
  Fn_of_vc (fn := Try.f89) (c := zqh_p0) (args := [(.pointer a0)]) mixed (by kernel_rfl) (by kernel_rfl) (by kernel_rfl) (by kernel_rfl) (by kernel_rfl) ((conv (B := vc Pr zqh_p0 (argT [(.pointer a0)]) (zqh_q1 Q E) E H) (by kernel_rfl) (vc_seq (K := (zqh_25_M Q E)) (conv (B := vc Pr zqh_p19 (argT [(.pointer a0)]) (zqh_q12 Q E) E H) (by kernel_rfl) h) (zqh_27ok Q E))))

/-! (*jobmux/jobmuxref08.parser).more -/
@[reducible] noncomputable def zqi_q1 (Q : QT) (E : ET) : Exit → Tau → Heap → Prop := (retQ Pr (Try.f90).results.toList Q)

@[reducible] noncomputable def zqi_p0 : Code := bodyOf Try.f90

def zqi (Q : QT) (E : ET) (a0 : OA) (H : Heap) : Prop :=
 ptr a0 fun q1 =>
 ldI .i64 (Addr.add q1 3) H fun n2 =>
 sel ((n2 : Int) == 0)
 (ptr a0 fun q3 =>
 ldI .i64 (Addr.add q3 1) H fun n4 =>
 ptr a0 fun q5 =>
 ldS q5 H fun s6 =>
 Q (.bool (decide ((n4 : Int) < ((ByteArray.size s6 : Nat) : Int)))) H)
 (Q (.bool false) H)

theorem zqi_fn (a0 : OA) (Q : QT) (E : ET) (H : Heap) (h : zqi Q E a0 H)   : Does Pr 90 #[(.pointer a0)] H Q E :=
  Fn_of_vc (fn := Try.f90) (c := zqi_p0) (args := [(.pointer a0)]) mixed (by kernel_rfl) (by kernel_rfl) (by kernel_rfl) (by kernel_rfl) (by kernel_rfl) ((conv (B := vc Pr zqi_p0 (argT [(.pointer a0)]) (zqi_q1 Q E) E H) (by kernel_rfl) h))

/-! jobmux/jobmuxref08.join -/
@[reducible] noncomputable def zqj_q1 (Q : QT) (E : ET) : Exit → Tau → Heap → Prop := (retQ Pr (Try.f91).results.toList Q)

@[reducible] noncomputable def zqj_p0 : Code := bodyOf Try.f91

@[reducible] noncomputable def zqj_p1 : Code := sB zqj_p0

@[reducible] noncomputable def zqj_p2 : Code := sB zqj_p1

@[reducible] noncomputable def zqj_p3 : Code := sB zqj_p2

@[reducible] noncomputable def zqj_p4 : Code := sB zqj_p3

@[reducible] noncomputable def zqj_p5 : Code := sB zqj_p4

def zqj_1 (Q : QT) (E : ET) (x7 : OA) (l7 : Nat) (c7 : Nat) (x10 : OA) (H : Heap) : Prop :=
 ptr x10 fun q48 =>
 ∃ n49 n50 n51 n52 n53 n54 n55 : Int, Heap.rd H q48 0 [(.int .i64 n49), (.int .i64 n50), (.int .i64 n51), (.int .u64 n52), (.int .u64 n53), (.int .u64 n54), (.int .u64 n55)] ∧ nw (.cells #[(.int .i64 n49), (.int .i64 n50), (.int .i64 n51), (.int .u64 n52), (.int .u64 n53), (.int .u64 n54), (.int .u64 n55)] 48 (0, 0)) H fun i56 H57 =>
 app Pr 23 x7 l7 c7 (.slice (some ⟨i56, 0, none⟩) 1 1) H57 fun p58 l59 c60 H61 =>
 Q (.slice p58 l59 c60) H61

def zqj_1_M (Q : QT) (E : ET) (τ : Tau) (H : Heap) : Prop := mSl (τ 7) fun x7 l7 c7 => mP (τ 10) fun x10 => zqj_1 Q E x7 l7 c7 x10 H

theorem zqj_2ok (Q : QT) (E : ET) (τ : Tau) (H : Heap) (h : zqj_1_M Q E τ H) : vc Pr zqj_p5 τ (zqj_q1 Q E) E H :=
  vSl (i := 7) h (fun x7 l7 c7 h => vP (i := 10) h (fun x10 h => (conv (by kernel_rfl) h)))

@[reducible] noncomputable def zqj_q2 (Q : QT) (E : ET) : Exit → Tau → Heap → Prop := (xthen (zqj_1_M Q E) (zqj_q1 Q E))

@[reducible] noncomputable def zqj_p6 : Code := sA zqj_p4

def zqj_3 (Q : QT) (E : ET) (x1 : OA) (l1 : Nat) (c1 : Nat) (x2 : OA) (l2 : Nat) (c2 : Nat) (x7 : OA) (l7 : Nat) (c7 : Nat) (x10 : OA) (H : Heap) : Prop :=
 sel (decide ((((l2 : Nat) : Int) : Int) > 0))
 (ptr x10 fun q62 =>
 wr (Addr.add q62 2) [(.int .i64 (IntKind.wrap .i64 ((IntKind.wrap .i64 (((l1 : Nat) : Int) + ((l2 : Nat) : Int))) - 1)))] H fun H63 =>
 zqj_1 Q E x7 l7 c7 x10 H63)
 (zqj_1 Q E x7 l7 c7 x10 H)

def zqj_3_M (Q : QT) (E : ET) (τ : Tau) (H : Heap) : Prop := mSl (τ 1) fun x1 l1 c1 => mSl (τ 2) fun x2 l2 c2 => mSl (τ 7) fun x7 l7 c7 => mP (τ 10) fun x10 => zqj_3 Q E x1 l1 c1 x2 l2 c2 x7 l7 c7 x10 H

theorem zqj_4ok (Q : QT) (E : ET) (τ : Tau) (H : Heap) (h : zqj_3_M Q E τ H) : vc Pr zqj_p6 τ (zqj_q2 Q E) E H :=
  vSl (i := 1) h (fun x1 l1 c1 h => vSl (i := 2) h (fun x2 l2 c2 h => vSl (i := 7) h (fun x7 l7 c7 h => vP (i := 10) h (fun x10 h => (conv (by kernel_rfl) h)))))

theorem zqj_5ok (Q : QT) (E : ET) (τ : Tau) (H : Heap) (h : zqj_3_M Q E τ H) : vc Pr zqj_p4 τ (zqj_q1 Q E) E H :=
  (conv (B := vc Pr zqj_p4 τ (zqj_q1 Q E) E H) (by kernel_rfl) (vc_seq (K := (zqj_1_M Q E)) (zqj_4ok Q E τ H h) (zqj_2ok Q E)))

@[reducible] noncomputable def zqj_q3 (Q : QT) (E : ET) : Exit → Tau → Heap → Prop := (xthen (zqj_3_M Q E) (zqj_q1 Q E))

@[reducible] noncomputable def zqj_p7 : Code := sA zqj_p3

def zqj_6 (Q : QT) (E : ET) (x0 : Int) (x1 : OA) (l1 : Nat) (c1 : Nat) (x2 : OA) (l2 : Nat) (c2 : Nat) (x7 : OA) (l7 : Nat) (c7 : Nat) (H : Heap) : Prop :=
 nw (.cells #[(.int .i64 0), (.int .i64 0), (.int .i64 0), (.int .u64 0), (.int .u64 0), (.int .u64 0), (.int .u64 0)] 48 (0, 0)) H fun i64 H65 =>
 wr ⟨i64, 0, none⟩ [(.int .i64 x0), (.int .i64 (IntKind.wrap .i64 (((l1 : Nat) : Int) - 1))), (.int .i64 0), (.int .u64 0), (.int .u64 0), (.int .u64 0), (.int .u64 0)] H65 fun H66 =>
 zqj_3 Q E x1 l1 c1 x2 l2 c2 x7 l7 c7 (some ⟨i64, 0, none⟩) H66

def zqj_6_M (Q : QT) (E : ET) (τ : Tau) (H : Heap) : Prop := mI .i64 (τ 0) fun x0 => mSl (τ 1) fun x1 l1 c1 => mSl (τ 2) fun x2 l2 c2 => mSl (τ 7) fun x7 l7 c7 => zqj_6 Q E x0 x1 l1 c1 x2 l2 c2 x7 l7 c7 H

theorem zqj_7ok (Q : QT) (E : ET) (τ : Tau) (H : Heap) (h : zqj_6_M Q E τ H) : vc Pr zqj_p7 τ (zqj_q3 Q E) E H :=
  vI (i := 0) h (fun x0 h => vSl (i := 1) h (fun x1 l1 c1 h => vSl (i := 2) h (fun x2 l2 c2 h => vSl (i := 7) h (fun x7 l7 c7 h => (conv (by kernel_rfl) h)))))

theorem zqj_8ok (Q : QT) (E : ET) (τ : Tau) (H : Heap) (h : zqj_6_M Q E τ H) : vc Pr zqj_p3 τ (zqj_q1 Q E) E H :=
  (conv (B := vc Pr zqj_p3 τ (zqj_q1 Q E) E H) (by kernel_rfl) (vc_seq (K := (zqj_3_M Q E)) (zqj_7ok Q E τ H h) (zqj_5ok Q E)))

@[reducible] noncomputable def zqj_q4 (Q : QT) (E : ET) : Exit → Tau → Heap → Prop := (xthen (zqj_6_M Q E) (zqj_q1 Q E))

@[reducible] noncomputable def zqj_p8 : Code := sA zqj_p2

@[reducible] noncomputable def zqj_p9 : Code := sB zqj_p8

@[reducible] noncomputable def zqj_q5 (Q : QT) (E : ET) : Exit → Tau → Heap → Prop := (xblock 0 (zqj_q4 Q E))

@[reducible] noncomputable def zqj_p10 : Code := sI zqj_p9

@[reducible] noncomputable def zqj_q6 (nx67 : Option Addr → Nat → Nat → Int → HP) (Q : QT) (E : ET) : Exit → Tau → Heap → Prop := (xthen (fun τ H => mSl (τ 7) fun x7' l7' c7' => mI .i64 (τ 8) fun x8' => nx67 x7' l7' c7' x8' H) (zqj_q5 Q E))

@[reducible] noncomputable def zqj_p11 : Code := sI zqj_p10

@[reducible] noncomputable def zqj_p12 : Code := sB zqj_p11

def zqj_9 (nx67 : Option Addr → Nat → Nat → Int → HP) (Q : QT) (E : ET) (x0 : Int) (x1 : OA) (l1 : Nat) (c1 : Nat) (x2 : OA) (l2 : Nat) (c2 : Nat) (x7 : OA) (l7 : Nat) (c7 : Nat) (x8 : Int) (H : Heap) : Prop :=
 (0 ≤ (x8 : Int) ∧ (x8 : Int) < ((l2 : Nat) : Int)) ∧ ptr x2 fun q68 =>
 ∃ n69 n70 n71 n72 n73 n74 n75 : Int, Heap.rd H (Addr.add q68 ((x8 : Int).toNat * 7)) 0 [(.int .i64 n69), (.int .i64 n70), (.int .i64 n71), (.int .u64 n72), (.int .u64 n73), (.int .u64 n74), (.int .u64 n75)] ∧ nw (.cells #[(.int .i64 0), (.int .i64 0), (.int .i64 0), (.int .u64 0), (.int .u64 0), (.int .u64 0), (.int .u64 0)] 48 (0, 0)) H fun i76 H77 =>
 wr ⟨i76, 0, none⟩ [(.int .i64 n69), (.int .i64 n70), (.int .i64 n71), (.int .u64 n72), (.int .u64 n73), (.int .u64 n74), (.int .u64 n75)] H77 fun H78 =>
 ∃ Z79 : Nat → Prop,
 ldI .i64 ⟨i76, 0, none⟩ H78 fun n80 =>
 ldI .i64 ⟨i76, 1, none⟩ H78 fun n81 =>
 Z79 (Addr.block ⟨i76, 0, none⟩) ∧ ldI .i64 ⟨i76, 0, none⟩ H78 fun n82 =>
 Z79 (Addr.block ⟨i76, 2, none⟩) ∧ ldI .i64 ⟨i76, 2, none⟩ H78 fun n83 =>
 Does Pr 102 #[(.int .i64 n80), (.int .i64 0), (.int .i64 n81), (.int .i64 ((l1 : Nat) : Int))] H78 (fun v84 H85 =>
 ∃ n86 : Int, v84 = (.int .i64 n86) ∧ (∀ z, Z79 z → H78 z ≠ none → H85 z = H78 z) ∧ Does Pr 102 #[(.int .i64 n82), (.int .i64 1), (.int .i64 n83), (.int .i64 ((l1 : Nat) : Int))] H85 (fun v87 H88 =>
 ∃ n89 : Int, v87 = (.int .i64 n89) ∧ wr ⟨i76, 1, none⟩ [(.int .i64 n86)] H88 fun H90 =>
 wr ⟨i76, 2, none⟩ [(.int .i64 n89)] H90 fun H91 =>
 ∃ n92 n93 n94 n95 n96 n97 n98 : Int, Heap.rd H91 ⟨i76, 0, none⟩ 0 [(.int .i64 n92), (.int .i64 n93), (.int .i64 n94), (.int .u64 n95), (.int .u64 n96), (.int .u64 n97), (.int .u64 n98)] ∧ nw (.cells #[(.int .i64 n92), (.int .i64 n93), (.int .i64 n94), (.int .u64 n95), (.int .u64 n96), (.int .u64 n97), (.int .u64 n98)] 48 (0, 0)) H91 fun i99 H100 =>
 app Pr 23 x7 l7 c7 (.slice (some ⟨i99, 0, none⟩) 1 1) H100 fun p101 l102 c103 H104 =>
 nx67 p101 l102 c103 (IntKind.wrap .i64 (x8 + 1)) H104) (fun _ _ => False)) (fun _ _ => False)

def zqj_9_M (nx67 : Option Addr → Nat → Nat → Int → HP) (Q : QT) (E : ET) (τ : Tau) (H : Heap) : Prop := mI .i64 (τ 0) fun x0 => mSl (τ 1) fun x1 l1 c1 => mSl (τ 2) fun x2 l2 c2 => mSl (τ 7) fun x7 l7 c7 => mI .i64 (τ 8) fun x8 => zqj_9 nx67 Q E x0 x1 l1 c1 x2 l2 c2 x7 l7 c7 x8 H

theorem zqj_10ok (nx67 : Option Addr → Nat → Nat → Int → HP) (Q : QT) (E : ET) (τ : Tau) (H : Heap) (h : zqj_9_M nx67 Q E τ H) : vc Pr zqj_p12 τ (zqj_q6 nx67 Q E) E H :=
  vI (i := 0) h (fun x0 h => vSl (i := 1) h (fun x1 l1 c1 h => vSl (i := 2) h (fun x2 l2 c2 h => vSl (i := 7) h (fun x7 l7 c7 h => vI (i := 8) h (fun x8 h => (conv (by kernel_rfl) h))))))

@[reducible] noncomputable def zqj_q7 (nx67 : Option Addr → Nat → Nat → Int → HP) (Q : QT) (E : ET) : Exit → Tau → Heap → Prop := (xthen (zqj_9_M nx67 Q E) (zqj_q6 nx67 Q E))

@[reducible] noncomputable def zqj_p13 : Code := sA zqj_p11

def zqj_11 (nx67 : Option Addr → Nat → Nat → Int → HP) (Q : QT) (E : ET) (x0 : Int) (x1 : OA) (l1 : Nat) (c1 : Nat) (x2 : OA) (l2 : Nat) (c2 : Nat) (x7 : OA) (l7 : Nat) (c7 : Nat) (x8 : Int) (H : Heap) : Prop :=
 sel (decide ((x8 : Int) < ((l2 : Nat) : Int)))
 (zqj_9 nx67 Q E x0 x1 l1 c1 x2 l2 c2 x7 l7 c7 x8 H)
 (zqj_6 Q E x0 x1 l1 c1 x2 l2 c2 x7 l7 c7 H)

def zqj_11_M (nx67 : Option Addr → Nat → Nat → Int → HP) (Q : QT) (E : ET) (τ : Tau) (H : Heap) : Prop := mI .i64 (τ 0) fun x0 => mSl (τ 1) fun x1 l1 c1 => mSl (τ 2) fun x2 l2 c2 => mSl (τ 7) fun x7 l7 c7 => mI .i64 (τ 8) fun x8 => zqj_11 nx67 Q E x0 x1 l1 c1 x2 l2 c2 x7 l7 c7 x8 H

theorem zqj_12ok (nx67 : Option Addr → Nat → Nat → Int → HP) (Q : QT) (E : ET) (τ : Tau) (H : Heap) (h : zqj_11_M nx67 Q E τ H) : vc Pr zqj_p13 τ (zqj_q7 nx67 Q E) E H :=
  vI (i := 0) h (fun x0 h => vSl (i := 1) h (fun x1 l1 c1 h => vSl (i := 2) h (fun x2 l2 c2 h => vSl (i := 7) h (fun x7 l7 c7 h => vI (i := 8) h (fun x8 h => (conv (by kernel_rfl) h))))))

theorem zqj_13ok (nx67 : Option Addr → Nat → Nat → Int → HP) (Q : QT) (E : ET) (τ : Tau) (H : Heap) (h : zqj_11_M nx67 Q E τ H) : vc Pr zqj_p11 τ (zqj_q6 nx67 Q E) E H :=
  (conv (B := vc Pr zqj_p11 τ (zqj_q6 nx67 Q E) E H) (by kernel_rfl) (vc_seq (K := (zqj_9_M nx67 Q E)) (zqj_12ok nx67 Q E τ H h) (zqj_10ok nx67 Q E)))

def zqj_14 (Q : QT) (E : ET) (x0 : Int) (x1 : OA) (l1 : Nat) (c1 : Nat) (x2 : OA) (l2 : Nat) (c2 : Nat) (x7 : OA) (l7 : Nat) (c7 : Nat) (x8 : Int) (H : Heap) : Prop :=
 ∃ (I : Option Addr → Nat → Nat → Int → HP) (μ : Option Addr → Nat → Nat → Int → Heap → Nat), I x7 l7 c7 x8 H ∧ ∀ (x7 : OA) (l7 : Nat) (c7 : Nat) (x8 : Int) (H : Heap), I x7 l7 c7 x8 H →
 zqj_11 (fun x7' l7' c7' x8' H1 => I x7' l7' c7' x8' H1 ∧ μ x7' l7' c7' x8' H1 < μ x7 l7 c7 x8 H) Q E x0 x1 l1 c1 x2 l2 c2 x7 l7 c7 x8 H

def zqj_14_M (Q : QT) (E : ET) (τ : Tau) (H : Heap) : Prop := mI .i64 (τ 0) fun x0 => mSl (τ 1) fun x1 l1 c1 => mSl (τ 2) fun x2 l2 c2 => mSl (τ 7) fun x7 l7 c7 => mI .i64 (τ 8) fun x8 => zqj_14 Q E x0 x1 l1 c1 x2 l2 c2 x7 l7 c7 x8 H

theorem zqj_15ok (Q : QT) (E : ET) (τ : Tau) (H : Heap) (h : zqj_14_M Q E τ H) : vc Pr zqj_p10 τ (zqj_q5 Q E) E H :=
  vI (i := 0) h (fun x0 h => vSl (i := 1) h (fun x1 l1 c1 h => vSl (i := 2) h (fun x2 l2 c2 h => vSl (i := 7) h (fun x7 l7 c7 h => vI (i := 8) h (fun x8 h => match h with | ⟨I, μ, h0, hr⟩ => (conv (B := vc Pr zqj_p10 (Tau.upd (Tau.upd (Tau.upd (Tau.upd (Tau.upd τ 0 (.int .i64 x0)) 1 (.slice x1 l1 c1)) 2 (.slice x2 l2 c2)) 7 (.slice x7 l7 c7)) 8 (.int .i64 x8)) (zqj_q5 Q E) E H) (by kernel_rfl) (vc_loop (c := sI zqj_p10) (τ := (Tau.upd (Tau.upd (Tau.upd (Tau.upd (Tau.upd τ 0 (.int .i64 x0)) 1 (.slice x1 l1 c1)) 2 (.slice x2 l2 c2)) 7 (.slice x7 l7 c7)) 8 (.int .i64 x8))) [0, 1, 2] (fun τ H => mSl (τ 7) fun x7' l7' c7' => mI .i64 (τ 8) fun x8' => I x7' l7' c7' x8' H) (fun τ H => μ (gL1 (τ 7)) (gL2 (τ 7)) (gL3 (τ 7)) (gI (τ 8)) H) (by kernel_rfl) h0 (fun τ1 H1 hf hI => fix_elim (τ := τ1) (i := 0) (v := (.int .i64 x0)) (G := fun τ => vc Pr (sI zqj_p10) τ (xthen (fun τ2 H2 => (mSl (τ2 7) fun x7' l7' c7' => mI .i64 (τ2 8) fun x8' => I x7' l7' c7' x8' H2) ∧ μ (gL1 (τ2 7)) (gL2 (τ2 7)) (gL3 (τ2 7)) (gI (τ2 8)) H2 < μ (gL1 (τ 7)) (gL2 (τ 7)) (gL3 (τ 7)) (gI (τ 8)) H1) (zqj_q5 Q E)) E H1) (hf 0 (by simp)) (fix_elim (τ := (Tau.upd τ1 0 (.int .i64 x0))) (i := 1) (v := (.slice x1 l1 c1)) (G := fun τ => vc Pr (sI zqj_p10) τ (xthen (fun τ2 H2 => (mSl (τ2 7) fun x7' l7' c7' => mI .i64 (τ2 8) fun x8' => I x7' l7' c7' x8' H2) ∧ μ (gL1 (τ2 7)) (gL2 (τ2 7)) (gL3 (τ2 7)) (gI (τ2 8)) H2 < μ (gL1 (τ 7)) (gL2 (τ 7)) (gL3 (τ 7)) (gI (τ 8)) H1) (zqj_q5 Q E)) E H1) (hf 1 (by simp)) (fix_elim (τ := (Tau.upd (Tau.upd τ1 0 (.int .i64 x0)) 1 (.slice x1 l1 c1))) (i := 2) (v := (.slice x2 l2 c2)) (G := fun τ => vc Pr (sI zqj_p10) τ (xthen (fun τ2 H2 => (mSl (τ2 7) fun x7' l7' c7' => mI .i64 (τ2 8) fun x8' => I x7' l7' c7' x8' H2) ∧ μ (gL1 (τ2 7)) (gL2 (τ2 7)) (gL3 (τ2 7)) (gI (τ2 8)) H2 < μ (gL1 (τ 7)) (gL2 (τ 7)) (gL3 (τ 7)) (gI (τ 8)) H1) (zqj_q5 Q E)) E H1) (hf 2 (by simp)) (mSl_elim (i := 7) (G := fun τ => vc Pr (sI zqj_p10) τ (xthen (fun τ2 H2 => (mSl (τ2 7) fun x7' l7' c7' => mI .i64 (τ2 8) fun x8' => I x7' l7' c7' x8' H2) ∧ μ (gL1 (τ2 7)) (gL2 (τ2 7)) (gL3 (τ2 7)) (gI (τ2 8)) H2 < μ (gL1 (τ 7)) (gL2 (τ 7)) (gL3 (τ 7)) (gI (τ 8)) H1) (zqj_q5 Q E)) E H1) hI (fun x7r l7r c7r h => mI_elim (i := 8) (G := fun τ => vc Pr (sI zqj_p10) τ (xthen (fun τ2 H2 => (mSl (τ2 7) fun x7' l7' c7' => mI .i64 (τ2 8) fun x8' => I x7' l7' c7' x8' H2) ∧ μ (gL1 (τ2 7)) (gL2 (τ2 7)) (gL3 (τ2 7)) (gI (τ2 8)) H2 < μ (gL1 (τ 7)) (gL2 (τ 7)) (gL3 (τ 7)) (gI (τ 8)) H1) (zqj_q5 Q E)) E H1) h (fun x8r h => (conv (B := vc Pr (sI zqj_p10) (Tau.upd (Tau.upd (Tau.upd (Tau.upd (Tau.upd τ1 0 (.int .i64 x0)) 1 (.slice x1 l1 c1)) 2 (.slice x2 l2 c2)) 7 (.slice x7r l7r c7r)) 8 (.int .i64 x8r)) (xthen (fun τ2 H2 => (mSl (τ2 7) fun x7' l7' c7' => mI .i64 (τ2 8) fun x8' => I x7' l7' c7' x8' H2) ∧ μ (gL1 (τ2 7)) (gL2 (τ2 7)) (gL3 (τ2 7)) (gI (τ2 8)) H2 < μ (gL1 ((Tau.upd (Tau.upd (Tau.upd (Tau.upd (Tau.upd τ1 0 (.int .i64 x0)) 1 (.slice x1 l1 c1)) 2 (.slice x2 l2 c2)) 7 (.slice x7r l7r c7r)) 8 (.int .i64 x8r)) 7)) (gL2 ((Tau.upd (Tau.upd (Tau.upd (Tau.upd (Tau.upd τ1 0 (.int .i64 x0)) 1 (.slice x1 l1 c1)) 2 (.slice x2 l2 c2)) 7 (.slice x7r l7r c7r)) 8 (.int .i64 x8r)) 7)) (gL3 ((Tau.upd (Tau.upd (Tau.upd (Tau.upd (Tau.upd τ1 0 (.int .i64 x0)) 1 (.slice x1 l1 c1)) 2 (.slice x2 l2 c2)) 7 (.slice x7r l7r c7r)) 8 (.int .i64 x8r)) 7)) (gI ((Tau.upd (Tau.upd (Tau.upd (Tau.upd (Tau.upd τ1 0 (.int .i64 x0)) 1 (.slice x1 l1 c1)) 2 (.slice x2 l2 c2)) 7 (.slice x7r l7r c7r)) 8 (.int .i64 x8r)) 8)) H1) (zqj_q5 Q E)) E H1) (by kernel_rfl) (vc_xthen (zqj_13ok (fun x7' l7' c7' x8' H2 => I x7' l7' c7' x8' H2 ∧ μ x7' l7' c7' x8' H2 < μ x7r l7r c7r x8r H1) Q E (Tau.upd (Tau.upd (Tau.upd (Tau.upd (Tau.upd τ1 0 (.int .i64 x0)) 1 (.slice x1 l1 c1)) 2 (.slice x2 l2 c2)) 7 (.slice x7r l7r c7r)) 8 (.int .i64 x8r)) H1 (conv (B := zqj_11_M (fun x7' l7' c7' x8' H2 => I x7' l7' c7' x8' H2 ∧ μ x7' l7' c7' x8' H2 < μ x7r l7r c7r x8r H1) Q E (Tau.upd (Tau.upd (Tau.upd (Tau.upd (Tau.upd τ1 0 (.int .i64 x0)) 1 (.slice x1 l1 c1)) 2 (.slice x2 l2 c2)) 7 (.slice x7r l7r c7r)) 8 (.int .i64 x8r)) H1) (by kernel_rfl) (hr x7r l7r c7r x8r H1 h))) (fun τ2 H2 hk => mSl_elim (i := 7) (G := fun τ => (mSl (τ 7) fun x7' l7' c7' => mI .i64 (τ 8) fun x8' => I x7' l7' c7' x8' H2) ∧ μ (gL1 (τ 7)) (gL2 (τ 7)) (gL3 (τ 7)) (gI (τ 8)) H2 < μ x7r l7r c7r x8r H1) hk (fun x7' l7' c7' h => mI_elim (i := 8) (G := fun τ => (mSl (τ 7) fun x7' l7' c7' => mI .i64 (τ 8) fun x8' => I x7' l7' c7' x8' H2) ∧ μ (gL1 (τ 7)) (gL2 (τ 7)) (gL3 (τ 7)) (gI (τ 8)) H2 < μ x7r l7r c7r x8r H1) h (fun x8' h => h))))))))))))))))))

theorem zqj_16ok (Q : QT) (E : ET) (τ : Tau) (H : Heap) (h : zqj_14_M Q E τ H) : vc Pr zqj_p9 τ (zqj_q4 Q E) E H :=
  (conv (B := vc Pr zqj_p9 τ (zqj_q4 Q E) E H) (by kernel_rfl) (zqj_15ok Q E τ H h))

@[reducible] noncomputable def zqj_q8 (Q : QT) (E : ET) : Exit → Tau → Heap → Prop := (xthen (zqj_14_M Q E) (zqj_q4 Q E))

@[reducible] noncomputable def zqj_p14 : Code := sA zqj_p8

def zqj_17 (Q : QT) (E : ET) (x0 : Int) (x1 : OA) (l1 : Nat) (c1 : Nat) (x2 : OA) (l2 : Nat) (c2 : Nat) (x7 : OA) (l7 : Nat) (c7 : Nat) (H : Heap) : Prop :=
 zqj_14 Q E x0 x1 l1 c1 x2 l2 c2 x7 l7 c7 0 H

def zqj_17_M (Q : QT) (E : ET) (τ : Tau) (H : Heap) : Prop := mI .i64 (τ 0) fun x0 => mSl (τ 1) fun x1 l1 c1 => mSl (τ 2) fun x2 l2 c2 => mSl (τ 7) fun x7 l7 c7 => zqj_17 Q E x0 x1 l1 c1 x2 l2 c2 x7 l7 c7 H

theorem zqj_18ok (Q : QT) (E : ET) (τ : Tau) (H : Heap) (h : zqj_17_M Q E τ H) : vc Pr zqj_p14 τ (zqj_q8 Q E) E H :=
  vI (i := 0) h (fun x0 h => vSl (i := 1) h (fun x1 l1 c1 h => vSl (i := 2) h (fun x2 l2 c2 h => vSl (i := 7) h (fun x7 l7 c7 h => (conv (by kernel_rfl) h)))))

theorem zqj_19ok (Q : QT) (E : ET) (τ : Tau) (H : Heap) (h : zqj_17_M Q E τ H) : vc Pr zqj_p8 τ (zqj_q4 Q E) E H :=
  (conv (B := vc Pr zqj_p8 τ (zqj_q4 Q E) E H) (by kernel_rfl) (vc_seq (K := (zqj_14_M Q E)) (zqj_18ok Q E τ H h) (zqj_16ok Q E)))

theorem zqj_20ok (Q : QT) (E : ET) (τ : Tau) (H : Heap) (h : zqj_17_M Q E τ H) : vc Pr zqj_p2 τ (zqj_q1 Q E) E H :=
  (conv (B := vc Pr zqj_p2 τ (zqj_q1 Q E) E H) (by kernel_rfl) (vc_seq (K := (zqj_6_M Q E)) (zqj_19ok Q E τ H h) (zqj_8ok Q E)))

@[reducible] noncomputable def zqj_q9 (Q : QT) (E : ET) : Exit → Tau → Heap → Prop := (xthen (zqj_17_M Q E) (zqj_q1 Q E))

@[reducible] noncomputable def zqj_p15 : Code := sA zqj_p1

def zqj_21 (Q : QT) (E : ET) (x0 : Int) (x1 : OA) (l1 : Nat) (c1 : Nat) (x2 : OA) (l2 : Nat) (c2 : Nat) (H : Heap) : Prop :=
 nw (.cells #[] 48 (0, 0)) H fun i105 H106 =>
 app Pr 23 (some ⟨i105, 0, none⟩) 0 0 (.slice x1 l1 c1) H106 fun p107 l108 c109 H110 =>
 zqj_17 Q E x0 x1 l1 c1 x2 l2 c2 p107 l108 c109 H110

def zqj_21_M (Q : QT) (E : ET) (τ : Tau) (H : Heap) : Prop := mI .i64 (τ 0) fun x0 => mSl (τ 1) fun x1 l1 c1 => mSl (τ 2) fun x2 l2 c2 => zqj_21 Q E x0 x1 l1 c1 x2 l2 c2 H

theorem zqj_22ok (Q : QT) (E : ET) (τ : Tau) (H : Heap) (h : zqj_21_M Q E τ H) : vc Pr zqj_p15 τ (zqj_q9 Q E) E H :=
  vI (i := 0) h (fun x0 h => vSl (i := 1) h (fun x1 l1 c1 h => vSl (i := 2) h (fun x2 l2 c2 h => (conv (by kernel_rfl) h))))

theorem zqj_23ok (Q : QT) (E : ET) (τ : Tau) (H : Heap) (h : zqj_21_M Q E τ H) : vc Pr zqj_p1 τ (zqj_q1 Q E) E H :=
  (conv (B := vc Pr zqj_p1 τ (zqj_q1 Q E) E H) (by kernel_rfl) (vc_seq (K := (zqj_17_M Q E)) (zqj_22ok Q E τ H h) (zqj_20ok Q E)))

@[reducible] noncomputable def zqj_q10 (Q : QT) (E : ET) : Exit → Tau → Heap → Prop := (xthen (zqj_21_M Q E) (zqj_q1 Q E))

@[reducible] noncomputable def zqj_p16 : Code := sA zqj_p0

def zqj (Q : QT) (E : ET) (a0 : Int) (a1 : OA) (a1l : Nat) (a1c : Nat) (a2 : OA) (a2l : Nat) (a2c : Nat) (H : Heap) : Prop :=
 zqj_21 Q E a0 a1 a1l a1c a2 a2l a2c H

theorem zqj_fn (a0 : Int) (a1 : OA) (a1l : Nat) (a1c : Nat) (a2 : OA) (a2l : Nat) (a2c : Nat) (Q : QT) (E : ET) (H : Heap) (h : zqj Q E a0 a1 a1l a1c a2 a2l a2c H)   : Does Pr 91 #[(.int .i64 a0), (.slice a1 a1l a1c), (.slice a2 a2l a2c)] H Q E :=
  Fn_of_vc (fn := Try.f91) (c := zqj_p0) (args := [(.int .i64 a0), (.slice a1 a1l a1c), (.slice a2 a2l a2c)]) mixed (by kernel_rfl) (by kernel_rfl) (by kernel_rfl) (by kernel_rfl) (by kernel_rfl) ((conv (B := vc Pr zqj_p0 (argT [(.int .i64 a0), (.slice a1 a1l a1c), (.slice a2 a2l a2c)]) (zqj_q1 Q E) E H) (by kernel_rfl) (vc_seq (K := (zqj_21_M Q E)) (conv (B := vc Pr zqj_p16 (argT [(.int .i64 a0), (.slice a1 a1l a1c), (.slice a2 a2l a2c)]) (zqj_q10 Q E) E H) (by kernel_rfl) h) (zqj_23ok Q E))))

/-! (*jobmux/jobmuxref08.parser).part -/
@[reducible] noncomputable def zqk_q1 (Q : QT) (E : ET) : Exit → Tau → Heap → Prop := (retQ Pr (Try.f100).results.toList Q)

@[reducible] noncomputable def zqk_p0 : Code := bodyOf Try.f100

@[reducible] noncomputable def zqk_p1 : Code := sB zqk_p0

@[reducible] noncomputable def zqk_p2 : Code := sB zqk_p1

@[reducible] noncomputable def zqk_p3 : Code := sB zqk_p2

def zqk_1 (Q : QT) (E : ET) (x3 : OA) (l3 : Nat) (c3 : Nat) (H : Heap) : Prop :=
 Q (.slice x3 l3 c3) H

def zqk_1_M (Q : QT) (E : ET) (τ : Tau) (H : Heap) : Prop := mSl (τ 3) fun x3 l3 c3 => zqk_1 Q E x3 l3 c3 H

theorem zqk_2ok (Q : QT) (E : ET) (τ : Tau) (H : Heap) (h : zqk_1_M Q E τ H) : vc Pr zqk_p3 τ (zqk_q1 Q E) E H :=
  vSl (i := 3) h (fun x3 l3 c3 h => (conv (by kernel_rfl) h))

@[reducible] noncomputable def zqk_q2 (Q : QT) (E : ET) : Exit → Tau → Heap → Prop := (xthen (zqk_1_M Q E) (zqk_q1 Q E))

@[reducible] noncomputable def zqk_p4 : Code := sA zqk_p2

@[reducible] noncomputable def zqk_q3 (Q : QT) (E : ET) : Exit → Tau → Heap → Prop := (xblock 0 (zqk_q2 Q E))

@[reducible] noncomputable def zqk_p5 : Code := sI zqk_p4

@[reducible] noncomputable def zqk_q4 (nx32 : Option Addr → Nat → Nat → HP) (Q : QT) (E : ET) : Exit → Tau → Heap → Prop := (xthen (fun τ H => mSl (τ 3) fun x3' l3' c3' => nx32 x3' l3' c3' H) (zqk_q3 Q E))

@[reducible] noncomputable def zqk_p6 : Code := sI zqk_p5

@[reducible] noncomputable def zqk_p7 : Code := sB zqk_p6

@[reducible] noncomputable def zqk_q5 (nx32 : Option Addr → Nat → Nat → HP) (Q : QT) (E : ET) : Exit → Tau → Heap → Prop := (xblock 1 (zqk_q4 nx32 Q E))

@[reducible] noncomputable def zqk_p8 : Code := sI zqk_p7

@[reducible] noncomputable def zqk_p9 : Code := sB zqk_p8

def zqk_3 (nx32 : Option Addr → Nat → Nat → HP) (Q : QT) (E : ET) (x0 : OA) (x3 : OA) (l3 : Nat) (c3 : Nat) (H : Heap) : Prop :=
 ptr x0 fun q55 =>
 ldI .i64 (Addr.add q55 1) H fun n56 =>
 ptr x0 fun q57 =>
 wr (Addr.add q57 1) [(.int .i64 (IntKind.wrap .i64 (n56 + 1)))] H fun H58 =>
 nx32 x3 l3 c3 H58

def zqk_3_M (nx32 : Option Addr → Nat → Nat → HP) (Q : QT) (E : ET) (τ : Tau) (H : Heap) : Prop := mP (τ 0) fun x0 => mSl (τ 3) fun x3 l3 c3 => zqk_3 nx32 Q E x0 x3 l3 c3 H

theorem zqk_4ok (nx32 : Option Addr → Nat → Nat → HP) (Q : QT) (E : ET) (τ : Tau) (H : Heap) (h : zqk_3_M nx32 Q E τ H) : vc Pr zqk_p9 τ (zqk_q5 nx32 Q E) E H :=
  vP (i := 0) h (fun x0 h => vSl (i := 3) h (fun x3 l3 c3 h => (conv (by kernel_rfl) h)))

@[reducible] noncomputable def zqk_q6 (nx32 : Option Addr → Nat → Nat → HP) (Q : QT) (E : ET) : Exit → Tau → Heap → Prop := (xthen (zqk_3_M nx32 Q E) (zqk_q5 nx32 Q E))

@[reducible] noncomputable def zqk_p10 : Code := sA zqk_p8

def zqk_5 (nx32 : Option Addr → Nat → Nat → HP) (Q : QT) (E : ET) (x0 : OA) (x3 : OA) (l3 : Nat) (c3 : Nat) (H : Heap) : Prop :=
 ptr x0 fun q59 =>
 ldS q59 H fun s60 =>
 ptr x0 fun q61 =>
 ldI .i64 (Addr.add q61 1) H fun n62 =>
 (0 ≤ (n62 : Int) ∧ (n62 : Int) < ((ByteArray.size s60 : Nat) : Int)) ∧ sel (((sAt s60 n62) : Int) == 42)
 (Does Pr 91 #[(.int .i64 5), (.slice x3 l3 c3), (.slice none 0 0)] H (fun v63 H64 =>
 ∃ (p65 : OA) (l66 c67 : Nat), v63 = (.slice p65 l66 c67) ∧ zqk_3 nx32 Q E x0 p65 l66 c67 H64) E)
 (sel (((sAt s60 n62) : Int) == 43)
 (Does Pr 91 #[(.int .i64 6), (.slice x3 l3 c3), (.slice none 0 0)] H (fun v68 H69 =>
 ∃ (p70 : OA) (l71 c72 : Nat), v68 = (.slice p70 l71 c72) ∧ zqk_3 nx32 Q E x0 p70 l71 c72 H69) E)
 (sel (((sAt s60 n62) : Int) == 63)
 (Does Pr 91 #[(.int .i64 7), (.slice x3 l3 c3), (.slice none 0 0)] H (fun v73 H74 =>
 ∃ (p75 : OA) (l76 c77 : Nat), v73 = (.slice p75 l76 c77) ∧ zqk_3 nx32 Q E x0 p75 l76 c77 H74) E)
 (Q (.slice x3 l3 c3) H)))

def zqk_5_M (nx32 : Option Addr → Nat → Nat → HP) (Q : QT) (E : ET) (τ : Tau) (H : Heap) : Prop := mP (τ 0) fun x0 => mSl (τ 3) fun x3 l3 c3 => zqk_5 nx32 Q E x0 x3 l3 c3 H

theorem zqk_6ok (nx32 : Option Addr → Nat → Nat → HP) (Q : QT) (E : ET) (τ : Tau) (H : Heap) (h : zqk_5_M nx32 Q E τ H) : vc Pr zqk_p10 τ (zqk_q6 nx32 Q E) E H :=
  vP (i := 0) h (fun x0 h => vSl (i := 3) h (fun x3 l3 c3 h => (conv (by kernel_rfl) h)))

theorem zqk_7ok (nx32 : Option Addr → Nat → Nat → HP) (Q : QT) (E : ET) (τ : Tau) (H : Heap) (h : zqk_5_M nx32 Q E τ H) : vc Pr zqk_p8 τ (zqk_q5 nx32 Q E) E H :=
  (conv (B := vc Pr zqk_p8 τ (zqk_q5 nx32 Q E) E H) (by kernel_rfl) (vc_seq (K := (zqk_3_M nx32 Q E)) (zqk_6ok nx32 Q E τ H h) (zqk_4ok nx32 Q E)))

theorem zqk_8ok (nx32 : Option Addr → Nat → Nat → HP) (Q : QT) (E : ET) (τ : Tau) (H : Heap) (h : zqk_5_M nx32 Q E τ H) : vc Pr zqk_p7 τ (zqk_q4 nx32 Q E) E H :=
  (conv (B := vc Pr zqk_p7 τ (zqk_q4 nx32 Q E) E H) (by kernel_rfl) (zqk_7ok nx32 Q E τ H h))

@[reducible] noncomputable def zqk_q7 (nx32 : Option Addr → Nat → Nat → HP) (Q : QT) (E : ET) : Exit → Tau → Heap → Prop := (xthen (zqk_5_M nx32 Q E) (zqk_q4 nx32 Q E))

@[reducible] noncomputable def zqk_p11 : Code := sA zqk_p6

def zqk_9 (nx32 : Option Addr → Nat → Nat → HP) (Q : QT) (E : ET) (x0 : OA) (x3 : OA) (l3 : Nat) (c3 : Nat) (H : Heap) : Prop :=
 Does Pr 90 #[(.pointer x0)] H (fun v78 H79 =>
 ∃ b80 : Bool, v78 = (.bool b80) ∧ sel b80
 (zqk_5 nx32 Q E x0 x3 l3 c3 H79)
 (zqk_1 Q E x3 l3 c3 H79)) E

def zqk_9_M (nx32 : Option Addr → Nat → Nat → HP) (Q : QT) (E : ET) (τ : Tau) (H : Heap) : Prop := mP (τ 0) fun x0 => mSl (τ 3) fun x3 l3 c3 => zqk_9 nx32 Q E x0 x3 l3 c3 H

theorem zqk_10ok (nx32 : Option Addr → Nat → Nat → HP) (Q : QT) (E : ET) (τ : Tau) (H : Heap) (h : zqk_9_M nx32 Q E τ H) : vc Pr zqk_p11 τ (zqk_q7 nx32 Q E) E H :=
  vP (i := 0) h (fun x0 h => vSl (i := 3) h (fun x3 l3 c3 h => (conv (by kernel_rfl) h)))

theorem zqk_11ok (nx32 : Option Addr → Nat → Nat → HP) (Q : QT) (E : ET) (τ : Tau) (H : Heap) (h : zqk_9_M nx32 Q E τ H) : vc Pr zqk_p6 τ (zqk_q4 nx32 Q E) E H :=
  (conv (B := vc Pr zqk_p6 τ (zqk_q4 nx32 Q E) E H) (by kernel_rfl) (vc_seq (K := (zqk_5_M nx32 Q E)) (zqk_10ok nx32 Q E τ H h) (zqk_8ok nx32 Q E)))

def zqk_12 (Q : QT) (E : ET) (x0 : OA) (x3 : OA) (l3 : Nat) (c3 : Nat) (H : Heap) : Prop :=
 ∃ (I : Option Addr → Nat → Nat → HP) (μ : Option Addr → Nat → Nat → Heap → Nat), I x3 l3 c3 H ∧ ∀ (x3 : OA) (l3 : Nat) (c3 : Nat) (H : Heap), I x3 l3 c3 H →
 zqk_9 (fun x3' l3' c3' H1 => I x3' l3' c3' H1 ∧ μ x3' l3' c3' H1 < μ x3 l3 c3 H) Q E x0 x3 l3 c3 H

def zqk_12_M (Q : QT) (E : ET) (τ : Tau) (H : Heap) : Prop := mP (τ 0) fun x0 => mSl (τ 3) fun x3 l3 c3 => zqk_12 Q E x0 x3 l3 c3 H

theorem zqk_13ok (Q : QT) (E : ET) (τ : Tau) (H : Heap) (h : zqk_12_M Q E τ H) : vc Pr zqk_p5 τ (zqk_q3 Q E) E H :=
  vP (i := 0) h (fun x0 h => vSl (i := 3) h (fun x3 l3 c3 h => match h with | ⟨I, μ, h0, hr⟩ => (conv (B := vc Pr zqk_p5 (Tau.upd (Tau.upd τ 0 (.pointer x0)) 3 (.slice x3 l3 c3)) (zqk_q3 Q E) E H) (by kernel_rfl) (vc_loop (c := sI zqk_p5) (τ := (Tau.upd (Tau.upd τ 0 (.pointer x0)) 3 (.slice x3 l3 c3))) [0] (fun τ H => mSl (τ 3) fun x3' l3' c3' => I x3' l3' c3' H) (fun τ H => μ (gL1 (τ 3)) (gL2 (τ 3)) (gL3 (τ 3)) H) (by kernel_rfl) h0 (fun τ1 H1 hf hI => fix_elim (τ := τ1) (i := 0) (v := (.pointer x0)) (G := fun τ => vc Pr (sI zqk_p5) τ (xthen (fun τ2 H2 => (mSl (τ2 3) fun x3' l3' c3' => I x3' l3' c3' H2) ∧ μ (gL1 (τ2 3)) (gL2 (τ2 3)) (gL3 (τ2 3)) H2 < μ (gL1 (τ 3)) (gL2 (τ 3)) (gL3 (τ 3)) H1) (zqk_q3 Q E)) E H1) (hf 0 (by simp)) (mSl_elim (i := 3) (G := fun τ => vc Pr (sI zqk_p5) τ (xthen (fun τ2 H2 => (mSl (τ2 3) fun x3' l3' c3' => I x3' l3' c3' H2) ∧ μ (gL1 (τ2 3)) (gL2 (τ2 3)) (gL3 (τ2 3)) H2 < μ (gL1 (τ 3)) (gL2 (τ 3)) (gL3 (τ 3)) H1) (zqk_q3 Q E)) E H1) hI (fun x3r l3r c3r h => (conv (B := vc Pr (sI zqk_p5) (Tau.upd (Tau.upd τ1 0 (.pointer x0)) 3 (.slice x3r l3r c3r)) (xthen (fun τ2 H2 => (mSl (τ2 3) fun x3' l3' c3' => I x3' l3' c3' H2) ∧ μ (gL1 (τ2 3)) (gL2 (τ2 3)) (gL3 (τ2 3)) H2 < μ (gL1 ((Tau.upd (Tau.upd τ1 0 (.pointer x0)) 3 (.slice x3r l3r c3r)) 3)) (gL2 ((Tau.upd (Tau.upd τ1 0 (.pointer x0)) 3 (.slice x3r l3r c3r)) 3)) (gL3 ((Tau.upd (Tau.upd τ1 0 (.pointer x0)) 3 (.slice x3r l3r c3r)) 3)) H1) (zqk_q3 Q E)) E H1) (by kernel_rfl) (vc_xthen (zqk_11ok (fun x3' l3' c3' H2 => I x3' l3' c3' H2 ∧ μ x3' l3' c3' H2 < μ x3r l3r c3r H1) Q E (Tau.upd (Tau.upd τ1 0 (.pointer x0)) 3 (.slice x3r l3r c3r)) H1 (conv (B := zqk_9_M (fun x3' l3' c3' H2 => I x3' l3' c3' H2 ∧ μ x3' l3' c3' H2 < μ x3r l3r c3r H1) Q E (Tau.upd (Tau.upd τ1 0 (.pointer x0)) 3 (.slice x3r l3r c3r)) H1) (by kernel_rfl) (hr x3r l3r c3r H1 h))) (fun τ2 H2 hk => mSl_elim (i := 3) (G := fun τ => (mSl (τ 3) fun x3' l3' c3' => I x3' l3' c3' H2) ∧ μ (gL1 (τ 3)) (gL2 (τ 3)) (gL3 (τ 3)) H2 < μ x3r l3r c3r H1) hk (fun x3' l3' c3' h => h)))))))))))

theorem zqk_14ok (Q : QT) (E : ET) (τ : Tau) (H : Heap) (h : zqk_12_M Q E τ H) : vc Pr zqk_p4 τ (zqk_q2 Q E) E H :=
  (conv (B := vc Pr zqk_p4 τ (zqk_q2 Q E) E H) (by kernel_rfl) (zqk_13ok Q E τ H h))

theorem zqk_15ok (Q : QT) (E : ET) (τ : Tau) (H : Heap) (h : zqk_12_M Q E τ H) : vc Pr zqk_p2 τ (zqk_q1 Q E) E H :=
  (conv (B := vc Pr zqk_p2 τ (zqk_q1 Q E) E H) (by kernel_rfl) (vc_seq (K := (zqk_1_M Q E)) (zqk_14ok Q E τ H h) (zqk_2ok Q E)))

@[reducible] noncomputable def zqk_q8 (Q : QT) (E : ET) : Exit → Tau → Heap → Prop := (xthen (zqk_12_M Q E) (zqk_q1 Q E))

@[reducible] noncomputable def zqk_p12 : Code := sA zqk_p1

def zqk_16 (Q : QT) (E : ET) (x0 : OA) (H : Heap) : Prop :=
 Does Pr 105 #[(.pointer x0)] H (fun v81 H82 =>
 ∃ (p83 : OA) (l84 c85 : Nat), v81 = (.slice p83 l84 c85) ∧ zqk_12 Q E x0 p83 l84 c85 H82) E

def zqk_16_M (Q : QT) (E : ET) (τ : Tau) (H : Heap) : Prop := mP (τ 0) fun x0 => zqk_16 Q E x0 H

theorem zqk_17ok (Q : QT) (E : ET) (τ : Tau) (H : Heap) (h : zqk_16_M Q E τ H) : vc Pr zqk_p12 τ (zqk_q8 Q E) E H :=
  vP (i := 0) h (fun x0 h => (conv (by kernel_rfl) h))

theorem zqk_18ok (Q : QT) (E : ET) (τ : Tau) (H : Heap) (h : zqk_16_M Q E τ H) : vc Pr zqk_p1 τ (zqk_q1 Q E) E H :=
  (conv (B := vc Pr zqk_p1 τ (zqk_q1 Q E) E H) (by kernel_rfl) (vc_seq (K := (zqk_12_M Q E)) (zqk_17ok Q E τ H h) (zqk_15ok Q E)))

@[reducible] noncomputable def zqk_q9 (Q : QT) (E : ET) : Exit → Tau → Heap → Prop := (xthen (zqk_16_M Q E) (zqk_q1 Q E))

@[reducible] noncomputable def zqk_p13 : Code := sA zqk_p0

def zqk (Q : QT) (E : ET) (a0 : OA) (H : Heap) : Prop :=
 zqk_16 Q E a0 H

theorem zqk_fn (a0 : OA) (Q : QT) (E : ET) (H : Heap) (h : zqk Q E a0 H)   : Does Pr 100 #[(.pointer a0)] H Q E :=
  Fn_of_vc (fn := Try.f100) (c := zqk_p0) (args := [(.pointer a0)]) mixed (by kernel_rfl) (by kernel_rfl) (by kernel_rfl) (by kernel_rfl) (by kernel_rfl) ((conv (B := vc Pr zqk_p0 (argT [(.pointer a0)]) (zqk_q1 Q E) E H) (by kernel_rfl) (vc_seq (K := (zqk_16_M Q E)) (conv (B := vc Pr zqk_p13 (argT [(.pointer a0)]) (zqk_q9 Q E) E H) (by kernel_rfl) h) (zqk_18ok Q E))))

/-! jobmux/jobmuxref08.leaf -/
@[reducible] noncomputable def zql_q1 (Q : QT) (E : ET) : Exit → Tau → Heap → Prop := (retQ Pr (Try.f101).results.toList Q)

@[reducible] noncomputable def zql_p0 : Code := bodyOf Try.f101

def zql (Q : QT) (E : ET) (a0 : Int) (a1_0 : Int) (a1_1 : Int) (a1_2 : Int) (a1_3 : Int) (H : Heap) : Prop :=
 nw (.cells #[(.int .u64 a1_0), (.int .u64 a1_1), (.int .u64 a1_2), (.int .u64 a1_3)] 46 (0, 0)) H fun i1 H2 =>
 ∃ n3 n4 n5 n6 : Int, Heap.rd H2 ⟨i1, 0, none⟩ 0 [(.int .u64 n3), (.int .u64 n4), (.int .u64 n5), (.int .u64 n6)] ∧ nw (.cells #[(.int .i64 a0), (.int .i64 0), (.int .i64 0), (.int .u64 n3), (.int .u64 n4), (.int .u64 n5), (.int .u64 n6)] 48 (0, 0)) H2 fun i7 H8 =>
 Q (.slice (some ⟨i7, 0, none⟩) 1 1) H8

theorem zql_fn (a0 : Int) (a1_0 : Int) (a1_1 : Int) (a1_2 : Int) (a1_3 : Int) (Q : QT) (E : ET) (H : Heap) (h : zql Q E a0 a1_0 a1_1 a1_2 a1_3 H)   : Does Pr 101 #[(.int .i64 a0), (.agg #[(.int .u64 a1_0), (.int .u64 a1_1), (.int .u64 a1_2), (.int .u64 a1_3)])] H Q E :=
  Fn_of_vc (fn := Try.f101) (c := zql_p0) (args := [(.int .i64 a0), (.agg #[(.int .u64 a1_0), (.int .u64 a1_1), (.int .u64 a1_2), (.int .u64 a1_3)])]) mixed (by kernel_rfl) (by kernel_rfl) (by kernel_rfl) (by kernel_rfl) (by kernel_rfl) ((conv (B := vc Pr zql_p0 (argT [(.int .i64 a0), (.agg #[(.int .u64 a1_0), (.int .u64 a1_1), (.int .u64 a1_2), (.int .u64 a1_3)])]) (zql_q1 Q E) E H) (by kernel_rfl) h))

/-! jobmux/jobmuxref08.shifted -/
@[reducible] noncomputable def zqm_q1 (Q : QT) (E : ET) : Exit → Tau → Heap → Prop := (retQ Pr (Try.f102).results.toList Q)

@[reducible] noncomputable def zqm_p0 : Code := bodyOf Try.f102

@[reducible] noncomputable def zqm_p1 : Code := sB zqm_p0

@[reducible] noncomputable def zqm_p2 : Code := sB zqm_p1

def zqm_1 (Q : QT) (E : ET)  (H : Heap) : Prop :=
 Q (.int .i64 0) H

def zqm_1_M (Q : QT) (E : ET) (τ : Tau) (H : Heap) : Prop := zqm_1 Q E  H

theorem zqm_2ok (Q : QT) (E : ET) (τ : Tau) (H : Heap) (h : zqm_1_M Q E τ H) : vc Pr zqm_p2 τ (zqm_q1 Q E) E H :=
  (conv (B := vc Pr zqm_p2 τ (zqm_q1 Q E) E H) (by kernel_rfl) h)

@[reducible] noncomputable def zqm_q2 (Q : QT) (E : ET) : Exit → Tau → Heap → Prop := (xthen (zqm_1_M Q E) (zqm_q1 Q E))

@[reducible] noncomputable def zqm_p3 : Code := sA zqm_p1

def zqm_3 (Q : QT) (E : ET) (x0 : Int) (x1 : Int) (x2 : Int) (x3 : Int) (H : Heap) : Prop :=
 Does Pr 42 #[(.int .i64 x0)] H (fun v4 H5 =>
 ∃ n6 : Int, v4 = (.int .i64 n6) ∧ sel (decide ((x1 : Int) < n6))
 (Q (.int .i64 (IntKind.wrap .i64 (x2 + x3))) H5)
 (zqm_1 Q E  H5)) E

def zqm_3_M (Q : QT) (E : ET) (τ : Tau) (H : Heap) : Prop := mI .i64 (τ 0) fun x0 => mI .i64 (τ 1) fun x1 => mI .i64 (τ 2) fun x2 => mI .i64 (τ 3) fun x3 => zqm_3 Q E x0 x1 x2 x3 H

theorem zqm_4ok (Q : QT) (E : ET) (τ : Tau) (H : Heap) (h : zqm_3_M Q E τ H) : vc Pr zqm_p3 τ (zqm_q2 Q E) E H :=
  vI (i := 0) h (fun x0 h => vI (i := 1) h (fun x1 h => vI (i := 2) h (fun x2 h => vI (i := 3) h (fun x3 h => (conv (by kernel_rfl) h)))))

theorem zqm_5ok (Q : QT) (E : ET) (τ : Tau) (H : Heap) (h : zqm_3_M Q E τ H) : vc Pr zqm_p1 τ (zqm_q1 Q E) E H :=
  (conv (B := vc Pr zqm_p1 τ (zqm_q1 Q E) E H) (by kernel_rfl) (vc_seq (K := (zqm_1_M Q E)) (zqm_4ok Q E τ H h) (zqm_2ok Q E)))

@[reducible] noncomputable def zqm_q3 (Q : QT) (E : ET) : Exit → Tau → Heap → Prop := (xthen (zqm_3_M Q E) (zqm_q1 Q E))

@[reducible] noncomputable def zqm_p4 : Code := sA zqm_p0

def zqm (Q : QT) (E : ET) (a0 : Int) (a1 : Int) (a2 : Int) (a3 : Int) (H : Heap) : Prop :=
 zqm_3 Q E a0 a1 a2 a3 H

theorem zqm_fn (a0 : Int) (a1 : Int) (a2 : Int) (a3 : Int) (Q : QT) (E : ET) (H : Heap) (h : zqm Q E a0 a1 a2 a3 H)   : Does Pr 102 #[(.int .i64 a0), (.int .i64 a1), (.int .i64 a2), (.int .i64 a3)] H Q E :=
  Fn_of_vc (fn := Try.f102) (c := zqm_p0) (args := [(.int .i64 a0), (.int .i64 a1), (.int .i64 a2), (.int .i64 a3)]) mixed (by kernel_rfl) (by kernel_rfl) (by kernel_rfl) (by kernel_rfl) (by kernel_rfl) ((conv (B := vc Pr zqm_p0 (argT [(.int .i64 a0), (.int .i64 a1), (.int .i64 a2), (.int .i64 a3)]) (zqm_q1 Q E) E H) (by kernel_rfl) (vc_seq (K := (zqm_3_M Q E)) (conv (B := vc Pr zqm_p4 (argT [(.int .i64 a0), (.int .i64 a1), (.int .i64 a2), (.int .i64 a3)]) (zqm_q3 Q E) E H) (by kernel_rfl) h) (zqm_5ok Q E))))

/-! (*jobmux/jobmuxref08.parser).atom -/
@[reducible] noncomputable def zqn_q1 (Q : QT) (E : ET) : Exit → Tau → Heap → Prop := (retQ Pr (Try.f105).results.toList Q)

@[reducible] noncomputable def zqn_p0 : Code := bodyOf Try.f105

@[reducible] noncomputable def zqn_p1 : Code := sB zqn_p0

@[reducible] noncomputable def zqn_p2 : Code := sB zqn_p1

@[reducible] noncomputable def zqn_p3 : Code := sB zqn_p2

@[reducible] noncomputable def zqn_p4 : Code := sB zqn_p3

def zqn_1 (Q : QT) (E : ET) (x3 : Int) (H : Heap) : Prop :=
 Does Pr 108 #[(.agg #[(.int .u64 0), (.int .u64 0), (.int .u64 0), (.int .u64 0)]), (.int .u8 x3)] H (fun v99 H100 =>
 ∃ n101 n102 n103 n104 : Int, v99 = (.agg #[(.int .u64 n101), (.int .u64 n102), (.int .u64 n103), (.int .u64 n104)]) ∧ Does Pr 101 #[(.int .i64 2), (.agg #[(.int .u64 n101), (.int .u64 n102), (.int .u64 n103), (.int .u64 n104)])] H100 (fun v105 H106 =>
 ∃ (p107 : OA) (l108 c109 : Nat), v105 = (.slice p107 l108 c109) ∧ Q (.slice p107 l108 c109) H106) E) E

def zqn_1_M (Q : QT) (E : ET) (τ : Tau) (H : Heap) : Prop := mI .u8 (τ 3) fun x3 => zqn_1 Q E x3 H

theorem zqn_2ok (Q : QT) (E : ET) (τ : Tau) (H : Heap) (h : zqn_1_M Q E τ H) : vc Pr zqn_p4 τ (zqn_q1 Q E) E H :=
  vI (i := 3) h (fun x3 h => (conv (by kernel_rfl) h))

@[reducible] noncomputable def zqn_q2 (Q : QT) (E : ET) : Exit → Tau → Heap → Prop := (xthen (zqn_1_M Q E) (zqn_q1 Q E))

@[reducible] noncomputable def zqn_p5 : Code := sA zqn_p3

@[reducible] noncomputable def zqn_p6 : Code := sB zqn_p5

@[reducible] noncomputable def zqn_q3 (Q : QT) (E : ET) : Exit → Tau → Heap → Prop := (xblock 0 (zqn_q2 Q E))

@[reducible] noncomputable def zqn_p7 : Code := sI zqn_p6

@[reducible] noncomputable def zqn_p8 : Code := sB zqn_p7

@[reducible] noncomputable def zqn_p9 : Code := sT zqn_p8

def zqn_3 (Q : QT) (E : ET)  (H : Heap) : Prop :=
 Does Pr 108 #[(.agg #[(.int .u64 0), (.int .u64 0), (.int .u64 0), (.int .u64 0)]), (.int .u8 10)] H (fun v110 H111 =>
 ∃ n112 n113 n114 n115 : Int, v110 = (.agg #[(.int .u64 n112), (.int .u64 n113), (.int .u64 n114), (.int .u64 n115)]) ∧ Does Pr 107 #[(.agg #[(.int .u64 n112), (.int .u64 n113), (.int .u64 n114), (.int .u64 n115)])] H111 (fun v116 H117 =>
 ∃ n118 n119 n120 n121 : Int, v116 = (.agg #[(.int .u64 n118), (.int .u64 n119), (.int .u64 n120), (.int .u64 n121)]) ∧ Does Pr 101 #[(.int .i64 2), (.agg #[(.int .u64 n118), (.int .u64 n119), (.int .u64 n120), (.int .u64 n121)])] H117 (fun v122 H123 =>
 ∃ (p124 : OA) (l125 c126 : Nat), v122 = (.slice p124 l125 c126) ∧ Q (.slice p124 l125 c126) H123) E) E) E

def zqn_3_M (Q : QT) (E : ET) (τ : Tau) (H : Heap) : Prop := zqn_3 Q E  H

theorem zqn_4ok (Q : QT) (E : ET) (τ : Tau) (H : Heap) (h : zqn_3_M Q E τ H) : vc Pr zqn_p9 τ (zqn_q3 Q E) E H :=
  (conv (B := vc Pr zqn_p9 τ (zqn_q3 Q E) E H) (by kernel_rfl) h)

@[reducible] noncomputable def zqn_p10 : Code := sE zqn_p8

@[reducible] noncomputable def zqn_p11 : Code := sB zqn_p10

@[reducible] noncomputable def zqn_p12 : Code := sT zqn_p11

def zqn_5 (Q : QT) (E : ET)  (H : Heap) : Prop :=
 Does Pr 101 #[(.int .i64 8), (.agg #[(.int .u64 0), (.int .u64 0), (.int .u64 0), (.int .u64 0)])] H (fun v127 H128 =>
 ∃ (p129 : OA) (l130 c131 : Nat), v127 = (.slice p129 l130 c131) ∧ Q (.slice p129 l130 c131) H128) E

def zqn_5_M (Q : QT) (E : ET) (τ : Tau) (H : Heap) : Prop := zqn_5 Q E  H

theorem zqn_6ok (Q : QT) (E : ET) (τ : Tau) (H : Heap) (h : zqn_5_M Q E τ H) : vc Pr zqn_p12 τ (zqn_q3 Q E) E H :=
  (conv (B := vc Pr zqn_p12 τ (zqn_q3 Q E) E H) (by kernel_rfl) h)

@[reducible] noncomputable def zqn_p13 : Code := sE zqn_p11

@[reducible] noncomputable def zqn_p14 : Code := sB zqn_p13

@[reducible] noncomputable def zqn_p15 : Code := sT zqn_p14

def zqn_7 (Q : QT) (E : ET)  (H : Heap) : Prop :=
 Does Pr 101 #[(.int .i64 9), (.agg #[(.int .u64 0), (.int .u64 0), (.int .u64 0), (.int .u64 0)])] H (fun v132 H133 =>
 ∃ (p134 : OA) (l135 c136 : Nat), v132 = (.slice p134 l135 c136) ∧ Q (.slice p134 l135 c136) H133) E

def zqn_7_M (Q : QT) (E : ET) (τ : Tau) (H : Heap) : Prop := zqn_7 Q E  H

theorem zqn_8ok (Q : QT) (E : ET) (τ : Tau) (H : Heap) (h : zqn_7_M Q E τ H) : vc Pr zqn_p15 τ (zqn_q3 Q E) E H :=
  (conv (B := vc Pr zqn_p15 τ (zqn_q3 Q E) E H) (by kernel_rfl) h)

@[reducible] noncomputable def zqn_p16 : Code := sE zqn_p14

@[reducible] noncomputable def zqn_p17 : Code := sB zqn_p16

@[reducible] noncomputable def zqn_p18 : Code := sT zqn_p17

def zqn_9 (Q : QT) (E : ET) (x0 : OA) (H : Heap) : Prop :=
 Does Pr 109 #[(.pointer x0)] H (fun v137 H138 =>
 ∃ n139 n140 n141 n142 : Int, ∃ b143 : Bool, v137 = (.tuple #[(.agg #[(.int .u64 n139), (.int .u64 n140), (.int .u64 n141), (.int .u64 n142)]), (.bool b143)]) ∧ nw (.cells #[(.int .u64 0), (.int .u64 0), (.int .u64 0), (.int .u64 0)] 46 (0, 0)) H138 fun i144 H145 =>
 wr ⟨i144, 0, none⟩ [(.int .u64 n139), (.int .u64 n140), (.int .u64 n141), (.int .u64 n142)] H145 fun H146 =>
 ∃ n147 n148 n149 n150 : Int, Heap.rd H146 ⟨i144, 0, none⟩ 0 [(.int .u64 n147), (.int .u64 n148), (.int .u64 n149), (.int .u64 n150)] ∧ Does Pr 101 #[(.int .i64 2), (.agg #[(.int .u64 n147), (.int .u64 n148), (.int .u64 n149), (.int .u64 n150)])] H146 (fun v151 H152 =>
 ∃ (p153 : OA) (l154 c155 : Nat), v151 = (.slice p153 l154 c155) ∧ Q (.slice p153 l154 c155) H152) E) E

def zqn_9_M (Q : QT) (E : ET) (τ : Tau) (H : Heap) : Prop := mP (τ 0) fun x0 => zqn_9 Q E x0 H

theorem zqn_10ok (Q : QT) (E : ET) (τ : Tau) (H : Heap) (h : zqn_9_M Q E τ H) : vc Pr zqn_p18 τ (zqn_q3 Q E) E H :=
  vP (i := 0) h (fun x0 h => (conv (by kernel_rfl) h))

@[reducible] noncomputable def zqn_p19 : Code := sE zqn_p17

@[reducible] noncomputable def zqn_p20 : Code := sB zqn_p19

@[reducible] noncomputable def zqn_p21 : Code := sT zqn_p20

def zqn_11 (Q : QT) (E : ET) (x0 : OA) (H : Heap) : Prop :=
 Does Pr 110 #[(.pointer x0)] H (fun v156 H157 =>
 ∃ n158 n159 n160 n161 : Int, v156 = (.agg #[(.int .u64 n158), (.int .u64 n159), (.int .u64 n160), (.int .u64 n161)]) ∧ Does Pr 101 #[(.int .i64 2), (.agg #[(.int .u64 n158), (.int .u64 n159), (.int .u64 n160), (.int .u64 n161)])] H157 (fun v162 H163 =>
 ∃ (p164 : OA) (l165 c166 : Nat), v162 = (.slice p164 l165 c166) ∧ Q (.slice p164 l165 c166) H163) E) E

def zqn_11_M (Q : QT) (E : ET) (τ : Tau) (H : Heap) : Prop := mP (τ 0) fun x0 => zqn_11 Q E x0 H

theorem zqn_12ok (Q : QT) (E : ET) (τ : Tau) (H : Heap) (h : zqn_11_M Q E τ H) : vc Pr zqn_p21 τ (zqn_q3 Q E) E H :=
  vP (i := 0) h (fun x0 h => (conv (by kernel_rfl) h))

@[reducible] noncomputable def zqn_p22 : Code := sE zqn_p20

@[reducible] noncomputable def zqn_p23 : Code := sB zqn_p22

@[reducible] noncomputable def zqn_p24 : Code := sT zqn_p23

def zqn_13 (Q : QT) (E : ET) (x0 : OA) (x3 : Int) (H : Heap) : Prop :=
 Does Pr 57 #[(.pointer x0), (.int .i64 80)] H (fun v167 H168 =>
 zqn_1 Q E x3 H168) E

def zqn_13_M (Q : QT) (E : ET) (τ : Tau) (H : Heap) : Prop := mP (τ 0) fun x0 => mI .u8 (τ 3) fun x3 => zqn_13 Q E x0 x3 H

theorem zqn_14ok (Q : QT) (E : ET) (τ : Tau) (H : Heap) (h : zqn_13_M Q E τ H) : vc Pr zqn_p24 τ (zqn_q3 Q E) E H :=
  vP (i := 0) h (fun x0 h => vI (i := 3) h (fun x3 h => (conv (by kernel_rfl) h)))

@[reducible] noncomputable def zqn_p25 : Code := sE zqn_p23

@[reducible] noncomputable def zqn_p26 : Code := sB zqn_p25

@[reducible] noncomputable def zqn_p27 : Code := sT zqn_p26

def zqn_15 (Q : QT) (E : ET) (x0 : OA) (x3 : Int) (H : Heap) : Prop :=
 Does Pr 57 #[(.pointer x0), (.int .i64 81)] H (fun v169 H170 =>
 zqn_1 Q E x3 H170) E

def zqn_15_M (Q : QT) (E : ET) (τ : Tau) (H : Heap) : Prop := mP (τ 0) fun x0 => mI .u8 (τ 3) fun x3 => zqn_15 Q E x0 x3 H

theorem zqn_16ok (Q : QT) (E : ET) (τ : Tau) (H : Heap) (h : zqn_15_M Q E τ H) : vc Pr zqn_p27 τ (zqn_q3 Q E) E H :=
  vP (i := 0) h (fun x0 h => vI (i := 3) h (fun x3 h => (conv (by kernel_rfl) h)))

@[reducible] noncomputable def zqn_p28 : Code := sE zqn_p26

@[reducible] noncomputable def zqn_p29 : Code := sB zqn_p28

@[reducible] noncomputable def zqn_p30 : Code := sT zqn_p29

@[reducible] noncomputable def zqn_p31 : Code := sB zqn_p30

@[reducible] noncomputable def zqn_p32 : Code := sB zqn_p31

@[reducible] noncomputable def zqn_p33 : Code := sB zqn_p32

def zqn_17 (Q : QT) (E : ET) (x0 : OA) (x6 : OA) (l6 : Nat) (c6 : Nat) (H : Heap) : Prop :=
 ptr x0 fun q192 =>
 ldI .i64 (Addr.add q192 1) H fun n193 =>
 ptr x0 fun q194 =>
 wr (Addr.add q194 1) [(.int .i64 (IntKind.wrap .i64 (n193 + 1)))] H fun H195 =>
 ptr x0 fun q196 =>
 ldI .i64 (Addr.add q196 2) H195 fun n197 =>
 ptr x0 fun q198 =>
 wr (Addr.add q198 2) [(.int .i64 (IntKind.wrap .i64 (n197 - 1)))] H195 fun H199 =>
 Q (.slice x6 l6 c6) H199

def zqn_17_M (Q : QT) (E : ET) (τ : Tau) (H : Heap) : Prop := mP (τ 0) fun x0 => mSl (τ 6) fun x6 l6 c6 => zqn_17 Q E x0 x6 l6 c6 H

theorem zqn_18ok (Q : QT) (E : ET) (τ : Tau) (H : Heap) (h : zqn_17_M Q E τ H) : vc Pr zqn_p33 τ (zqn_q3 Q E) E H :=
  vP (i := 0) h (fun x0 h => vSl (i := 6) h (fun x6 l6 c6 h => (conv (by kernel_rfl) h)))

@[reducible] noncomputable def zqn_q4 (Q : QT) (E : ET) : Exit → Tau → Heap → Prop := (xthen (zqn_17_M Q E) (zqn_q3 Q E))

@[reducible] noncomputable def zqn_p34 : Code := sA zqn_p32

@[reducible] noncomputable def zqn_p35 : Code := sB zqn_p34

def zqn_19 (Q : QT) (E : ET) (x0 : OA) (x6 : OA) (l6 : Nat) (c6 : Nat) (x96 : Bool) (H : Heap) : Prop :=
 sel x96
 (Does Pr 57 #[(.pointer x0), (.int .i64 83)] H (fun v206 H207 =>
 zqn_17 Q E x0 x6 l6 c6 H207) E)
 (zqn_17 Q E x0 x6 l6 c6 H)

def zqn_19_M (Q : QT) (E : ET) (τ : Tau) (H : Heap) : Prop := mP (τ 0) fun x0 => mSl (τ 6) fun x6 l6 c6 => mB (τ 96) fun x96 => zqn_19 Q E x0 x6 l6 c6 x96 H

theorem zqn_20ok (Q : QT) (E : ET) (τ : Tau) (H : Heap) (h : zqn_19_M Q E τ H) : vc Pr zqn_p35 τ (zqn_q4 Q E) E H :=
  vP (i := 0) h (fun x0 h => vSl (i := 6) h (fun x6 l6 c6 h => vB (i := 96) h (fun x96 h => (conv (by kernel_rfl) h))))

@[reducible] noncomputable def zqn_q5 (Q : QT) (E : ET) : Exit → Tau → Heap → Prop := (xthen (zqn_19_M Q E) (zqn_q4 Q E))

@[reducible] noncomputable def zqn_p36 : Code := sA zqn_p34

def zqn_21 (Q : QT) (E : ET) (x0 : OA) (x6 : OA) (l6 : Nat) (c6 : Nat) (H : Heap) : Prop :=
 ptr x0 fun q208 =>
 ldI .i64 (Addr.add q208 3) H fun n209 =>
 sel ((n209 : Int) == 0)
 (ptr x0 fun q210 =>
 ldI .i64 (Addr.add q210 1) H fun n211 =>
 ptr x0 fun q212 =>
 ldS q212 H fun s213 =>
 zqn_19 Q E x0 x6 l6 c6 (decide ((n211 : Int) ≥ ((ByteArray.size s213 : Nat) : Int))) H)
 (zqn_19 Q E x0 x6 l6 c6 false H)

def zqn_21_M (Q : QT) (E : ET) (τ : Tau) (H : Heap) : Prop := mP (τ 0) fun x0 => mSl (τ 6) fun x6 l6 c6 => zqn_21 Q E x0 x6 l6 c6 H

theorem zqn_22ok (Q : QT) (E : ET) (τ : Tau) (H : Heap) (h : zqn_21_M Q E τ H) : vc Pr zqn_p36 τ (zqn_q5 Q E) E H :=
  vP (i := 0) h (fun x0 h => vSl (i := 6) h (fun x6 l6 c6 h => (conv (by kernel_rfl) h)))

theorem zqn_23ok (Q : QT) (E : ET) (τ : Tau) (H : Heap) (h : zqn_21_M Q E τ H) : vc Pr zqn_p34 τ (zqn_q4 Q E) E H :=
  (conv (B := vc Pr zqn_p34 τ (zqn_q4 Q E) E H) (by kernel_rfl) (vc_seq (K := (zqn_19_M Q E)) (zqn_22ok Q E τ H h) (zqn_20ok Q E)))

theorem zqn_24ok (Q : QT) (E : ET) (τ : Tau) (H : Heap) (h : zqn_21_M Q E τ H) : vc Pr zqn_p32 τ (zqn_q3 Q E) E H :=
  (conv (B := vc Pr zqn_p32 τ (zqn_q3 Q E) E H) (by kernel_rfl) (vc_seq (K := (zqn_17_M Q E)) (zqn_23ok Q E τ H h) (zqn_18ok Q E)))

@[reducible] noncomputable def zqn_q6 (Q : QT) (E : ET) : Exit → Tau → Heap → Prop := (xthen (zqn_21_M Q E) (zqn_q3 Q E))

@[reducible] noncomputable def zqn_p37 : Code := sA zqn_p31

def zqn_25 (Q : QT) (E : ET) (x0 : OA) (H : Heap) : Prop :=
 Does Pr 56 #[(.pointer x0)] H (fun v214 H215 =>
 ∃ (p216 : OA) (l217 c218 : Nat), v214 = (.slice p216 l217 c218) ∧ zqn_21 Q E x0 p216 l217 c218 H215) E

def zqn_25_M (Q : QT) (E : ET) (τ : Tau) (H : Heap) : Prop := mP (τ 0) fun x0 => zqn_25 Q E x0 H

theorem zqn_26ok (Q : QT) (E : ET) (τ : Tau) (H : Heap) (h : zqn_25_M Q E τ H) : vc Pr zqn_p37 τ (zqn_q6 Q E) E H :=
  vP (i := 0) h (fun x0 h => (conv (by kernel_rfl) h))

theorem zqn_27ok (Q : QT) (E : ET) (τ : Tau) (H : Heap) (h : zqn_25_M Q E τ H) : vc Pr zqn_p31 τ (zqn_q3 Q E) E H :=
  (conv (B := vc Pr zqn_p31 τ (zqn_q3 Q E) E H) (by kernel_rfl) (vc_seq (K := (zqn_21_M Q E)) (zqn_26ok Q E τ H h) (zqn_24ok Q E)))

@[reducible] noncomputable def zqn_q7 (Q : QT) (E : ET) : Exit → Tau → Heap → Prop := (xthen (zqn_25_M Q E) (zqn_q3 Q E))

@[reducible] noncomputable def zqn_p38 : Code := sA zqn_p30

def zqn_28 (Q : QT) (E : ET) (x0 : OA) (H : Heap) : Prop :=
 ptr x0 fun q219 =>
 ldI .i64 (Addr.add q219 2) H fun n220 =>
 ptr x0 fun q221 =>
 wr (Addr.add q221 2) [(.int .i64 (IntKind.wrap .i64 (n220 + 1)))] H fun H222 =>
 ptr x0 fun q223 =>
 ldI .i64 (Addr.add q223 2) H222 fun n224 =>
 sel (decide ((n224 : Int) > 24))
 (Does Pr 57 #[(.pointer x0), (.int .i64 84)] H222 (fun v225 H226 =>
 Q (.slice none 0 0) H226) E)
 (zqn_25 Q E x0 H222)

def zqn_28_M (Q : QT) (E : ET) (τ : Tau) (H : Heap) : Prop := mP (τ 0) fun x0 => zqn_28 Q E x0 H

theorem zqn_29ok (Q : QT) (E : ET) (τ : Tau) (H : Heap) (h : zqn_28_M Q E τ H) : vc Pr zqn_p38 τ (zqn_q7 Q E) E H :=
  vP (i := 0) h (fun x0 h => (conv (by kernel_rfl) h))

theorem zqn_30ok (Q : QT) (E : ET) (τ : Tau) (H : Heap) (h : zqn_28_M Q E τ H) : vc Pr zqn_p30 τ (zqn_q3 Q E) E H :=
  (conv (B := vc Pr zqn_p30 τ (zqn_q3 Q E) E H) (by kernel_rfl) (vc_seq (K := (zqn_25_M Q E)) (zqn_29ok Q E τ H h) (zqn_27ok Q E)))

@[reducible] noncomputable def zqn_p39 : Code := sE zqn_p29

def zqn_31 (Q : QT) (E : ET) (x3 : Int) (H : Heap) : Prop :=
 zqn_1 Q E x3 H

def zqn_31_M (Q : QT) (E : ET) (τ : Tau) (H : Heap) : Prop := mI .u8 (τ 3) fun x3 => zqn_31 Q E x3 H

theorem zqn_32ok (Q : QT) (E : ET) (τ : Tau) (H : Heap) (h : zqn_31_M Q E τ H) : vc Pr zqn_p39 τ (zqn_q3 Q E) E H :=
  vI (i := 3) h (fun x3 h => (conv (by kernel_rfl) h))

def zqn_33 (Q : QT) (E : ET) (x0 : OA) (x3 : Int) (x62 : Bool) (H : Heap) : Prop :=
 sel x62
 (zqn_28 Q E x0 H)
 (zqn_31 Q E x3 H)

def zqn_33_M (Q : QT) (E : ET) (τ : Tau) (H : Heap) : Prop := mP (τ 0) fun x0 => mI .u8 (τ 3) fun x3 => mB (τ 62) fun x62 => zqn_33 Q E x0 x3 x62 H

theorem zqn_34ok (Q : QT) (E : ET) (τ : Tau) (H : Heap) (h : zqn_33_M Q E τ H) : vc Pr zqn_p29 τ (zqn_q3 Q E) E H :=
  vP (i := 0) h (fun x0 h => vI (i := 3) h (fun x3 h => vB (i := 62) h (fun x62 h => (conv (B := vc Pr zqn_p29 (Tau.upd (Tau.upd (Tau.upd τ 0 (.pointer x0)) 3 (.int .u8 x3)) 62 (.bool x62)) (zqn_q3 Q E) E H) (by kernel_rfl) (sel_map (zqn_30ok Q E (Tau.upd (Tau.upd (Tau.upd τ 0 (.pointer x0)) 3 (.int .u8 x3)) 62 (.bool x62)) H) (zqn_32ok Q E (Tau.upd (Tau.upd (Tau.upd τ 0 (.pointer x0)) 3 (.int .u8 x3)) 62 (.bool x62)) H) (conv (B := sel x62 (zqn_28_M Q E (Tau.upd (Tau.upd (Tau.upd τ 0 (.pointer x0)) 3 (.int .u8 x3)) 62 (.bool x62)) H) (zqn_31_M Q E (Tau.upd (Tau.upd (Tau.upd τ 0 (.pointer x0)) 3 (.int .u8 x3)) 62 (.bool x62)) H)) (by kernel_rfl) h))))))

@[reducible] noncomputable def zqn_q8 (Q : QT) (E : ET) : Exit → Tau → Heap → Prop := (xthen (zqn_33_M Q E) (zqn_q3 Q E))

@[reducible] noncomputable def zqn_p40 : Code := sA zqn_p28

def zqn_35 (Q : QT) (E : ET) (x0 : OA) (x3 : Int) (x23 : Int) (H : Heap) : Prop :=
 zqn_33 Q E x0 x3 ((x23 : Int) == 40) H

def zqn_35_M (Q : QT) (E : ET) (τ : Tau) (H : Heap) : Prop := mP (τ 0) fun x0 => mI .u8 (τ 3) fun x3 => mI .u8 (τ 23) fun x23 => zqn_35 Q E x0 x3 x23 H

theorem zqn_36ok (Q : QT) (E : ET) (τ : Tau) (H : Heap) (h : zqn_35_M Q E τ H) : vc Pr zqn_p40 τ (zqn_q8 Q E) E H :=
  vP (i := 0) h (fun x0 h => vI (i := 3) h (fun x3 h => vI (i := 23) h (fun x23 h => (conv (by kernel_rfl) h))))

theorem zqn_37ok (Q : QT) (E : ET) (τ : Tau) (H : Heap) (h : zqn_35_M Q E τ H) : vc Pr zqn_p28 τ (zqn_q3 Q E) E H :=
  (conv (B := vc Pr zqn_p28 τ (zqn_q3 Q E) E H) (by kernel_rfl) (vc_seq (K := (zqn_33_M Q E)) (zqn_36ok Q E τ H h) (zqn_34ok Q E)))

def zqn_38 (Q : QT) (E : ET) (x0 : OA) (x3 : Int) (x23 : Int) (x56 : Bool) (H : Heap) : Prop :=
 sel x56
 (zqn_15 Q E x0 x3 H)
 (zqn_35 Q E x0 x3 x23 H)

def zqn_38_M (Q : QT) (E : ET) (τ : Tau) (H : Heap) : Prop := mP (τ 0) fun x0 => mI .u8 (τ 3) fun x3 => mI .u8 (τ 23) fun x23 => mB (τ 56) fun x56 => zqn_38 Q E x0 x3 x23 x56 H

theorem zqn_39ok (Q : QT) (E : ET) (τ : Tau) (H : Heap) (h : zqn_38_M Q E τ H) : vc Pr zqn_p26 τ (zqn_q3 Q E) E H :=
  vP (i := 0) h (fun x0 h => vI (i := 3) h (fun x3 h => vI (i := 23) h (fun x23 h => vB (i := 56) h (fun x56 h => (conv (B := vc Pr zqn_p26 (Tau.upd (Tau.upd (Tau.upd (Tau.upd τ 0 (.pointer x0)) 3 (.int .u8 x3)) 23 (.int .u8 x23)) 56 (.bool x56)) (zqn_q3 Q E) E H) (by kernel_rfl) (sel_map (zqn_16ok Q E (Tau.upd (Tau.upd (Tau.upd (Tau.upd τ 0 (.pointer x0)) 3 (.int .u8 x3)) 23 (.int .u8 x23)) 56 (.bool x56)) H) (zqn_37ok Q E (Tau.upd (Tau.upd (Tau.upd (Tau.upd τ 0 (.pointer x0)) 3 (.int .u8 x3)) 23 (.int .u8 x23)) 56 (.bool x56)) H) (conv (B := sel x56 (zqn_15_M Q E (Tau.upd (Tau.upd (Tau.upd (Tau.upd τ 0 (.pointer x0)) 3 (.int .u8 x3)) 23 (.int .u8 x23)) 56 (.bool x56)) H) (zqn_35_M Q E (Tau.upd (Tau.upd (Tau.upd (Tau.upd τ 0 (.pointer x0)) 3 (.int .u8 x3)) 23 (.int .u8 x23)) 56 (.bool x56)) H)) (by kernel_rfl) h)))))))

@[reducible] noncomputable def zqn_q9 (Q : QT) (E : ET) : Exit → Tau → Heap → Prop := (xthen (zqn_38_M Q E) (zqn_q3 Q E))

@[reducible] noncomputable def zqn_p41 : Code := sA zqn_p25

def zqn_40 (Q : QT) (E : ET) (x0 : OA) (x3 : Int) (x23 : Int) (H : Heap) : Prop :=
 sel ((x23 : Int) == 42)
 (zqn_38 Q E x0 x3 x23 ((x23 : Int) == 42) H)
 (sel ((x23 : Int) == 43)
 (zqn_38 Q E x0 x3 x23 ((x23 : Int) == 43) H)
 (zqn_38 Q E x0 x3 x23 ((x23 : Int) == 63) H))

def zqn_40_M (Q : QT) (E : ET) (τ : Tau) (H : Heap) : Prop := mP (τ 0) fun x0 => mI .u8 (τ 3) fun x3 => mI .u8 (τ 23) fun x23 => zqn_40 Q E x0 x3 x23 H

theorem zqn_41ok (Q : QT) (E : ET) (τ : Tau) (H : Heap) (h : zqn_40_M Q E τ H) : vc Pr zqn_p41 τ (zqn_q9 Q E) E H :=
  vP (i := 0) h (fun x0 h => vI (i := 3) h (fun x3 h => vI (i := 23) h (fun x23 h => (conv (by kernel_rfl) h))))

theorem zqn_42ok (Q : QT) (E : ET) (τ : Tau) (H : Heap) (h : zqn_40_M Q E τ H) : vc Pr zqn_p25 τ (zqn_q3 Q E) E H :=
  (conv (B := vc Pr zqn_p25 τ (zqn_q3 Q E) E H) (by kernel_rfl) (vc_seq (K := (zqn_38_M Q E)) (zqn_41ok Q E τ H h) (zqn_39ok Q E)))

def zqn_43 (Q : QT) (E : ET) (x0 : OA) (x3 : Int) (x23 : Int) (x52 : Bool) (H : Heap) : Prop :=
 sel x52
 (zqn_13 Q E x0 x3 H)
 (zqn_40 Q E x0 x3 x23 H)

def zqn_43_M (Q : QT) (E : ET) (τ : Tau) (H : Heap) : Prop := mP (τ 0) fun x0 => mI .u8 (τ 3) fun x3 => mI .u8 (τ 23) fun x23 => mB (τ 52) fun x52 => zqn_43 Q E x0 x3 x23 x52 H

theorem zqn_44ok (Q : QT) (E : ET) (τ : Tau) (H : Heap) (h : zqn_43_M Q E τ H) : vc Pr zqn_p23 τ (zqn_q3 Q E) E H :=
  vP (i := 0) h (fun x0 h => vI (i := 3) h (fun x3 h => vI (i := 23) h (fun x23 h => vB (i := 52) h (fun x52 h => (conv (B := vc Pr zqn_p23 (Tau.upd (Tau.upd (Tau.upd (Tau.upd τ 0 (.pointer x0)) 3 (.int .u8 x3)) 23 (.int .u8 x23)) 52 (.bool x52)) (zqn_q3 Q E) E H) (by kernel_rfl) (sel_map (zqn_14ok Q E (Tau.upd (Tau.upd (Tau.upd (Tau.upd τ 0 (.pointer x0)) 3 (.int .u8 x3)) 23 (.int .u8 x23)) 52 (.bool x52)) H) (zqn_42ok Q E (Tau.upd (Tau.upd (Tau.upd (Tau.upd τ 0 (.pointer x0)) 3 (.int .u8 x3)) 23 (.int .u8 x23)) 52 (.bool x52)) H) (conv (B := sel x52 (zqn_13_M Q E (Tau.upd (Tau.upd (Tau.upd (Tau.upd τ 0 (.pointer x0)) 3 (.int .u8 x3)) 23 (.int .u8 x23)) 52 (.bool x52)) H) (zqn_40_M Q E (Tau.upd (Tau.upd (Tau.upd (Tau.upd τ 0 (.pointer x0)) 3 (.int .u8 x3)) 23 (.int .u8 x23)) 52 (.bool x52)) H)) (by kernel_rfl) h)))))))

@[reducible] noncomputable def zqn_q10 (Q : QT) (E : ET) : Exit → Tau → Heap → Prop := (xthen (zqn_43_M Q E) (zqn_q3 Q E))

@[reducible] noncomputable def zqn_p42 : Code := sA zqn_p22

def zqn_45 (Q : QT) (E : ET) (x0 : OA) (x3 : Int) (x23 : Int) (H : Heap) : Prop :=
 zqn_43 Q E x0 x3 x23 ((x23 : Int) == 93) H

def zqn_45_M (Q : QT) (E : ET) (τ : Tau) (H : Heap) : Prop := mP (τ 0) fun x0 => mI .u8 (τ 3) fun x3 => mI .u8 (τ 23) fun x23 => zqn_45 Q E x0 x3 x23 H

theorem zqn_46ok (Q : QT) (E : ET) (τ : Tau) (H : Heap) (h : zqn_45_M Q E τ H) : vc Pr zqn_p42 τ (zqn_q10 Q E) E H :=
  vP (i := 0) h (fun x0 h => vI (i := 3) h (fun x3 h => vI (i := 23) h (fun x23 h => (conv (by kernel_rfl) h))))

theorem zqn_47ok (Q : QT) (E : ET) (τ : Tau) (H : Heap) (h : zqn_45_M Q E τ H) : vc Pr zqn_p22 τ (zqn_q3 Q E) E H :=
  (conv (B := vc Pr zqn_p22 τ (zqn_q3 Q E) E H) (by kernel_rfl) (vc_seq (K := (zqn_43_M Q E)) (zqn_46ok Q E τ H h) (zqn_44ok Q E)))

def zqn_48 (Q : QT) (E : ET) (x0 : OA) (x3 : Int) (x23 : Int) (x47 : Bool) (H : Heap) : Prop :=
 sel x47
 (zqn_11 Q E x0 H)
 (zqn_45 Q E x0 x3 x23 H)

def zqn_48_M (Q : QT) (E : ET) (τ : Tau) (H : Heap) : Prop := mP (τ 0) fun x0 => mI .u8 (τ 3) fun x3 => mI .u8 (τ 23) fun x23 => mB (τ 47) fun x47 => zqn_48 Q E x0 x3 x23 x47 H

theorem zqn_49ok (Q : QT) (E : ET) (τ : Tau) (H : Heap) (h : zqn_48_M Q E τ H) : vc Pr zqn_p20 τ (zqn_q3 Q E) E H :=
  vP (i := 0) h (fun x0 h => vI (i := 3) h (fun x3 h => vI (i := 23) h (fun x23 h => vB (i := 47) h (fun x47 h => (conv (B := vc Pr zqn_p20 (Tau.upd (Tau.upd (Tau.upd (Tau.upd τ 0 (.pointer x0)) 3 (.int .u8 x3)) 23 (.int .u8 x23)) 47 (.bool x47)) (zqn_q3 Q E) E H) (by kernel_rfl) (sel_map (zqn_12ok Q E (Tau.upd (Tau.upd (Tau.upd (Tau.upd τ 0 (.pointer x0)) 3 (.int .u8 x3)) 23 (.int .u8 x23)) 47 (.bool x47)) H) (zqn_47ok Q E (Tau.upd (Tau.upd (Tau.upd (Tau.upd τ 0 (.pointer x0)) 3 (.int .u8 x3)) 23 (.int .u8 x23)) 47 (.bool x47)) H) (conv (B := sel x47 (zqn_11_M Q E (Tau.upd (Tau.upd (Tau.upd (Tau.upd τ 0 (.pointer x0)) 3 (.int .u8 x3)) 23 (.int .u8 x23)) 47 (.bool x47)) H) (zqn_45_M Q E (Tau.upd (Tau.upd (Tau.upd (Tau.upd τ 0 (.pointer x0)) 3 (.int .u8 x3)) 23 (.int .u8 x23)) 47 (.bool x47)) H)) (by kernel_rfl) h)))))))

@[reducible] noncomputable def zqn_q11 (Q : QT) (E : ET) : Exit → Tau → Heap → Prop := (xthen (zqn_48_M Q E) (zqn_q3 Q E))

@[reducible] noncomputable def zqn_p43 : Code := sA zqn_p19

def zqn_50 (Q : QT) (E : ET) (x0 : OA) (x3 : Int) (x23 : Int) (H : Heap) : Prop :=
 zqn_48 Q E x0 x3 x23 ((x23 : Int) == 91) H

def zqn_50_M (Q : QT) (E : ET) (τ : Tau) (H : Heap) : Prop := mP (τ 0) fun x0 => mI .u8 (τ 3) fun x3 => mI .u8 (τ 23) fun x23 => zqn_50 Q E x0 x3 x23 H

theorem zqn_51ok (Q : QT) (E : ET) (τ : Tau) (H : Heap) (h : zqn_50_M Q E τ H) : vc Pr zqn_p43 τ (zqn_q11 Q E) E H :=
  vP (i := 0) h (fun x0 h => vI (i := 3) h (fun x3 h => vI (i := 23) h (fun x23 h => (conv (by kernel_rfl) h))))

theorem zqn_52ok (Q : QT) (E : ET) (τ : Tau) (H : Heap) (h : zqn_50_M Q E τ H) : vc Pr zqn_p19 τ (zqn_q3 Q E) E H :=
  (conv (B := vc Pr zqn_p19 τ (zqn_q3 Q E) E H) (by kernel_rfl) (vc_seq (K := (zqn_48_M Q E)) (zqn_51ok Q E τ H h) (zqn_49ok Q E)))

def zqn_53 (Q : QT) (E : ET) (x0 : OA) (x3 : Int) (x23 : Int) (x38 : Bool) (H : Heap) : Prop :=
 sel x38
 (zqn_9 Q E x0 H)
 (zqn_50 Q E x0 x3 x23 H)

def zqn_53_M (Q : QT) (E : ET) (τ : Tau) (H : Heap) : Prop := mP (τ 0) fun x0 => mI .u8 (τ 3) fun x3 => mI .u8 (τ 23) fun x23 => mB (τ 38) fun x38 => zqn_53 Q E x0 x3 x23 x38 H

theorem zqn_54ok (Q : QT) (E : ET) (τ : Tau) (H : Heap) (h : zqn_53_M Q E τ H) : vc Pr zqn_p17 τ (zqn_q3 Q E) E H :=
  vP (i := 0) h (fun x0 h => vI (i := 3) h (fun x3 h => vI (i := 23) h (fun x23 h => vB (i := 38) h (fun x38 h => (conv (B := vc Pr zqn_p17 (Tau.upd (Tau.upd (Tau.upd (Tau.upd τ 0 (.pointer x0)) 3 (.int .u8 x3)) 23 (.int .u8 x23)) 38 (.bool x38)) (zqn_q3 Q E) E H) (by kernel_rfl) (sel_map (zqn_10ok Q E (Tau.upd (Tau.upd (Tau.upd (Tau.upd τ 0 (.pointer x0)) 3 (.int .u8 x3)) 23 (.int .u8 x23)) 38 (.bool x38)) H) (zqn_52ok Q E (Tau.upd (Tau.upd (Tau.upd (Tau.upd τ 0 (.pointer x0)) 3 (.int .u8 x3)) 23 (.int .u8 x23)) 38 (.bool x38)) H) (conv (B := sel x38 (zqn_9_M Q E (Tau.upd (Tau.upd (Tau.upd (Tau.upd τ 0 (.pointer x0)) 3 (.int .u8 x3)) 23 (.int .u8 x23)) 38 (.bool x38)) H) (zqn_50_M Q E (Tau.upd (Tau.upd (Tau.upd (Tau.upd τ 0 (.pointer x0)) 3 (.int .u8 x3)) 23 (.int .u8 x23)) 38 (.bool x38)) H)) (by kernel_rfl) h)))))))

@[reducible] noncomputable def zqn_q12 (Q : QT) (E : ET) : Exit → Tau → Heap → Prop := (xthen (zqn_53_M Q E) (zqn_q3 Q E))

@[reducible] noncomputable def zqn_p44 : Code := sA zqn_p16

def zqn_55 (Q : QT) (E : ET) (x0 : OA) (x3 : Int) (x23 : Int) (H : Heap) : Prop :=
 zqn_53 Q E x0 x3 x23 ((x23 : Int) == 92) H

def zqn_55_M (Q : QT) (E : ET) (τ : Tau) (H : Heap) : Prop := mP (τ 0) fun x0 => mI .u8 (τ 3) fun x3 => mI .u8 (τ 23) fun x23 => zqn_55 Q E x0 x3 x23 H

theorem zqn_56ok (Q : QT) (E : ET) (τ : Tau) (H : Heap) (h : zqn_55_M Q E τ H) : vc Pr zqn_p44 τ (zqn_q12 Q E) E H :=
  vP (i := 0) h (fun x0 h => vI (i := 3) h (fun x3 h => vI (i := 23) h (fun x23 h => (conv (by kernel_rfl) h))))

theorem zqn_57ok (Q : QT) (E : ET) (τ : Tau) (H : Heap) (h : zqn_55_M Q E τ H) : vc Pr zqn_p16 τ (zqn_q3 Q E) E H :=
  (conv (B := vc Pr zqn_p16 τ (zqn_q3 Q E) E H) (by kernel_rfl) (vc_seq (K := (zqn_53_M Q E)) (zqn_56ok Q E τ H h) (zqn_54ok Q E)))

def zqn_58 (Q : QT) (E : ET) (x0 : OA) (x3 : Int) (x23 : Int) (x34 : Bool) (H : Heap) : Prop :=
 sel x34
 (zqn_7 Q E  H)
 (zqn_55 Q E x0 x3 x23 H)

def zqn_58_M (Q : QT) (E : ET) (τ : Tau) (H : Heap) : Prop := mP (τ 0) fun x0 => mI .u8 (τ 3) fun x3 => mI .u8 (τ 23) fun x23 => mB (τ 34) fun x34 => zqn_58 Q E x0 x3 x23 x34 H

theorem zqn_59ok (Q : QT) (E : ET) (τ : Tau) (H : Heap) (h : zqn_58_M Q E τ H) : vc Pr zqn_p14 τ (zqn_q3 Q E) E H :=
  vP (i := 0) h (fun x0 h => vI (i := 3) h (fun x3 h => vI (i := 23) h (fun x23 h => vB (i := 34) h (fun x34 h => (conv (B := vc Pr zqn_p14 (Tau.upd (Tau.upd (Tau.upd (Tau.upd τ 0 (.pointer x0)) 3 (.int .u8 x3)) 23 (.int .u8 x23)) 34 (.bool x34)) (zqn_q3 Q E) E H) (by kernel_rfl) (sel_map (zqn_8ok Q E (Tau.upd (Tau.upd (Tau.upd (Tau.upd τ 0 (.pointer x0)) 3 (.int .u8 x3)) 23 (.int .u8 x23)) 34 (.bool x34)) H) (zqn_57ok Q E (Tau.upd (Tau.upd (Tau.upd (Tau.upd τ 0 (.pointer x0)) 3 (.int .u8 x3)) 23 (.int .u8 x23)) 34 (.bool x34)) H) (conv (B := sel x34 (zqn_7_M Q E (Tau.upd (Tau.upd (Tau.upd (Tau.upd τ 0 (.pointer x0)) 3 (.int .u8 x3)) 23 (.int .u8 x23)) 34 (.bool x34)) H) (zqn_55_M Q E (Tau.upd (Tau.upd (Tau.upd (Tau.upd τ 0 (.pointer x0)) 3 (.int .u8 x3)) 23 (.int .u8 x23)) 34 (.bool x34)) H)) (by kernel_rfl) h)))))))

@[reducible] noncomputable def zqn_q13 (Q : QT) (E : ET) : Exit → Tau → Heap → Prop := (xthen (zqn_58_M Q E) (zqn_q3 Q E))

@[reducible] noncomputable def zqn_p45 : Code := sA zqn_p13

def zqn_60 (Q : QT) (E : ET) (x0 : OA) (x3 : Int) (x23 : Int) (H : Heap) : Prop :=
 zqn_58 Q E x0 x3 x23 ((x23 : Int) == 36) H

def zqn_60_M (Q : QT) (E : ET) (τ : Tau) (H : Heap) : Prop := mP (τ 0) fun x0 => mI .u8 (τ 3) fun x3 => mI .u8 (τ 23) fun x23 => zqn_60 Q E x0 x3 x23 H

theorem zqn_61ok (Q : QT) (E : ET) (τ : Tau) (H : Heap) (h : zqn_60_M Q E τ H) : vc Pr zqn_p45 τ (zqn_q13 Q E) E H :=
  vP (i := 0) h (fun x0 h => vI (i := 3) h (fun x3 h => vI (i := 23) h (fun x23 h => (conv (by kernel_rfl) h))))

theorem zqn_62ok (Q : QT) (E : ET) (τ : Tau) (H : Heap) (h : zqn_60_M Q E τ H) : vc Pr zqn_p13 τ (zqn_q3 Q E) E H :=
  (conv (B := vc Pr zqn_p13 τ (zqn_q3 Q E) E H) (by kernel_rfl) (vc_seq (K := (zqn_58_M Q E)) (zqn_61ok Q E τ H h) (zqn_59ok Q E)))

def zqn_63 (Q : QT) (E : ET) (x0 : OA) (x3 : Int) (x23 : Int) (x30 : Bool) (H : Heap) : Prop :=
 sel x30
 (zqn_5 Q E  H)
 (zqn_60 Q E x0 x3 x23 H)

def zqn_63_M (Q : QT) (E : ET) (τ : Tau) (H : Heap) : Prop := mP (τ 0) fun x0 => mI .u8 (τ 3) fun x3 => mI .u8 (τ 23) fun x23 => mB (τ 30) fun x30 => zqn_63 Q E x0 x3 x23 x30 H

theorem zqn_64ok (Q : QT) (E : ET) (τ : Tau) (H : Heap) (h : zqn_63_M Q E τ H) : vc Pr zqn_p11 τ (zqn_q3 Q E) E H :=
  vP (i := 0) h (fun x0 h => vI (i := 3) h (fun x3 h => vI (i := 23) h (fun x23 h => vB (i := 30) h (fun x30 h => (conv (B := vc Pr zqn_p11 (Tau.upd (Tau.upd (Tau.upd (Tau.upd τ 0 (.pointer x0)) 3 (.int .u8 x3)) 23 (.int .u8 x23)) 30 (.bool x30)) (zqn_q3 Q E) E H) (by kernel_rfl) (sel_map (zqn_6ok Q E (Tau.upd (Tau.upd (Tau.upd (Tau.upd τ 0 (.pointer x0)) 3 (.int .u8 x3)) 23 (.int .u8 x23)) 30 (.bool x30)) H) (zqn_62ok Q E (Tau.upd (Tau.upd (Tau.upd (Tau.upd τ 0 (.pointer x0)) 3 (.int .u8 x3)) 23 (.int .u8 x23)) 30 (.bool x30)) H) (conv (B := sel x30 (zqn_5_M Q E (Tau.upd (Tau.upd (Tau.upd (Tau.upd τ 0 (.pointer x0)) 3 (.int .u8 x3)) 23 (.int .u8 x23)) 30 (.bool x30)) H) (zqn_60_M Q E (Tau.upd (Tau.upd (Tau.upd (Tau.upd τ 0 (.pointer x0)) 3 (.int .u8 x3)) 23 (.int .u8 x23)) 30 (.bool x30)) H)) (by kernel_rfl) h)))))))

@[reducible] noncomputable def zqn_q14 (Q : QT) (E : ET) : Exit → Tau → Heap → Prop := (xthen (zqn_63_M Q E) (zqn_q3 Q E))

@[reducible] noncomputable def zqn_p46 : Code := sA zqn_p10

def zqn_65 (Q : QT) (E : ET) (x0 : OA) (x3 : Int) (x23 : Int) (H : Heap) : Prop :=
 zqn_63 Q E x0 x3 x23 ((x23 : Int) == 94) H

def zqn_65_M (Q : QT) (E : ET) (τ : Tau) (H : Heap) : Prop := mP (τ 0) fun x0 => mI .u8 (τ 3) fun x3 => mI .u8 (τ 23) fun x23 => zqn_65 Q E x0 x3 x23 H

theorem zqn_66ok (Q : QT) (E : ET) (τ : Tau) (H : Heap) (h : zqn_65_M Q E τ H) : vc Pr zqn_p46 τ (zqn_q14 Q E) E H :=
  vP (i := 0) h (fun x0 h => vI (i := 3) h (fun x3 h => vI (i := 23) h (fun x23 h => (conv (by kernel_rfl) h))))

theorem zqn_67ok (Q : QT) (E : ET) (τ : Tau) (H : Heap) (h : zqn_65_M Q E τ H) : vc Pr zqn_p10 τ (zqn_q3 Q E) E H :=
  (conv (B := vc Pr zqn_p10 τ (zqn_q3 Q E) E H) (by kernel_rfl) (vc_seq (K := (zqn_63_M Q E)) (zqn_66ok Q E τ H h) (zqn_64ok Q E)))

def zqn_68 (Q : QT) (E : ET) (x0 : OA) (x3 : Int) (x23 : Int) (x24 : Bool) (H : Heap) : Prop :=
 sel x24
 (zqn_3 Q E  H)
 (zqn_65 Q E x0 x3 x23 H)

def zqn_68_M (Q : QT) (E : ET) (τ : Tau) (H : Heap) : Prop := mP (τ 0) fun x0 => mI .u8 (τ 3) fun x3 => mI .u8 (τ 23) fun x23 => mB (τ 24) fun x24 => zqn_68 Q E x0 x3 x23 x24 H

theorem zqn_69ok (Q : QT) (E : ET) (τ : Tau) (H : Heap) (h : zqn_68_M Q E τ H) : vc Pr zqn_p8 τ (zqn_q3 Q E) E H :=
  vP (i := 0) h (fun x0 h => vI (i := 3) h (fun x3 h => vI (i := 23) h (fun x23 h => vB (i := 24) h (fun x24 h => (conv (B := vc Pr zqn_p8 (Tau.upd (Tau.upd (Tau.upd (Tau.upd τ 0 (.pointer x0)) 3 (.int .u8 x3)) 23 (.int .u8 x23)) 24 (.bool x24)) (zqn_q3 Q E) E H) (by kernel_rfl) (sel_map (zqn_4ok Q E (Tau.upd (Tau.upd (Tau.upd (Tau.upd τ 0 (.pointer x0)) 3 (.int .u8 x3)) 23 (.int .u8 x23)) 24 (.bool x24)) H) (zqn_67ok Q E (Tau.upd (Tau.upd (Tau.upd (Tau.upd τ 0 (.pointer x0)) 3 (.int .u8 x3)) 23 (.int .u8 x23)) 24 (.bool x24)) H) (conv (B := sel x24 (zqn_3_M Q E (Tau.upd (Tau.upd (Tau.upd (Tau.upd τ 0 (.pointer x0)) 3 (.int .u8 x3)) 23 (.int .u8 x23)) 24 (.bool x24)) H) (zqn_65_M Q E (Tau.upd (Tau.upd (Tau.upd (Tau.upd τ 0 (.pointer x0)) 3 (.int .u8 x3)) 23 (.int .u8 x23)) 24 (.bool x24)) H)) (by kernel_rfl) h)))))))

@[reducible] noncomputable def zqn_q15 (Q : QT) (E : ET) : Exit → Tau → Heap → Prop := (xthen (zqn_68_M Q E) (zqn_q3 Q E))

@[reducible] noncomputable def zqn_p47 : Code := sA zqn_p7

def zqn_70 (Q : QT) (E : ET) (x0 : OA) (x3 : Int) (x23 : Int) (H : Heap) : Prop :=
 zqn_68 Q E x0 x3 x23 ((x23 : Int) == 46) H

def zqn_70_M (Q : QT) (E : ET) (τ : Tau) (H : Heap) : Prop := mP (τ 0) fun x0 => mI .u8 (τ 3) fun x3 => mI .u8 (τ 23) fun x23 => zqn_70 Q E x0 x3 x23 H

theorem zqn_71ok (Q : QT) (E : ET) (τ : Tau) (H : Heap) (h : zqn_70_M Q E τ H) : vc Pr zqn_p47 τ (zqn_q15 Q E) E H :=
  vP (i := 0) h (fun x0 h => vI (i := 3) h (fun x3 h => vI (i := 23) h (fun x23 h => (conv (by kernel_rfl) h))))

theorem zqn_72ok (Q : QT) (E : ET) (τ : Tau) (H : Heap) (h : zqn_70_M Q E τ H) : vc Pr zqn_p7 τ (zqn_q3 Q E) E H :=
  (conv (B := vc Pr zqn_p7 τ (zqn_q3 Q E) E H) (by kernel_rfl) (vc_seq (K := (zqn_68_M Q E)) (zqn_71ok Q E τ H h) (zqn_69ok Q E)))

theorem zqn_73ok (Q : QT) (E : ET) (τ : Tau) (H : Heap) (h : zqn_70_M Q E τ H) : vc Pr zqn_p6 τ (zqn_q2 Q E) E H :=
  (conv (B := vc Pr zqn_p6 τ (zqn_q2 Q E) E H) (by kernel_rfl) (zqn_72ok Q E τ H h))

@[reducible] noncomputable def zqn_q16 (Q : QT) (E : ET) : Exit → Tau → Heap → Prop := (xthen (zqn_70_M Q E) (zqn_q2 Q E))

@[reducible] noncomputable def zqn_p48 : Code := sA zqn_p5

def zqn_74 (Q : QT) (E : ET) (x0 : OA) (x3 : Int) (H : Heap) : Prop :=
 zqn_70 Q E x0 x3 x3 H

def zqn_74_M (Q : QT) (E : ET) (τ : Tau) (H : Heap) : Prop := mP (τ 0) fun x0 => mI .u8 (τ 3) fun x3 => zqn_74 Q E x0 x3 H

theorem zqn_75ok (Q : QT) (E : ET) (τ : Tau) (H : Heap) (h : zqn_74_M Q E τ H) : vc Pr zqn_p48 τ (zqn_q16 Q E) E H :=
  vP (i := 0) h (fun x0 h => vI (i := 3) h (fun x3 h => (conv (by kernel_rfl) h)))

theorem zqn_76ok (Q : QT) (E : ET) (τ : Tau) (H : Heap) (h : zqn_74_M Q E τ H) : vc Pr zqn_p5 τ (zqn_q2 Q E) E H :=
  (conv (B := vc Pr zqn_p5 τ (zqn_q2 Q E) E H) (by kernel_rfl) (vc_seq (K := (zqn_70_M Q E)) (zqn_75ok Q E τ H h) (zqn_73ok Q E)))

theorem zqn_77ok (Q : QT) (E : ET) (τ : Tau) (H : Heap) (h : zqn_74_M Q E τ H) : vc Pr zqn_p3 τ (zqn_q1 Q E) E H :=
  (conv (B := vc Pr zqn_p3 τ (zqn_q1 Q E) E H) (by kernel_rfl) (vc_seq (K := (zqn_1_M Q E)) (zqn_76ok Q E τ H h) (zqn_2ok Q E)))

@[reducible] noncomputable def zqn_q17 (Q : QT) (E : ET) : Exit → Tau → Heap → Prop := (xthen (zqn_74_M Q E) (zqn_q1 Q E))

@[reducible] noncomputable def zqn_p49 : Code := sA zqn_p2

def zqn_78 (Q : QT) (E : ET) (x0 : OA) (x3 : Int) (H : Heap) : Prop :=
 ptr x0 fun q227 =>
 ldI .i64 (Addr.add q227 1) H fun n228 =>
 ptr x0 fun q229 =>
 wr (Addr.add q229 1) [(.int .i64 (IntKind.wrap .i64 (n228 + 1)))] H fun H230 =>
 zqn_74 Q E x0 x3 H230

def zqn_78_M (Q : QT) (E : ET) (τ : Tau) (H : Heap) : Prop := mP (τ 0) fun x0 => mI .u8 (τ 3) fun x3 => zqn_78 Q E x0 x3 H

theorem zqn_79ok (Q : QT) (E : ET) (τ : Tau) (H : Heap) (h : zqn_78_M Q E τ H) : vc Pr zqn_p49 τ (zqn_q17 Q E) E H :=
  vP (i := 0) h (fun x0 h => vI (i := 3) h (fun x3 h => (conv (by kernel_rfl) h)))

theorem zqn_80ok (Q : QT) (E : ET) (τ : Tau) (H : Heap) (h : zqn_78_M Q E τ H) : vc Pr zqn_p2 τ (zqn_q1 Q E) E H :=
  (conv (B := vc Pr zqn_p2 τ (zqn_q1 Q E) E H) (by kernel_rfl) (vc_seq (K := (zqn_74_M Q E)) (zqn_79ok Q E τ H h) (zqn_77ok Q E)))

@[reducible] noncomputable def zqn_q18 (Q : QT) (E : ET) : Exit → Tau → Heap → Prop := (xthen (zqn_78_M Q E) (zqn_q1 Q E))

@[reducible] noncomputable def zqn_p50 : Code := sA zqn_p1

def zqn_81 (Q : QT) (E : ET) (x0 : OA) (H : Heap) : Prop :=
 ptr x0 fun q231 =>
 ldS q231 H fun s232 =>
 ptr x0 fun q233 =>
 ldI .i64 (Addr.add q233 1) H fun n234 =>
 (0 ≤ (n234 : Int) ∧ (n234 : Int) < ((ByteArray.size s232 : Nat) : Int)) ∧ zqn_78 Q E x0 (sAt s232 n234) H

def zqn_81_M (Q : QT) (E : ET) (τ : Tau) (H : Heap) : Prop := mP (τ 0) fun x0 => zqn_81 Q E x0 H

theorem zqn_82ok (Q : QT) (E : ET) (τ : Tau) (H : Heap) (h : zqn_81_M Q E τ H) : vc Pr zqn_p50 τ (zqn_q18 Q E) E H :=
  vP (i := 0) h (fun x0 h => (conv (by kernel_rfl) h))

theorem zqn_83ok (Q : QT) (E : ET) (τ : Tau) (H : Heap) (h : zqn_81_M Q E τ H) : vc Pr zqn_p1 τ (zqn_q1 Q E) E H :=
  (conv (B := vc Pr zqn_p1 τ (zqn_q1 Q E) E H) (by kernel_rfl) (vc_seq (K := (zqn_78_M Q E)) (zqn_82ok Q E τ H h) (zqn_80ok Q E)))

@[reducible] noncomputable def zqn_q19 (Q : QT) (E : ET) : Exit → Tau → Heap → Prop := (xthen (zqn_81_M Q E) (zqn_q1 Q E))

@[reducible] noncomputable def zqn_p51 : Code := sA zqn_p0

def zqn (Q : QT) (E : ET) (a0 : OA) (H : Heap) : Prop :=
 zqn_81 Q E a0 H

theorem zqn_fn (a0 : OA) (Q : QT) (E : ET) (H : Heap) (h : zqn Q E a0 H)   : Does Pr 105 #[(.pointer a0)] H Q E :=
  Fn_of_vc (fn := Try.f105) (c := zqn_p0) (args := [(.pointer a0)]) mixed (by kernel_rfl) (by kernel_rfl) (by kernel_rfl) (by kernel_rfl) (by kernel_rfl) ((conv (B := vc Pr zqn_p0 (argT [(.pointer a0)]) (zqn_q1 Q E) E H) (by kernel_rfl) (vc_seq (K := (zqn_81_M Q E)) (conv (B := vc Pr zqn_p51 (argT [(.pointer a0)]) (zqn_q19 Q E) E H) (by kernel_rfl) h) (zqn_83ok Q E))))

/-! jobmux/jobmuxref08.Not -/
@[reducible] noncomputable def zqo_q1 (Q : QT) (E : ET) : Exit → Tau → Heap → Prop := (retQ Pr (Try.f107).results.toList Q)

@[reducible] noncomputable def zqo_p0 : Code := bodyOf Try.f107

@[reducible] noncomputable def zqo_p1 : Code := sB zqo_p0

@[reducible] noncomputable def zqo_p2 : Code := sB zqo_p1

def zqo_1 (Q : QT) (E : ET) (x1 : OA) (x2 : OA) (H : Heap) : Prop :=
 ptr x1 fun q7 =>
 ∃ n8 n9 n10 n11 : Int, Heap.rd H q7 0 [(.int .u64 n8), (.int .u64 n9), (.int .u64 n10), (.int .u64 n11)] ∧ ptr x2 fun q13 =>
 wr q13 [(.int .u64 n8), (.int .u64 n9), (.int .u64 n10), (.int .u64 n11)] H fun H12 =>
 ptr x2 fun q14 =>
 ∃ n15 n16 n17 n18 : Int, Heap.rd H12 q14 0 [(.int .u64 n15), (.int .u64 n16), (.int .u64 n17), (.int .u64 n18)] ∧ Q (.agg #[(.int .u64 n15), (.int .u64 n16), (.int .u64 n17), (.int .u64 n18)]) H12

def zqo_1_M (Q : QT) (E : ET) (τ : Tau) (H : Heap) : Prop := mP (τ 1) fun x1 => mP (τ 2) fun x2 => zqo_1 Q E x1 x2 H

theorem zqo_2ok (Q : QT) (E : ET) (τ : Tau) (H : Heap) (h : zqo_1_M Q E τ H) : vc Pr zqo_p2 τ (zqo_q1 Q E) E H :=
  vP (i := 1) h (fun x1 h => vP (i := 2) h (fun x2 h => (conv (by kernel_rfl) h)))

@[reducible] noncomputable def zqo_q2 (Q : QT) (E : ET) : Exit → Tau → Heap → Prop := (xthen (zqo_1_M Q E) (zqo_q1 Q E))

@[reducible] noncomputable def zqo_p3 : Code := sA zqo_p1

@[reducible] noncomputable def zqo_p4 : Code := sB zqo_p3

@[reducible] noncomputable def zqo_q3 (Q : QT) (E : ET) : Exit → Tau → Heap → Prop := (xblock 0 (zqo_q2 Q E))

@[reducible] noncomputable def zqo_p5 : Code := sI zqo_p4

@[reducible] noncomputable def zqo_q4 (nx19 : Int → HP) (Q : QT) (E : ET) : Exit → Tau → Heap → Prop := (xthen (fun τ H => mI .i64 (τ 3) fun x3' => nx19 x3' H) (zqo_q3 Q E))

@[reducible] noncomputable def zqo_p6 : Code := sI zqo_p5

@[reducible] noncomputable def zqo_p7 : Code := sB zqo_p6

def zqo_3 (nx19 : Int → HP) (Q : QT) (E : ET) (x1 : OA) (x2 : OA) (x3 : Int) (H : Heap) : Prop :=
 ptr x1 fun q20 =>
 (0 ≤ (x3 : Int) ∧ (x3 : Int) < ((4 : Nat) : Int)) ∧ ldI .u64 (Addr.add q20 ((x3 : Int).toNat * 1)) H fun n21 =>
 ptr x1 fun q22 =>
 (0 ≤ (x3 : Int) ∧ (x3 : Int) < ((4 : Nat) : Int)) ∧ wr (Addr.add q22 ((x3 : Int).toNat * 1)) [(.int .u64 (IntKind.wrap .u64 (BitVec.ofInt (IntKind.bits .u64) (if IntKind.signed .u64 then -1 else IntKind.max .u64) ^^^ BitVec.ofInt (IntKind.bits .u64) n21).toNat))] H fun H23 =>
 nx19 (IntKind.wrap .i64 (x3 + 1)) H23

def zqo_3_M (nx19 : Int → HP) (Q : QT) (E : ET) (τ : Tau) (H : Heap) : Prop := mP (τ 1) fun x1 => mP (τ 2) fun x2 => mI .i64 (τ 3) fun x3 => zqo_3 nx19 Q E x1 x2 x3 H

theorem zqo_4ok (nx19 : Int → HP) (Q : QT) (E : ET) (τ : Tau) (H : Heap) (h : zqo_3_M nx19 Q E τ H) : vc Pr zqo_p7 τ (zqo_q4 nx19 Q E) E H :=
  vP (i := 1) h (fun x1 h => vP (i := 2) h (fun x2 h => vI (i := 3) h (fun x3 h => (conv (by kernel_rfl) h))))

@[reducible] noncomputable def zqo_q5 (nx19 : Int → HP) (Q : QT) (E : ET) : Exit → Tau → Heap → Prop := (xthen (zqo_3_M nx19 Q E) (zqo_q4 nx19 Q E))

@[reducible] noncomputable def zqo_p8 : Code := sA zqo_p6

def zqo_5 (nx19 : Int → HP) (Q : QT) (E : ET) (x1 : OA) (x2 : OA) (x3 : Int) (H : Heap) : Prop :=
 sel (decide ((x3 : Int) < 4))
 (zqo_3 nx19 Q E x1 x2 x3 H)
 (zqo_1 Q E x1 x2 H)

def zqo_5_M (nx19 : Int → HP) (Q : QT) (E : ET) (τ : Tau) (H : Heap) : Prop := mP (τ 1) fun x1 => mP (τ 2) fun x2 => mI .i64 (τ 3) fun x3 => zqo_5 nx19 Q E x1 x2 x3 H

theorem zqo_6ok (nx19 : Int → HP) (Q : QT) (E : ET) (τ : Tau) (H : Heap) (h : zqo_5_M nx19 Q E τ H) : vc Pr zqo_p8 τ (zqo_q5 nx19 Q E) E H :=
  vP (i := 1) h (fun x1 h => vP (i := 2) h (fun x2 h => vI (i := 3) h (fun x3 h => (conv (by kernel_rfl) h))))

theorem zqo_7ok (nx19 : Int → HP) (Q : QT) (E : ET) (τ : Tau) (H : Heap) (h : zqo_5_M nx19 Q E τ H) : vc Pr zqo_p6 τ (zqo_q4 nx19 Q E) E H :=
  (conv (B := vc Pr zqo_p6 τ (zqo_q4 nx19 Q E) E H) (by kernel_rfl) (vc_seq (K := (zqo_3_M nx19 Q E)) (zqo_6ok nx19 Q E τ H h) (zqo_4ok nx19 Q E)))

def zqo_8 (Q : QT) (E : ET) (x1 : OA) (x2 : OA) (x3 : Int) (H : Heap) : Prop :=
 ∃ (I : Int → HP) (μ : Int → Heap → Nat), I x3 H ∧ ∀ (x3 : Int) (H : Heap), I x3 H →
 zqo_5 (fun x3' H1 => I x3' H1 ∧ μ x3' H1 < μ x3 H) Q E x1 x2 x3 H

def zqo_8_M (Q : QT) (E : ET) (τ : Tau) (H : Heap) : Prop := mP (τ 1) fun x1 => mP (τ 2) fun x2 => mI .i64 (τ 3) fun x3 => zqo_8 Q E x1 x2 x3 H

theorem zqo_9ok (Q : QT) (E : ET) (τ : Tau) (H : Heap) (h : zqo_8_M Q E τ H) : vc Pr zqo_p5 τ (zqo_q3 Q E) E H :=
  vP (i := 1) h (fun x1 h => vP (i := 2) h (fun x2 h => vI (i := 3) h (fun x3 h => match h with | ⟨I, μ, h0, hr⟩ => (conv (B := vc Pr zqo_p5 (Tau.upd (Tau.upd (Tau.upd τ 1 (.pointer x1)) 2 (.pointer x2)) 3 (.int .i64 x3)) (zqo_q3 Q E) E H) (by kernel_rfl) (vc_loop (c := sI zqo_p5) (τ := (Tau.upd (Tau.upd (Tau.upd τ 1 (.pointer x1)) 2 (.pointer x2)) 3 (.int .i64 x3))) [1, 2] (fun τ H => mI .i64 (τ 3) fun x3' => I x3' H) (fun τ H => μ (gI (τ 3)) H) (by kernel_rfl) h0 (fun τ1 H1 hf hI => fix_elim (τ := τ1) (i := 1) (v := (.pointer x1)) (G := fun τ => vc Pr (sI zqo_p5) τ (xthen (fun τ2 H2 => (mI .i64 (τ2 3) fun x3' => I x3' H2) ∧ μ (gI (τ2 3)) H2 < μ (gI (τ 3)) H1) (zqo_q3 Q E)) E H1) (hf 1 (by simp)) (fix_elim (τ := (Tau.upd τ1 1 (.pointer x1))) (i := 2) (v := (.pointer x2)) (G := fun τ => vc Pr (sI zqo_p5) τ (xthen (fun τ2 H2 => (mI .i64 (τ2 3) fun x3' => I x3' H2) ∧ μ (gI (τ2 3)) H2 < μ (gI (τ 3)) H1) (zqo_q3 Q E)) E H1) (hf 2 (by simp)) (mI_elim (i := 3) (G := fun τ => vc Pr (sI zqo_p5) τ (xthen (fun τ2 H2 => (mI .i64 (τ2 3) fun x3' => I x3' H2) ∧ μ (gI (τ2 3)) H2 < μ (gI (τ 3)) H1) (zqo_q3 Q E)) E H1) hI (fun x3r h => (conv (B := vc Pr (sI zqo_p5) (Tau.upd (Tau.upd (Tau.upd τ1 1 (.pointer x1)) 2 (.pointer x2)) 3 (.int .i64 x3r)) (xthen (fun τ2 H2 => (mI .i64 (τ2 3) fun x3' => I x3' H2) ∧ μ (gI (τ2 3)) H2 < μ (gI ((Tau.upd (Tau.upd (Tau.upd τ1 1 (.pointer x1)) 2 (.pointer x2)) 3 (.int .i64 x3r)) 3)) H1) (zqo_q3 Q E)) E H1) (by kernel_rfl) (vc_xthen (zqo_7ok (fun x3' H2 => I x3' H2 ∧ μ x3' H2 < μ x3r H1) Q E (Tau.upd (Tau.upd (Tau.upd τ1 1 (.pointer x1)) 2 (.pointer x2)) 3 (.int .i64 x3r)) H1 (conv (B := zqo_5_M (fun x3' H2 => I x3' H2 ∧ μ x3' H2 < μ x3r H1) Q E (Tau.upd (Tau.upd (Tau.upd τ1 1 (.pointer x1)) 2 (.pointer x2)) 3 (.int .i64 x3r)) H1) (by kernel_rfl) (hr x3r H1 h))) (fun τ2 H2 hk => mI_elim (i := 3) (G := fun τ => (mI .i64 (τ 3) fun x3' => I x3' H2) ∧ μ (gI (τ 3)) H2 < μ x3r H1) hk (fun x3' h => h)))))))))))))

theorem zqo_10ok (Q : QT) (E : ET) (τ : Tau) (H : Heap) (h : zqo_8_M Q E τ H) : vc Pr zqo_p4 τ (zqo_q2 Q E) E H :=
  (conv (B := vc Pr zqo_p4 τ (zqo_q2 Q E) E H) (by kernel_rfl) (zqo_9ok Q E τ H h))

@[reducible] noncomputable def zqo_q6 (Q : QT) (E : ET) : Exit → Tau → Heap → Prop := (xthen (zqo_8_M Q E) (zqo_q2 Q E))

@[reducible] noncomputable def zqo_p9 : Code := sA zqo_p3

def zqo_11 (Q : QT) (E : ET) (x1 : OA) (x2 : OA) (H : Heap) : Prop :=
 zqo_8 Q E x1 x2 0 H

def zqo_11_M (Q : QT) (E : ET) (τ : Tau) (H : Heap) : Prop := mP (τ 1) fun x1 => mP (τ 2) fun x2 => zqo_11 Q E x1 x2 H

theorem zqo_12ok (Q : QT) (E : ET) (τ : Tau) (H : Heap) (h : zqo_11_M Q E τ H) : vc Pr zqo_p9 τ (zqo_q6 Q E) E H :=
  vP (i := 1) h (fun x1 h => vP (i := 2) h (fun x2 h => (conv (by kernel_rfl) h)))

theorem zqo_13ok (Q : QT) (E : ET) (τ : Tau) (H : Heap) (h : zqo_11_M Q E τ H) : vc Pr zqo_p3 τ (zqo_q2 Q E) E H :=
  (conv (B := vc Pr zqo_p3 τ (zqo_q2 Q E) E H) (by kernel_rfl) (vc_seq (K := (zqo_8_M Q E)) (zqo_12ok Q E τ H h) (zqo_10ok Q E)))

theorem zqo_14ok (Q : QT) (E : ET) (τ : Tau) (H : Heap) (h : zqo_11_M Q E τ H) : vc Pr zqo_p1 τ (zqo_q1 Q E) E H :=
  (conv (B := vc Pr zqo_p1 τ (zqo_q1 Q E) E H) (by kernel_rfl) (vc_seq (K := (zqo_1_M Q E)) (zqo_13ok Q E τ H h) (zqo_2ok Q E)))

@[reducible] noncomputable def zqo_q7 (Q : QT) (E : ET) : Exit → Tau → Heap → Prop := (xthen (zqo_11_M Q E) (zqo_q1 Q E))

@[reducible] noncomputable def zqo_p10 : Code := sA zqo_p0

def zqo (Q : QT) (E : ET) (a0_0 : Int) (a0_1 : Int) (a0_2 : Int) (a0_3 : Int) (H : Heap) : Prop :=
 nw (.cells #[(.int .u64 a0_0), (.int .u64 a0_1), (.int .u64 a0_2), (.int .u64 a0_3)] 46 (0, 0)) H fun i24 H25 =>
 nw (.cells #[(.int .u64 0), (.int .u64 0), (.int .u64 0), (.int .u64 0)] 46 (0, 0)) H25 fun i26 H27 =>
 zqo_11 Q E (some ⟨i24, 0, none⟩) (some ⟨i26, 0, none⟩) H27

theorem zqo_fn (a0_0 : Int) (a0_1 : Int) (a0_2 : Int) (a0_3 : Int) (Q : QT) (E : ET) (H : Heap) (h : zqo Q E a0_0 a0_1 a0_2 a0_3 H)   : Does Pr 107 #[(.agg #[(.int .u64 a0_0), (.int .u64 a0_1), (.int .u64 a0_2), (.int .u64 a0_3)])] H Q E :=
  Fn_of_vc (fn := Try.f107) (c := zqo_p0) (args := [(.agg #[(.int .u64 a0_0), (.int .u64 a0_1), (.int .u64 a0_2), (.int .u64 a0_3)])]) mixed (by kernel_rfl) (by kernel_rfl) (by kernel_rfl) (by kernel_rfl) (by kernel_rfl) ((conv (B := vc Pr zqo_p0 (argT [(.agg #[(.int .u64 a0_0), (.int .u64 a0_1), (.int .u64 a0_2), (.int .u64 a0_3)])]) (zqo_q1 Q E) E H) (by kernel_rfl) (vc_seq (K := (zqo_11_M Q E)) (conv (B := vc Pr zqo_p10 (argT [(.agg #[(.int .u64 a0_0), (.int .u64 a0_1), (.int .u64 a0_2), (.int .u64 a0_3)])]) (zqo_q7 Q E) E H) (by kernel_rfl) h) (zqo_14ok Q E))))

/-! jobmux/jobmuxref08.With -/
@[reducible] noncomputable def zqp_q1 (Q : QT) (E : ET) : Exit → Tau → Heap → Prop := (retQ Pr (Try.f108).results.toList Q)

@[reducible] noncomputable def zqp_p0 : Code := bodyOf Try.f108

def zqp (Q : QT) (E : ET) (a0_0 : Int) (a0_1 : Int) (a0_2 : Int) (a0_3 : Int) (a1 : Int) (H : Heap) : Prop :=
 nw (.cells #[(.int .u64 a0_0), (.int .u64 a0_1), (.int .u64 a0_2), (.int .u64 a0_3)] 46 (0, 0)) H fun i1 H2 =>
 nw (.cells #[(.int .u64 0), (.int .u64 0), (.int .u64 0), (.int .u64 0)] 46 (0, 0)) H2 fun i3 H4 =>
 (64 : Int) ≠ 0 ∧ (64 : Int) ≠ 0 ∧ (0 ≤ ((IntKind.wrap .u8 (Int.tdiv a1 64)) : Int) ∧ ((IntKind.wrap .u8 (Int.tdiv a1 64)) : Int) < ((4 : Nat) : Int)) ∧ ldI .u64 (Addr.add ⟨i1, 0, none⟩ (((IntKind.wrap .u8 (Int.tdiv a1 64)) : Int).toNat * 1)) H4 fun n5 =>
 (64 : Int) ≠ 0 ∧ 0 ≤ ((Int.tmod a1 64) : Int) ∧ (0 ≤ ((IntKind.wrap .u8 (Int.tdiv a1 64)) : Int) ∧ ((IntKind.wrap .u8 (Int.tdiv a1 64)) : Int) < ((4 : Nat) : Int)) ∧ wr (Addr.add ⟨i1, 0, none⟩ (((IntKind.wrap .u8 (Int.tdiv a1 64)) : Int).toNat * 1)) [(.int .u64 (IntKind.wrap .u64 (BitVec.ofInt (IntKind.bits .u64) n5 ||| BitVec.ofInt (IntKind.bits .u64) (IntKind.wrap .u64 (1 * 2 ^ min ((Int.tmod a1 64) : Int).toNat (IntKind.bits .u64)))).toNat))] H4 fun H6 =>
 ∃ n7 n8 n9 n10 : Int, Heap.rd H6 ⟨i1, 0, none⟩ 0 [(.int .u64 n7), (.int .u64 n8), (.int .u64 n9), (.int .u64 n10)] ∧ wr ⟨i3, 0, none⟩ [(.int .u64 n7), (.int .u64 n8), (.int .u64 n9), (.int .u64 n10)] H6 fun H11 =>
 ∃ n12 n13 n14 n15 : Int, Heap.rd H11 ⟨i3, 0, none⟩ 0 [(.int .u64 n12), (.int .u64 n13), (.int .u64 n14), (.int .u64 n15)] ∧ Q (.agg #[(.int .u64 n12), (.int .u64 n13), (.int .u64 n14), (.int .u64 n15)]) H11

theorem zqp_fn (a0_0 : Int) (a0_1 : Int) (a0_2 : Int) (a0_3 : Int) (a1 : Int) (Q : QT) (E : ET) (H : Heap) (h : zqp Q E a0_0 a0_1 a0_2 a0_3 a1 H)   : Does Pr 108 #[(.agg #[(.int .u64 a0_0), (.int .u64 a0_1), (.int .u64 a0_2), (.int .u64 a0_3)]), (.int .u8 a1)] H Q E :=
  Fn_of_vc (fn := Try.f108) (c := zqp_p0) (args := [(.agg #[(.int .u64 a0_0), (.int .u64 a0_1), (.int .u64 a0_2), (.int .u64 a0_3)]), (.int .u8 a1)]) mixed (by kernel_rfl) (by kernel_rfl) (by kernel_rfl) (by kernel_rfl) (by kernel_rfl) ((conv (B := vc Pr zqp_p0 (argT [(.agg #[(.int .u64 a0_0), (.int .u64 a0_1), (.int .u64 a0_2), (.int .u64 a0_3)]), (.int .u8 a1)]) (zqp_q1 Q E) E H) (by kernel_rfl) h))

/-! (*jobmux/jobmuxref08.parser).escape -/
@[reducible] noncomputable def zqq_q1 (Q : QT) (E : ET) : Exit → Tau → Heap → Prop := (retQ Pr (Try.f109).results.toList Q)

@[reducible] noncomputable def zqq_p0 : Code := bodyOf Try.f109

@[reducible] noncomputable def zqq_p1 : Code := sB zqq_p0

@[reducible] noncomputable def zqq_p2 : Code := sB zqq_p1

@[reducible] noncomputable def zqq_p3 : Code := sB zqq_p2

@[reducible] noncomputable def zqq_p4 : Code := sB zqq_p3

def zqq_1 (Q : QT) (E : ET) (x0 : OA) (x2 : OA) (x4 : OA) (x5 : Bool) (H : Heap) : Prop :=
 ptr x0 fun q27 =>
 ldI .i64 (Addr.add q27 1) H fun n28 =>
 ptr x0 fun q29 =>
 wr (Addr.add q29 1) [(.int .i64 (IntKind.wrap .i64 (n28 + 1)))] H fun H30 =>
 ptr x4 fun q31 =>
 ∃ n32 n33 n34 n35 : Int, Heap.rd H30 q31 0 [(.int .u64 n32), (.int .u64 n33), (.int .u64 n34), (.int .u64 n35)] ∧ ptr x2 fun q37 =>
 wr q37 [(.int .u64 n32), (.int .u64 n33), (.int .u64 n34), (.int .u64 n35)] H30 fun H36 =>
 ptr x2 fun q38 =>
 ∃ n39 n40 n41 n42 : Int, Heap.rd H36 q38 0 [(.int .u64 n39), (.int .u64 n40), (.int .u64 n41), (.int .u64 n42)] ∧ Q (.tuple #[(.agg #[(.int .u64 n39), (.int .u64 n40), (.int .u64 n41), (.int .u64 n42)]), (.bool x5)]) H36

def zqq_1_M (Q : QT) (E : ET) (τ : Tau) (H : Heap) : Prop := mP (τ 0) fun x0 => mP (τ 2) fun x2 => mP (τ 4) fun x4 => mB (τ 5) fun x5 => zqq_1 Q E x0 x2 x4 x5 H

theorem zqq_2ok (Q : QT) (E : ET) (τ : Tau) (H : Heap) (h : zqq_1_M Q E τ H) : vc Pr zqq_p4 τ (zqq_q1 Q E) E H :=
  vP (i := 0) h (fun x0 h => vP (i := 2) h (fun x2 h => vP (i := 4) h (fun x4 h => vB (i := 5) h (fun x5 h => (conv (by kernel_rfl) h)))))

@[reducible] noncomputable def zqq_q2 (Q : QT) (E : ET) : Exit → Tau → Heap → Prop := (xthen (zqq_1_M Q E) (zqq_q1 Q E))

@[reducible] noncomputable def zqq_p5 : Code := sA zqq_p3

def zqq_3 (Q : QT) (E : ET) (x0 : OA) (x2 : OA) (x4 : OA) (x5 : Bool) (x6 : Bool) (H : Heap) : Prop :=
 sel (!x6)
 (Does Pr 57 #[(.pointer x0), (.int .i64 82)] H (fun v43 H44 =>
 zqq_1 Q E x0 x2 x4 x5 H44) E)
 (zqq_1 Q E x0 x2 x4 x5 H)

def zqq_3_M (Q : QT) (E : ET) (τ : Tau) (H : Heap) : Prop := mP (τ 0) fun x0 => mP (τ 2) fun x2 => mP (τ 4) fun x4 => mB (τ 5) fun x5 => mB (τ 6) fun x6 => zqq_3 Q E x0 x2 x4 x5 x6 H

theorem zqq_4ok (Q : QT) (E : ET) (τ : Tau) (H : Heap) (h : zqq_3_M Q E τ H) : vc Pr zqq_p5 τ (zqq_q2 Q E) E H :=
  vP (i := 0) h (fun x0 h => vP (i := 2) h (fun x2 h => vP (i := 4) h (fun x4 h => vB (i := 5) h (fun x5 h => vB (i := 6) h (fun x6 h => (conv (by kernel_rfl) h))))))

theorem zqq_5ok (Q : QT) (E : ET) (τ : Tau) (H : Heap) (h : zqq_3_M Q E τ H) : vc Pr zqq_p3 τ (zqq_q1 Q E) E H :=
  (conv (B := vc Pr zqq_p3 τ (zqq_q1 Q E) E H) (by kernel_rfl) (vc_seq (K := (zqq_1_M Q E)) (zqq_4ok Q E τ H h) (zqq_2ok Q E)))

@[reducible] noncomputable def zqq_q3 (Q : QT) (E : ET) : Exit → Tau → Heap → Prop := (xthen (zqq_3_M Q E) (zqq_q1 Q E))

@[reducible] noncomputable def zqq_p6 : Code := sA zqq_p2

def zqq_6 (Q : QT) (E : ET) (x0 : OA) (x2 : OA) (H : Heap) : Prop :=
 ptr x0 fun q45 =>
 ldS q45 H fun s46 =>
 ptr x0 fun q47 =>
 ldI .i64 (Addr.add q47 1) H fun n48 =>
 (0 ≤ (n48 : Int) ∧ (n48 : Int) < ((ByteArray.size s46 : Nat) : Int)) ∧ Does Pr 116 #[(.int .u8 (sAt s46 n48))] H (fun v49 H50 =>
 ∃ n51 n52 n53 n54 : Int, ∃ b55 : Bool, ∃ b56 : Bool, v49 = (.tuple #[(.agg #[(.int .u64 n51), (.int .u64 n52), (.int .u64 n53), (.int .u64 n54)]), (.bool b55), (.bool b56)]) ∧ nw (.cells #[(.int .u64 0), (.int .u64 0), (.int .u64 0), (.int .u64 0)] 46 (0, 0)) H50 fun i57 H58 =>
 wr ⟨i57, 0, none⟩ [(.int .u64 n51), (.int .u64 n52), (.int .u64 n53), (.int .u64 n54)] H58 fun H59 =>
 zqq_3 Q E x0 x2 (some ⟨i57, 0, none⟩) b55 b56 H59) (fun _ _ => False)

def zqq_6_M (Q : QT) (E : ET) (τ : Tau) (H : Heap) : Prop := mP (τ 0) fun x0 => mP (τ 2) fun x2 => zqq_6 Q E x0 x2 H

theorem zqq_7ok (Q : QT) (E : ET) (τ : Tau) (H : Heap) (h : zqq_6_M Q E τ H) : vc Pr zqq_p6 τ (zqq_q3 Q E) E H :=
  vP (i := 0) h (fun x0 h => vP (i := 2) h (fun x2 h => (conv (by kernel_rfl) h)))

theorem zqq_8ok (Q : QT) (E : ET) (τ : Tau) (H : Heap) (h : zqq_6_M Q E τ H) : vc Pr zqq_p2 τ (zqq_q1 Q E) E H :=
  (conv (B := vc Pr zqq_p2 τ (zqq_q1 Q E) E H) (by kernel_rfl) (vc_seq (K := (zqq_3_M Q E)) (zqq_7ok Q E τ H h) (zqq_5ok Q E)))

@[reducible] noncomputable def zqq_q4 (Q : QT) (E : ET) : Exit → Tau → Heap → Prop := (xthen (zqq_6_M Q E) (zqq_q1 Q E))

@[reducible] noncomputable def zqq_p7 : Code := sA zqq_p1

def zqq_9 (Q : QT) (E : ET) (x0 : OA) (x2 : OA) (H : Heap) : Prop :=
 ptr x0 fun q60 =>
 ldI .i64 (Addr.add q60 1) H fun n61 =>
 ptr x0 fun q62 =>
 ldS q62 H fun s63 =>
 sel (decide ((n61 : Int) ≥ ((ByteArray.size s63 : Nat) : Int)))
 (Does Pr 57 #[(.pointer x0), (.int .i64 82)] H (fun v64 H65 =>
 ptr x2 fun q67 =>
 wr q67 [(.int .u64 0), (.int .u64 0), (.int .u64 0), (.int .u64 0)] H65 fun H66 =>
 ptr x2 fun q68 =>
 ∃ n69 n70 n71 n72 : Int, Heap.rd H66 q68 0 [(.int .u64 n69), (.int .u64 n70), (.int .u64 n71), (.int .u64 n72)] ∧ Q (.tuple #[(.agg #[(.int .u64 n69), (.int .u64 n70), (.int .u64 n71), (.int .u64 n72)]), (.bool false)]) H66) E)
 (zqq_6 Q E x0 x2 H)

def zqq_9_M (Q : QT) (E : ET) (τ : Tau) (H : Heap) : Prop := mP (τ 0) fun x0 => mP (τ 2) fun x2 => zqq_9 Q E x0 x2 H

theorem zqq_10ok (Q : QT) (E : ET) (τ : Tau) (H : Heap) (h : zqq_9_M Q E τ H) : vc Pr zqq_p7 τ (zqq_q4 Q E) E H :=
  vP (i := 0) h (fun x0 h => vP (i := 2) h (fun x2 h => (conv (by kernel_rfl) h)))

theorem zqq_11ok (Q : QT) (E : ET) (τ : Tau) (H : Heap) (h : zqq_9_M Q E τ H) : vc Pr zqq_p1 τ (zqq_q1 Q E) E H :=
  (conv (B := vc Pr zqq_p1 τ (zqq_q1 Q E) E H) (by kernel_rfl) (vc_seq (K := (zqq_6_M Q E)) (zqq_10ok Q E τ H h) (zqq_8ok Q E)))

@[reducible] noncomputable def zqq_q5 (Q : QT) (E : ET) : Exit → Tau → Heap → Prop := (xthen (zqq_9_M Q E) (zqq_q1 Q E))

@[reducible] noncomputable def zqq_p8 : Code := sA zqq_p0

def zqq (Q : QT) (E : ET) (a0 : OA) (H : Heap) : Prop :=
 nw (.cells #[(.int .u64 0), (.int .u64 0), (.int .u64 0), (.int .u64 0)] 46 (0, 0)) H fun i73 H74 =>
 zqq_9 Q E a0 (some ⟨i73, 0, none⟩) H74

theorem zqq_fn (a0 : OA) (Q : QT) (E : ET) (H : Heap) (h : zqq Q E a0 H)   : Does Pr 109 #[(.pointer a0)] H Q E :=
  Fn_of_vc (fn := Try.f109) (c := zqq_p0) (args := [(.pointer a0)]) mixed (by kernel_rfl) (by kernel_rfl) (by kernel_rfl) (by kernel_rfl) (by kernel_rfl) ((conv (B := vc Pr zqq_p0 (argT [(.pointer a0)]) (zqq_q1 Q E) E H) (by kernel_rfl) (vc_seq (K := (zqq_9_M Q E)) (conv (B := vc Pr zqq_p8 (argT [(.pointer a0)]) (zqq_q5 Q E) E H) (by kernel_rfl) h) (zqq_11ok Q E))))

end Go.Proofs.Ytaffcoiomggpfaa
