import Derived.Test.YtaffcoiomggpfaaVPr
/- Printed by gen.py: the Go functions of package r08 over a heap view, and that the model does so. -/
namespace Go.Proofs.Ytaffcoiomggpfaa
open Go.V
set_option linter.unusedVariables false
set_option maxRecDepth 100000
/-! jobmux/jobmuxref08.Parse -/
@[reducible] noncomputable def r08_Parse_q1 (Q : QT) (E : ET) : Exit → Tau → Heap → Prop := (retQ Pr (Try.f23).results.toList Q)

@[reducible] noncomputable def r08_Parse_p0 : Code := bodyOf Try.f23

@[reducible] noncomputable def r08_Parse_p1 : Code := sB r08_Parse_p0

@[reducible] noncomputable def r08_Parse_p2 : Code := sB r08_Parse_p1

@[reducible] noncomputable def r08_Parse_p3 : Code := sB r08_Parse_p2

@[reducible] noncomputable def r08_Parse_p4 : Code := sB r08_Parse_p3

@[reducible] noncomputable def r08_Parse_p5 : Code := sB r08_Parse_p4

@[reducible] noncomputable def r08_Parse_p6 : Code := sB r08_Parse_p5

@[reducible] noncomputable def r08_Parse_p7 : Code := sB r08_Parse_p6

def r08_Parse_1 (Q : QT) (E : ET) (x5 : OA) (l5 : Nat) (c5 : Nat) (H : Heap) : Prop :=
 Q (.tuple #[(.slice x5 l5 c5), (.int .i64 0)]) H

def r08_Parse_1_M (Q : QT) (E : ET) (τ : Tau) (H : Heap) : Prop := mSl (τ 5) fun x5 l5 c5 => r08_Parse_1 Q E x5 l5 c5 H

theorem r08_Parse_2ok (Q : QT) (E : ET) (τ : Tau) (H : Heap) (h : r08_Parse_1_M Q E τ H) : vc Pr r08_Parse_p7 τ (r08_Parse_q1 Q E) E H :=
  vSl (i := 5) h (fun x5 l5 c5 h => (conv (by kernel_rfl) h))

@[reducible] noncomputable def r08_Parse_q2 (Q : QT) (E : ET) : Exit → Tau → Heap → Prop := (xthen (r08_Parse_1_M Q E) (r08_Parse_q1 Q E))

@[reducible] noncomputable def r08_Parse_p8 : Code := sA r08_Parse_p6

def r08_Parse_3 (Q : QT) (E : ET) (x4 : OA) (x5 : OA) (l5 : Nat) (c5 : Nat) (H : Heap) : Prop :=
 ptr x4 fun q17 =>
 ldI .i64 (Addr.add q17 3) H fun n18 =>
 sel ((n18 : Int) != 0)
 (ptr x4 fun q19 =>
 ldI .i64 (Addr.add q19 3) H fun n20 =>
 Q (.tuple #[(.slice none 0 0), (.int .i64 n20)]) H)
 (r08_Parse_1 Q E x5 l5 c5 H)

def r08_Parse_3_M (Q : QT) (E : ET) (τ : Tau) (H : Heap) : Prop := mP (τ 4) fun x4 => mSl (τ 5) fun x5 l5 c5 => r08_Parse_3 Q E x4 x5 l5 c5 H

theorem r08_Parse_4ok (Q : QT) (E : ET) (τ : Tau) (H : Heap) (h : r08_Parse_3_M Q E τ H) : vc Pr r08_Parse_p8 τ (r08_Parse_q2 Q E) E H :=
  vP (i := 4) h (fun x4 h => vSl (i := 5) h (fun x5 l5 c5 h => (conv (by kernel_rfl) h)))

theorem r08_Parse_5ok (Q : QT) (E : ET) (τ : Tau) (H : Heap) (h : r08_Parse_3_M Q E τ H) : vc Pr r08_Parse_p6 τ (r08_Parse_q1 Q E) E H :=
  (conv (B := vc Pr r08_Parse_p6 τ (r08_Parse_q1 Q E) E H) (by kernel_rfl) (vc_seq (K := (r08_Parse_1_M Q E)) (r08_Parse_4ok Q E τ H h) (r08_Parse_2ok Q E)))

@[reducible] noncomputable def r08_Parse_q3 (Q : QT) (E : ET) : Exit → Tau → Heap → Prop := (xthen (r08_Parse_3_M Q E) (r08_Parse_q1 Q E))

@[reducible] noncomputable def r08_Parse_p9 : Code := sA r08_Parse_p5

@[reducible] noncomputable def r08_Parse_p10 : Code := sB r08_Parse_p9

def r08_Parse_6 (Q : QT) (E : ET) (x4 : OA) (x5 : OA) (l5 : Nat) (c5 : Nat) (x39 : Bool) (H : Heap) : Prop :=
 sel x39
 (Does Pr 57 #[(.pointer x4), (.int .i64 1)] H (fun v22 H23 =>
 r08_Parse_3 Q E x4 x5 l5 c5 H23) E)
 (r08_Parse_3 Q E x4 x5 l5 c5 H)

def r08_Parse_6_M (Q : QT) (E : ET) (τ : Tau) (H : Heap) : Prop := mP (τ 4) fun x4 => mSl (τ 5) fun x5 l5 c5 => mB (τ 39) fun x39 => r08_Parse_6 Q E x4 x5 l5 c5 x39 H

theorem r08_Parse_7ok (Q : QT) (E : ET) (τ : Tau) (H : Heap) (h : r08_Parse_6_M Q E τ H) : vc Pr r08_Parse_p10 τ (r08_Parse_q3 Q E) E H :=
  vP (i := 4) h (fun x4 h => vSl (i := 5) h (fun x5 l5 c5 h => vB (i := 39) h (fun x39 h => (conv (by kernel_rfl) h))))

@[reducible] noncomputable def r08_Parse_q4 (Q : QT) (E : ET) : Exit → Tau → Heap → Prop := (xthen (r08_Parse_6_M Q E) (r08_Parse_q3 Q E))

@[reducible] noncomputable def r08_Parse_p11 : Code := sA r08_Parse_p9

def r08_Parse_8 (Q : QT) (E : ET) (x4 : OA) (x5 : OA) (l5 : Nat) (c5 : Nat) (H : Heap) : Prop :=
 ptr x4 fun q24 =>
 ldI .i64 (Addr.add q24 3) H fun n25 =>
 sel ((n25 : Int) == 0)
 (r08_Parse_6 Q E x4 x5 l5 c5 (decide ((((l5 : Nat) : Int) : Int) > 256)) H)
 (r08_Parse_6 Q E x4 x5 l5 c5 false H)

def r08_Parse_8_M (Q : QT) (E : ET) (τ : Tau) (H : Heap) : Prop := mP (τ 4) fun x4 => mSl (τ 5) fun x5 l5 c5 => r08_Parse_8 Q E x4 x5 l5 c5 H

theorem r08_Parse_9ok (Q : QT) (E : ET) (τ : Tau) (H : Heap) (h : r08_Parse_8_M Q E τ H) : vc Pr r08_Parse_p11 τ (r08_Parse_q4 Q E) E H :=
  vP (i := 4) h (fun x4 h => vSl (i := 5) h (fun x5 l5 c5 h => (conv (by kernel_rfl) h)))

theorem r08_Parse_10ok (Q : QT) (E : ET) (τ : Tau) (H : Heap) (h : r08_Parse_8_M Q E τ H) : vc Pr r08_Parse_p9 τ (r08_Parse_q3 Q E) E H :=
  (conv (B := vc Pr r08_Parse_p9 τ (r08_Parse_q3 Q E) E H) (by kernel_rfl) (vc_seq (K := (r08_Parse_6_M Q E)) (r08_Parse_9ok Q E τ H h) (r08_Parse_7ok Q E)))

theorem r08_Parse_11ok (Q : QT) (E : ET) (τ : Tau) (H : Heap) (h : r08_Parse_8_M Q E τ H) : vc Pr r08_Parse_p5 τ (r08_Parse_q1 Q E) E H :=
  (conv (B := vc Pr r08_Parse_p5 τ (r08_Parse_q1 Q E) E H) (by kernel_rfl) (vc_seq (K := (r08_Parse_3_M Q E)) (r08_Parse_10ok Q E τ H h) (r08_Parse_5ok Q E)))

@[reducible] noncomputable def r08_Parse_q5 (Q : QT) (E : ET) : Exit → Tau → Heap → Prop := (xthen (r08_Parse_8_M Q E) (r08_Parse_q1 Q E))

@[reducible] noncomputable def r08_Parse_p12 : Code := sA r08_Parse_p4

@[reducible] noncomputable def r08_Parse_p13 : Code := sB r08_Parse_p12

def r08_Parse_12 (Q : QT) (E : ET) (x4 : OA) (x5 : OA) (l5 : Nat) (c5 : Nat) (x27 : Bool) (H : Heap) : Prop :=
 sel x27
 (Does Pr 57 #[(.pointer x4), (.int .i64 83)] H (fun v28 H29 =>
 r08_Parse_8 Q E x4 x5 l5 c5 H29) E)
 (r08_Parse_8 Q E x4 x5 l5 c5 H)

def r08_Parse_12_M (Q : QT) (E : ET) (τ : Tau) (H : Heap) : Prop := mP (τ 4) fun x4 => mSl (τ 5) fun x5 l5 c5 => mB (τ 27) fun x27 => r08_Parse_12 Q E x4 x5 l5 c5 x27 H

theorem r08_Parse_13ok (Q : QT) (E : ET) (τ : Tau) (H : Heap) (h : r08_Parse_12_M Q E τ H) : vc Pr r08_Parse_p13 τ (r08_Parse_q5 Q E) E H :=
  vP (i := 4) h (fun x4 h => vSl (i := 5) h (fun x5 l5 c5 h => vB (i := 27) h (fun x27 h => (conv (by kernel_rfl) h))))

@[reducible] noncomputable def r08_Parse_q6 (Q : QT) (E : ET) : Exit → Tau → Heap → Prop := (xthen (r08_Parse_12_M Q E) (r08_Parse_q5 Q E))

@[reducible] noncomputable def r08_Parse_p14 : Code := sA r08_Parse_p12

def r08_Parse_14 (Q : QT) (E : ET) (x0 : ByteArray) (x4 : OA) (x5 : OA) (l5 : Nat) (c5 : Nat) (H : Heap) : Prop :=
 ptr x4 fun q30 =>
 ldI .i64 (Addr.add q30 3) H fun n31 =>
 sel ((n31 : Int) == 0)
 (ptr x4 fun q32 =>
 ldI .i64 (Addr.add q32 1) H fun n33 =>
 r08_Parse_12 Q E x4 x5 l5 c5 (decide ((n33 : Int) < ((ByteArray.size x0 : Nat) : Int))) H)
 (r08_Parse_12 Q E x4 x5 l5 c5 false H)

def r08_Parse_14_M (Q : QT) (E : ET) (τ : Tau) (H : Heap) : Prop := mS (τ 0) fun x0 => mP (τ 4) fun x4 => mSl (τ 5) fun x5 l5 c5 => r08_Parse_14 Q E x0 x4 x5 l5 c5 H

theorem r08_Parse_15ok (Q : QT) (E : ET) (τ : Tau) (H : Heap) (h : r08_Parse_14_M Q E τ H) : vc Pr r08_Parse_p14 τ (r08_Parse_q6 Q E) E H :=
  vS (i := 0) h (fun x0 h => vP (i := 4) h (fun x4 h => vSl (i := 5) h (fun x5 l5 c5 h => (conv (by kernel_rfl) h))))

theorem r08_Parse_16ok (Q : QT) (E : ET) (τ : Tau) (H : Heap) (h : r08_Parse_14_M Q E τ H) : vc Pr r08_Parse_p12 τ (r08_Parse_q5 Q E) E H :=
  (conv (B := vc Pr r08_Parse_p12 τ (r08_Parse_q5 Q E) E H) (by kernel_rfl) (vc_seq (K := (r08_Parse_12_M Q E)) (r08_Parse_15ok Q E τ H h) (r08_Parse_13ok Q E)))

theorem r08_Parse_17ok (Q : QT) (E : ET) (τ : Tau) (H : Heap) (h : r08_Parse_14_M Q E τ H) : vc Pr r08_Parse_p4 τ (r08_Parse_q1 Q E) E H :=
  (conv (B := vc Pr r08_Parse_p4 τ (r08_Parse_q1 Q E) E H) (by kernel_rfl) (vc_seq (K := (r08_Parse_8_M Q E)) (r08_Parse_16ok Q E τ H h) (r08_Parse_11ok Q E)))

@[reducible] noncomputable def r08_Parse_q7 (Q : QT) (E : ET) : Exit → Tau → Heap → Prop := (xthen (r08_Parse_14_M Q E) (r08_Parse_q1 Q E))

@[reducible] noncomputable def r08_Parse_p15 : Code := sA r08_Parse_p3

def r08_Parse_18 (Q : QT) (E : ET) (x0 : ByteArray) (x4 : OA) (H : Heap) : Prop :=
 Does Pr 56 #[(.pointer x4)] H (fun v34 H35 =>
 ∃ (p36 : OA) (l37 c38 : Nat), v34 = (.slice p36 l37 c38) ∧ r08_Parse_14 Q E x0 x4 p36 l37 c38 H35) E

def r08_Parse_18_M (Q : QT) (E : ET) (τ : Tau) (H : Heap) : Prop := mS (τ 0) fun x0 => mP (τ 4) fun x4 => r08_Parse_18 Q E x0 x4 H

theorem r08_Parse_19ok (Q : QT) (E : ET) (τ : Tau) (H : Heap) (h : r08_Parse_18_M Q E τ H) : vc Pr r08_Parse_p15 τ (r08_Parse_q7 Q E) E H :=
  vS (i := 0) h (fun x0 h => vP (i := 4) h (fun x4 h => (conv (by kernel_rfl) h)))

theorem r08_Parse_20ok (Q : QT) (E : ET) (τ : Tau) (H : Heap) (h : r08_Parse_18_M Q E τ H) : vc Pr r08_Parse_p3 τ (r08_Parse_q1 Q E) E H :=
  (conv (B := vc Pr r08_Parse_p3 τ (r08_Parse_q1 Q E) E H) (by kernel_rfl) (vc_seq (K := (r08_Parse_14_M Q E)) (r08_Parse_19ok Q E τ H h) (r08_Parse_17ok Q E)))

@[reducible] noncomputable def r08_Parse_q8 (Q : QT) (E : ET) : Exit → Tau → Heap → Prop := (xthen (r08_Parse_18_M Q E) (r08_Parse_q1 Q E))

@[reducible] noncomputable def r08_Parse_p16 : Code := sA r08_Parse_p2

def r08_Parse_21 (Q : QT) (E : ET) (x0 : ByteArray) (H : Heap) : Prop :=
 nw (.cells #[(.string x0), (.int .i64 0), (.int .i64 0), (.int .i64 0)] 83 (0, 0)) H fun i39 H40 =>
 r08_Parse_18 Q E x0 (some ⟨i39, 0, none⟩) H40

def r08_Parse_21_M (Q : QT) (E : ET) (τ : Tau) (H : Heap) : Prop := mS (τ 0) fun x0 => r08_Parse_21 Q E x0 H

theorem r08_Parse_22ok (Q : QT) (E : ET) (τ : Tau) (H : Heap) (h : r08_Parse_21_M Q E τ H) : vc Pr r08_Parse_p16 τ (r08_Parse_q8 Q E) E H :=
  vS (i := 0) h (fun x0 h => (conv (by kernel_rfl) h))

theorem r08_Parse_23ok (Q : QT) (E : ET) (τ : Tau) (H : Heap) (h : r08_Parse_21_M Q E τ H) : vc Pr r08_Parse_p2 τ (r08_Parse_q1 Q E) E H :=
  (conv (B := vc Pr r08_Parse_p2 τ (r08_Parse_q1 Q E) E H) (by kernel_rfl) (vc_seq (K := (r08_Parse_18_M Q E)) (r08_Parse_22ok Q E τ H h) (r08_Parse_20ok Q E)))

@[reducible] noncomputable def r08_Parse_q9 (Q : QT) (E : ET) : Exit → Tau → Heap → Prop := (xthen (r08_Parse_21_M Q E) (r08_Parse_q1 Q E))

@[reducible] noncomputable def r08_Parse_p17 : Code := sA r08_Parse_p1

def r08_Parse_24 (Q : QT) (E : ET) (x0 : ByteArray) (H : Heap) : Prop :=
 sel (decide ((((ByteArray.size x0 : Nat) : Int) : Int) > 128))
 (Q (.tuple #[(.slice none 0 0), (.int .i64 1)]) H)
 (r08_Parse_21 Q E x0 H)

def r08_Parse_24_M (Q : QT) (E : ET) (τ : Tau) (H : Heap) : Prop := mS (τ 0) fun x0 => r08_Parse_24 Q E x0 H

theorem r08_Parse_25ok (Q : QT) (E : ET) (τ : Tau) (H : Heap) (h : r08_Parse_24_M Q E τ H) : vc Pr r08_Parse_p17 τ (r08_Parse_q9 Q E) E H :=
  vS (i := 0) h (fun x0 h => (conv (by kernel_rfl) h))

theorem r08_Parse_26ok (Q : QT) (E : ET) (τ : Tau) (H : Heap) (h : r08_Parse_24_M Q E τ H) : vc Pr r08_Parse_p1 τ (r08_Parse_q1 Q E) E H :=
  (conv (B := vc Pr r08_Parse_p1 τ (r08_Parse_q1 Q E) E H) (by kernel_rfl) (vc_seq (K := (r08_Parse_21_M Q E)) (r08_Parse_25ok Q E τ H h) (r08_Parse_23ok Q E)))

@[reducible] noncomputable def r08_Parse_q10 (Q : QT) (E : ET) : Exit → Tau → Heap → Prop := (xthen (r08_Parse_24_M Q E) (r08_Parse_q1 Q E))

@[reducible] noncomputable def r08_Parse_p18 : Code := sA r08_Parse_p0

def r08_Parse (Q : QT) (E : ET) (a0 : ByteArray) (H : Heap) : Prop :=
 r08_Parse_24 Q E a0 H

theorem r08_Parse_fn (a0 : ByteArray) (Q : QT) (E : ET) (H : Heap) (h : r08_Parse Q E a0 H)   : Does Pr 23 #[(.string a0)] H Q E :=
  Fn_of_vc (fn := Try.f23) (c := r08_Parse_p0) (args := [(.string a0)]) mixed (by kernel_rfl) (by kernel_rfl) (by kernel_rfl) (by kernel_rfl) (by kernel_rfl) ((conv (B := vc Pr r08_Parse_p0 (argT [(.string a0)]) (r08_Parse_q1 Q E) E H) (by kernel_rfl) (vc_seq (K := (r08_Parse_24_M Q E)) (conv (B := vc Pr r08_Parse_p18 (argT [(.string a0)]) (r08_Parse_q10 Q E) E H) (by kernel_rfl) h) (r08_Parse_26ok Q E))))

/-! jobmux/jobmuxref08.Kids -/
@[reducible] noncomputable def r08_Kids_q1 (Q : QT) (E : ET) : Exit → Tau → Heap → Prop := (retQ Pr (Try.f42).results.toList Q)

@[reducible] noncomputable def r08_Kids_p0 : Code := bodyOf Try.f42

@[reducible] noncomputable def r08_Kids_p1 : Code := sB r08_Kids_p0

@[reducible] noncomputable def r08_Kids_p2 : Code := sB r08_Kids_p1

def r08_Kids_1 (Q : QT) (E : ET)  (H : Heap) : Prop :=
 Q (.int .i64 0) H

def r08_Kids_1_M (Q : QT) (E : ET) (τ : Tau) (H : Heap) : Prop := r08_Kids_1 Q E  H

theorem r08_Kids_2ok (Q : QT) (E : ET) (τ : Tau) (H : Heap) (h : r08_Kids_1_M Q E τ H) : vc Pr r08_Kids_p2 τ (r08_Kids_q1 Q E) E H :=
  (conv (B := vc Pr r08_Kids_p2 τ (r08_Kids_q1 Q E) E H) (by kernel_rfl) h)

@[reducible] noncomputable def r08_Kids_q2 (Q : QT) (E : ET) : Exit → Tau → Heap → Prop := (xthen (r08_Kids_1_M Q E) (r08_Kids_q1 Q E))

@[reducible] noncomputable def r08_Kids_p3 : Code := sA r08_Kids_p1

@[reducible] noncomputable def r08_Kids_p4 : Code := sB r08_Kids_p3

@[reducible] noncomputable def r08_Kids_q3 (Q : QT) (E : ET) : Exit → Tau → Heap → Prop := (xblock 0 (r08_Kids_q2 Q E))

@[reducible] noncomputable def r08_Kids_p5 : Code := sI r08_Kids_p4

@[reducible] noncomputable def r08_Kids_p6 : Code := sB r08_Kids_p5

@[reducible] noncomputable def r08_Kids_p7 : Code := sT r08_Kids_p6

def r08_Kids_3 (Q : QT) (E : ET)  (H : Heap) : Prop :=
 Q (.int .i64 2) H

def r08_Kids_3_M (Q : QT) (E : ET) (τ : Tau) (H : Heap) : Prop := r08_Kids_3 Q E  H

theorem r08_Kids_4ok (Q : QT) (E : ET) (τ : Tau) (H : Heap) (h : r08_Kids_3_M Q E τ H) : vc Pr r08_Kids_p7 τ (r08_Kids_q3 Q E) E H :=
  (conv (B := vc Pr r08_Kids_p7 τ (r08_Kids_q3 Q E) E H) (by kernel_rfl) h)

@[reducible] noncomputable def r08_Kids_p8 : Code := sE r08_Kids_p6

@[reducible] noncomputable def r08_Kids_p9 : Code := sB r08_Kids_p8

def r08_Kids_5 (Q : QT) (E : ET) (x7 : Bool) (H : Heap) : Prop :=
 sel x7
 (Q (.int .i64 1) H)
 (r08_Kids_1 Q E  H)

def r08_Kids_5_M (Q : QT) (E : ET) (τ : Tau) (H : Heap) : Prop := mB (τ 7) fun x7 => r08_Kids_5 Q E x7 H

theorem r08_Kids_6ok (Q : QT) (E : ET) (τ : Tau) (H : Heap) (h : r08_Kids_5_M Q E τ H) : vc Pr r08_Kids_p9 τ (r08_Kids_q3 Q E) E H :=
  vB (i := 7) h (fun x7 h => (conv (by kernel_rfl) h))

@[reducible] noncomputable def r08_Kids_q4 (Q : QT) (E : ET) : Exit → Tau → Heap → Prop := (xthen (r08_Kids_5_M Q E) (r08_Kids_q3 Q E))

@[reducible] noncomputable def r08_Kids_p10 : Code := sA r08_Kids_p8

def r08_Kids_7 (Q : QT) (E : ET) (x3 : Int) (H : Heap) : Prop :=
 sel ((x3 : Int) == 5)
 (r08_Kids_5 Q E ((x3 : Int) == 5) H)
 (sel ((x3 : Int) == 6)
 (r08_Kids_5 Q E ((x3 : Int) == 6) H)
 (r08_Kids_5 Q E ((x3 : Int) == 7) H))

def r08_Kids_7_M (Q : QT) (E : ET) (τ : Tau) (H : Heap) : Prop := mI .i64 (τ 3) fun x3 => r08_Kids_7 Q E x3 H

theorem r08_Kids_8ok (Q : QT) (E : ET) (τ : Tau) (H : Heap) (h : r08_Kids_7_M Q E τ H) : vc Pr r08_Kids_p10 τ (r08_Kids_q4 Q E) E H :=
  vI (i := 3) h (fun x3 h => (conv (by kernel_rfl) h))

theorem r08_Kids_9ok (Q : QT) (E : ET) (τ : Tau) (H : Heap) (h : r08_Kids_7_M Q E τ H) : vc Pr r08_Kids_p8 τ (r08_Kids_q3 Q E) E H :=
  (conv (B := vc Pr r08_Kids_p8 τ (r08_Kids_q3 Q E) E H) (by kernel_rfl) (vc_seq (K := (r08_Kids_5_M Q E)) (r08_Kids_8ok Q E τ H h) (r08_Kids_6ok Q E)))

def r08_Kids_10 (Q : QT) (E : ET) (x3 : Int) (x4 : Bool) (H : Heap) : Prop :=
 sel x4
 (r08_Kids_3 Q E  H)
 (r08_Kids_7 Q E x3 H)

def r08_Kids_10_M (Q : QT) (E : ET) (τ : Tau) (H : Heap) : Prop := mI .i64 (τ 3) fun x3 => mB (τ 4) fun x4 => r08_Kids_10 Q E x3 x4 H

theorem r08_Kids_11ok (Q : QT) (E : ET) (τ : Tau) (H : Heap) (h : r08_Kids_10_M Q E τ H) : vc Pr r08_Kids_p6 τ (r08_Kids_q3 Q E) E H :=
  vI (i := 3) h (fun x3 h => vB (i := 4) h (fun x4 h => (conv (B := vc Pr r08_Kids_p6 (Tau.upd (Tau.upd τ 3 (.int .i64 x3)) 4 (.bool x4)) (r08_Kids_q3 Q E) E H) (by kernel_rfl) (sel_map (r08_Kids_4ok Q E (Tau.upd (Tau.upd τ 3 (.int .i64 x3)) 4 (.bool x4)) H) (r08_Kids_9ok Q E (Tau.upd (Tau.upd τ 3 (.int .i64 x3)) 4 (.bool x4)) H) (conv (B := sel x4 (r08_Kids_3_M Q E (Tau.upd (Tau.upd τ 3 (.int .i64 x3)) 4 (.bool x4)) H) (r08_Kids_7_M Q E (Tau.upd (Tau.upd τ 3 (.int .i64 x3)) 4 (.bool x4)) H)) (by kernel_rfl) h)))))

@[reducible] noncomputable def r08_Kids_q5 (Q : QT) (E : ET) : Exit → Tau → Heap → Prop := (xthen (r08_Kids_10_M Q E) (r08_Kids_q3 Q E))

@[reducible] noncomputable def r08_Kids_p11 : Code := sA r08_Kids_p5

def r08_Kids_12 (Q : QT) (E : ET) (x3 : Int) (H : Heap) : Prop :=
 sel ((x3 : Int) == 3)
 (r08_Kids_10 Q E x3 ((x3 : Int) == 3) H)
 (r08_Kids_10 Q E x3 ((x3 : Int) == 4) H)

def r08_Kids_12_M (Q : QT) (E : ET) (τ : Tau) (H : Heap) : Prop := mI .i64 (τ 3) fun x3 => r08_Kids_12 Q E x3 H

theorem r08_Kids_13ok (Q : QT) (E : ET) (τ : Tau) (H : Heap) (h : r08_Kids_12_M Q E τ H) : vc Pr r08_Kids_p11 τ (r08_Kids_q5 Q E) E H :=
  vI (i := 3) h (fun x3 h => (conv (by kernel_rfl) h))

theorem r08_Kids_14ok (Q : QT) (E : ET) (τ : Tau) (H : Heap) (h : r08_Kids_12_M Q E τ H) : vc Pr r08_Kids_p5 τ (r08_Kids_q3 Q E) E H :=
  (conv (B := vc Pr r08_Kids_p5 τ (r08_Kids_q3 Q E) E H) (by kernel_rfl) (vc_seq (K := (r08_Kids_10_M Q E)) (r08_Kids_13ok Q E τ H h) (r08_Kids_11ok Q E)))

theorem r08_Kids_15ok (Q : QT) (E : ET) (τ : Tau) (H : Heap) (h : r08_Kids_12_M Q E τ H) : vc Pr r08_Kids_p4 τ (r08_Kids_q2 Q E) E H :=
  (conv (B := vc Pr r08_Kids_p4 τ (r08_Kids_q2 Q E) E H) (by kernel_rfl) (r08_Kids_14ok Q E τ H h))

@[reducible] noncomputable def r08_Kids_q6 (Q : QT) (E : ET) : Exit → Tau → Heap → Prop := (xthen (r08_Kids_12_M Q E) (r08_Kids_q2 Q E))

@[reducible] noncomputable def r08_Kids_p12 : Code := sA r08_Kids_p3

def r08_Kids_16 (Q : QT) (E : ET) (x0 : Int) (H : Heap) : Prop :=
 r08_Kids_12 Q E x0 H

def r08_Kids_16_M (Q : QT) (E : ET) (τ : Tau) (H : Heap) : Prop := mI .i64 (τ 0) fun x0 => r08_Kids_16 Q E x0 H

theorem r08_Kids_17ok (Q : QT) (E : ET) (τ : Tau) (H : Heap) (h : r08_Kids_16_M Q E τ H) : vc Pr r08_Kids_p12 τ (r08_Kids_q6 Q E) E H :=
  vI (i := 0) h (fun x0 h => (conv (by kernel_rfl) h))

theorem r08_Kids_18ok (Q : QT) (E : ET) (τ : Tau) (H : Heap) (h : r08_Kids_16_M Q E τ H) : vc Pr r08_Kids_p3 τ (r08_Kids_q2 Q E) E H :=
  (conv (B := vc Pr r08_Kids_p3 τ (r08_Kids_q2 Q E) E H) (by kernel_rfl) (vc_seq (K := (r08_Kids_12_M Q E)) (r08_Kids_17ok Q E τ H h) (r08_Kids_15ok Q E)))

theorem r08_Kids_19ok (Q : QT) (E : ET) (τ : Tau) (H : Heap) (h : r08_Kids_16_M Q E τ H) : vc Pr r08_Kids_p1 τ (r08_Kids_q1 Q E) E H :=
  (conv (B := vc Pr r08_Kids_p1 τ (r08_Kids_q1 Q E) E H) (by kernel_rfl) (vc_seq (K := (r08_Kids_1_M Q E)) (r08_Kids_18ok Q E τ H h) (r08_Kids_2ok Q E)))

@[reducible] noncomputable def r08_Kids_q7 (Q : QT) (E : ET) : Exit → Tau → Heap → Prop := (xthen (r08_Kids_16_M Q E) (r08_Kids_q1 Q E))

@[reducible] noncomputable def r08_Kids_p13 : Code := sA r08_Kids_p0

def r08_Kids (Q : QT) (E : ET) (a0 : Int) (H : Heap) : Prop :=
 r08_Kids_16 Q E a0 H

theorem r08_Kids_fn (a0 : Int) (Q : QT) (E : ET) (H : Heap) (h : r08_Kids Q E a0 H)   : Does Pr 42 #[(.int .i64 a0)] H Q E :=
  Fn_of_vc (fn := Try.f42) (c := r08_Kids_p0) (args := [(.int .i64 a0)]) mixed (by kernel_rfl) (by kernel_rfl) (by kernel_rfl) (by kernel_rfl) (by kernel_rfl) ((conv (B := vc Pr r08_Kids_p0 (argT [(.int .i64 a0)]) (r08_Kids_q1 Q E) E H) (by kernel_rfl) (vc_seq (K := (r08_Kids_16_M Q E)) (conv (B := vc Pr r08_Kids_p13 (argT [(.int .i64 a0)]) (r08_Kids_q7 Q E) E H) (by kernel_rfl) h) (r08_Kids_19ok Q E))))

/-! (*jobmux/jobmuxref08.parser).alt -/
@[reducible] noncomputable def r08_parser_alt_q1 (Q : QT) (E : ET) : Exit → Tau → Heap → Prop := (retQ Pr (Try.f56).results.toList Q)

@[reducible] noncomputable def r08_parser_alt_p0 : Code := bodyOf Try.f56

@[reducible] noncomputable def r08_parser_alt_p1 : Code := sB r08_parser_alt_p0

@[reducible] noncomputable def r08_parser_alt_p2 : Code := sB r08_parser_alt_p1

@[reducible] noncomputable def r08_parser_alt_p3 : Code := sB r08_parser_alt_p2

def r08_parser_alt_1 (Q : QT) (E : ET) (x3 : OA) (l3 : Nat) (c3 : Nat) (H : Heap) : Prop :=
 Q (.slice x3 l3 c3) H

def r08_parser_alt_1_M (Q : QT) (E : ET) (τ : Tau) (H : Heap) : Prop := mSl (τ 3) fun x3 l3 c3 => r08_parser_alt_1 Q E x3 l3 c3 H

theorem r08_parser_alt_2ok (Q : QT) (E : ET) (τ : Tau) (H : Heap) (h : r08_parser_alt_1_M Q E τ H) : vc Pr r08_parser_alt_p3 τ (r08_parser_alt_q1 Q E) E H :=
  vSl (i := 3) h (fun x3 l3 c3 h => (conv (by kernel_rfl) h))

@[reducible] noncomputable def r08_parser_alt_q2 (Q : QT) (E : ET) : Exit → Tau → Heap → Prop := (xthen (r08_parser_alt_1_M Q E) (r08_parser_alt_q1 Q E))

@[reducible] noncomputable def r08_parser_alt_p4 : Code := sA r08_parser_alt_p2

@[reducible] noncomputable def r08_parser_alt_q3 (Q : QT) (E : ET) : Exit → Tau → Heap → Prop := (xblock 0 (r08_parser_alt_q2 Q E))

@[reducible] noncomputable def r08_parser_alt_p5 : Code := sI r08_parser_alt_p4

@[reducible] noncomputable def r08_parser_alt_q4 (nx29 : Option Addr → Nat → Nat → HP) (Q : QT) (E : ET) : Exit → Tau → Heap → Prop := (xthen (fun τ H => mSl (τ 3) fun x3' l3' c3' => nx29 x3' l3' c3' H) (r08_parser_alt_q3 Q E))

@[reducible] noncomputable def r08_parser_alt_p6 : Code := sI r08_parser_alt_p5

@[reducible] noncomputable def r08_parser_alt_p7 : Code := sB r08_parser_alt_p6

@[reducible] noncomputable def r08_parser_alt_q5 (nx29 : Option Addr → Nat → Nat → HP) (Q : QT) (E : ET) : Exit → Tau → Heap → Prop := (xblock 1 (r08_parser_alt_q4 nx29 Q E))

@[reducible] noncomputable def r08_parser_alt_p8 : Code := sI r08_parser_alt_p7

@[reducible] noncomputable def r08_parser_alt_p9 : Code := sB r08_parser_alt_p8

@[reducible] noncomputable def r08_parser_alt_p10 : Code := sB r08_parser_alt_p9

@[reducible] noncomputable def r08_parser_alt_p11 : Code := sB r08_parser_alt_p10

def r08_parser_alt_3 (nx29 : Option Addr → Nat → Nat → HP) (Q : QT) (E : ET) (x0 : OA) (x3 : OA) (l3 : Nat) (c3 : Nat) (x4 : OA) (l4 : Nat) (c4 : Nat) (H : Heap) : Prop :=
 Does Pr 91 #[(.int .i64 4), (.slice x3 l3 c3), (.slice x4 l4 c4)] H (fun v48 H49 =>
 ∃ (p50 : OA) (l51 c52 : Nat), v48 = (.slice p50 l51 c52) ∧ nx29 p50 l51 c52 H49) E

def r08_parser_alt_3_M (nx29 : Option Addr → Nat → Nat → HP) (Q : QT) (E : ET) (τ : Tau) (H : Heap) : Prop := mP (τ 0) fun x0 => mSl (τ 3) fun x3 l3 c3 => mSl (τ 4) fun x4 l4 c4 => r08_parser_alt_3 nx29 Q E x0 x3 l3 c3 x4 l4 c4 H

theorem r08_parser_alt_4ok (nx29 : Option Addr → Nat → Nat → HP) (Q : QT) (E : ET) (τ : Tau) (H : Heap) (h : r08_parser_alt_3_M nx29 Q E τ H) : vc Pr r08_parser_alt_p11 τ (r08_parser_alt_q5 nx29 Q E) E H :=
  vP (i := 0) h (fun x0 h => vSl (i := 3) h (fun x3 l3 c3 h => vSl (i := 4) h (fun x4 l4 c4 h => (conv (by kernel_rfl) h))))

@[reducible] noncomputable def r08_parser_alt_q6 (nx29 : Option Addr → Nat → Nat → HP) (Q : QT) (E : ET) : Exit → Tau → Heap → Prop := (xthen (r08_parser_alt_3_M nx29 Q E) (r08_parser_alt_q5 nx29 Q E))

@[reducible] noncomputable def r08_parser_alt_p12 : Code := sA r08_parser_alt_p10

def r08_parser_alt_5 (nx29 : Option Addr → Nat → Nat → HP) (Q : QT) (E : ET) (x0 : OA) (x3 : OA) (l3 : Nat) (c3 : Nat) (x4 : OA) (l4 : Nat) (c4 : Nat) (H : Heap) : Prop :=
 ptr x0 fun q53 =>
 ldI .i64 (Addr.add q53 3) H fun n54 =>
 sel ((n54 : Int) != 0)
 (Q (.slice none 0 0) H)
 (r08_parser_alt_3 nx29 Q E x0 x3 l3 c3 x4 l4 c4 H)

def r08_parser_alt_5_M (nx29 : Option Addr → Nat → Nat → HP) (Q : QT) (E : ET) (τ : Tau) (H : Heap) : Prop := mP (τ 0) fun x0 => mSl (τ 3) fun x3 l3 c3 => mSl (τ 4) fun x4 l4 c4 => r08_parser_alt_5 nx29 Q E x0 x3 l3 c3 x4 l4 c4 H

theorem r08_parser_alt_6ok (nx29 : Option Addr → Nat → Nat → HP) (Q : QT) (E : ET) (τ : Tau) (H : Heap) (h : r08_parser_alt_5_M nx29 Q E τ H) : vc Pr r08_parser_alt_p12 τ (r08_parser_alt_q6 nx29 Q E) E H :=
  vP (i := 0) h (fun x0 h => vSl (i := 3) h (fun x3 l3 c3 h => vSl (i := 4) h (fun x4 l4 c4 h => (conv (by kernel_rfl) h))))

theorem r08_parser_alt_7ok (nx29 : Option Addr → Nat → Nat → HP) (Q : QT) (E : ET) (τ : Tau) (H : Heap) (h : r08_parser_alt_5_M nx29 Q E τ H) : vc Pr r08_parser_alt_p10 τ (r08_parser_alt_q5 nx29 Q E) E H :=
  (conv (B := vc Pr r08_parser_alt_p10 τ (r08_parser_alt_q5 nx29 Q E) E H) (by kernel_rfl) (vc_seq (K := (r08_parser_alt_3_M nx29 Q E)) (r08_parser_alt_6ok nx29 Q E τ H h) (r08_parser_alt_4ok nx29 Q E)))

@[reducible] noncomputable def r08_parser_alt_q7 (nx29 : Option Addr → Nat → Nat → HP) (Q : QT) (E : ET) : Exit → Tau → Heap → Prop := (xthen (r08_parser_alt_5_M nx29 Q E) (r08_parser_alt_q5 nx29 Q E))

@[reducible] noncomputable def r08_parser_alt_p13 : Code := sA r08_parser_alt_p9

def r08_parser_alt_8 (nx29 : Option Addr → Nat → Nat → HP) (Q : QT) (E : ET) (x0 : OA) (x3 : OA) (l3 : Nat) (c3 : Nat) (H : Heap) : Prop :=
 Does Pr 89 #[(.pointer x0)] H (fun v55 H56 =>
 ∃ (p57 : OA) (l58 c59 : Nat), v55 = (.slice p57 l58 c59) ∧ r08_parser_alt_5 nx29 Q E x0 x3 l3 c3 p57 l58 c59 H56) E

def r08_parser_alt_8_M (nx29 : Option Addr → Nat → Nat → HP) (Q : QT) (E : ET) (τ : Tau) (H : Heap) : Prop := mP (τ 0) fun x0 => mSl (τ 3) fun x3 l3 c3 => r08_parser_alt_8 nx29 Q E x0 x3 l3 c3 H

theorem r08_parser_alt_9ok (nx29 : Option Addr → Nat → Nat → HP) (Q : QT) (E : ET) (τ : Tau) (H : Heap) (h : r08_parser_alt_8_M nx29 Q E τ H) : vc Pr r08_parser_alt_p13 τ (r08_parser_alt_q7 nx29 Q E) E H :=
  vP (i := 0) h (fun x0 h => vSl (i := 3) h (fun x3 l3 c3 h => (conv (by kernel_rfl) h)))

theorem r08_parser_alt_10ok (nx29 : Option Addr → Nat → Nat → HP) (Q : QT) (E : ET) (τ : Tau) (H : Heap) (h : r08_parser_alt_8_M nx29 Q E τ H) : vc Pr r08_parser_alt_p9 τ (r08_parser_alt_q5 nx29 Q E) E H :=
  (conv (B := vc Pr r08_parser_alt_p9 τ (r08_parser_alt_q5 nx29 Q E) E H) (by kernel_rfl) (vc_seq (K := (r08_parser_alt_5_M nx29 Q E)) (r08_parser_alt_9ok nx29 Q E τ H h) (r08_parser_alt_7ok nx29 Q E)))

@[reducible] noncomputable def r08_parser_alt_q8 (nx29 : Option Addr → Nat → Nat → HP) (Q : QT) (E : ET) : Exit → Tau → Heap → Prop := (xthen (r08_parser_alt_8_M nx29 Q E) (r08_parser_alt_q5 nx29 Q E))

@[reducible] noncomputable def r08_parser_alt_p14 : Code := sA r08_parser_alt_p8

def r08_parser_alt_11 (nx29 : Option Addr → Nat → Nat → HP) (Q : QT) (E : ET) (x0 : OA) (x3 : OA) (l3 : Nat) (c3 : Nat) (H : Heap) : Prop :=
 ptr x0 fun q60 =>
 ldI .i64 (Addr.add q60 1) H fun n61 =>
 ptr x0 fun q62 =>
 wr (Addr.add q62 1) [(.int .i64 (IntKind.wrap .i64 (n61 + 1)))] H fun H63 =>
 r08_parser_alt_8 nx29 Q E x0 x3 l3 c3 H63

def r08_parser_alt_11_M (nx29 : Option Addr → Nat → Nat → HP) (Q : QT) (E : ET) (τ : Tau) (H : Heap) : Prop := mP (τ 0) fun x0 => mSl (τ 3) fun x3 l3 c3 => r08_parser_alt_11 nx29 Q E x0 x3 l3 c3 H

theorem r08_parser_alt_12ok (nx29 : Option Addr → Nat → Nat → HP) (Q : QT) (E : ET) (τ : Tau) (H : Heap) (h : r08_parser_alt_11_M nx29 Q E τ H) : vc Pr r08_parser_alt_p14 τ (r08_parser_alt_q8 nx29 Q E) E H :=
  vP (i := 0) h (fun x0 h => vSl (i := 3) h (fun x3 l3 c3 h => (conv (by kernel_rfl) h)))

theorem r08_parser_alt_13ok (nx29 : Option Addr → Nat → Nat → HP) (Q : QT) (E : ET) (τ : Tau) (H : Heap) (h : r08_parser_alt_11_M nx29 Q E τ H) : vc Pr r08_parser_alt_p8 τ (r08_parser_alt_q5 nx29 Q E) E H :=
  (conv (B := vc Pr r08_parser_alt_p8 τ (r08_parser_alt_q5 nx29 Q E) E H) (by kernel_rfl) (vc_seq (K := (r08_parser_alt_8_M nx29 Q E)) (r08_parser_alt_12ok nx29 Q E τ H h) (r08_parser_alt_10ok nx29 Q E)))

theorem r08_parser_alt_14ok (nx29 : Option Addr → Nat → Nat → HP) (Q : QT) (E : ET) (τ : Tau) (H : Heap) (h : r08_parser_alt_11_M nx29 Q E τ H) : vc Pr r08_parser_alt_p7 τ (r08_parser_alt_q4 nx29 Q E) E H :=
  (conv (B := vc Pr r08_parser_alt_p7 τ (r08_parser_alt_q4 nx29 Q E) E H) (by kernel_rfl) (r08_parser_alt_13ok nx29 Q E τ H h))

@[reducible] noncomputable def r08_parser_alt_q9 (nx29 : Option Addr → Nat → Nat → HP) (Q : QT) (E : ET) : Exit → Tau → Heap → Prop := (xthen (r08_parser_alt_11_M nx29 Q E) (r08_parser_alt_q4 nx29 Q E))

@[reducible] noncomputable def r08_parser_alt_p15 : Code := sA r08_parser_alt_p6

@[reducible] noncomputable def r08_parser_alt_p16 : Code := sB r08_parser_alt_p15

def r08_parser_alt_15 (nx29 : Option Addr → Nat → Nat → HP) (Q : QT) (E : ET) (x0 : OA) (x3 : OA) (l3 : Nat) (c3 : Nat) (x20 : Bool) (H : Heap) : Prop :=
 sel x20
 (r08_parser_alt_11 nx29 Q E x0 x3 l3 c3 H)
 (r08_parser_alt_1 Q E x3 l3 c3 H)

def r08_parser_alt_15_M (nx29 : Option Addr → Nat → Nat → HP) (Q : QT) (E : ET) (τ : Tau) (H : Heap) : Prop := mP (τ 0) fun x0 => mSl (τ 3) fun x3 l3 c3 => mB (τ 20) fun x20 => r08_parser_alt_15 nx29 Q E x0 x3 l3 c3 x20 H

theorem r08_parser_alt_16ok (nx29 : Option Addr → Nat → Nat → HP) (Q : QT) (E : ET) (τ : Tau) (H : Heap) (h : r08_parser_alt_15_M nx29 Q E τ H) : vc Pr r08_parser_alt_p16 τ (r08_parser_alt_q9 nx29 Q E) E H :=
  vP (i := 0) h (fun x0 h => vSl (i := 3) h (fun x3 l3 c3 h => vB (i := 20) h (fun x20 h => (conv (by kernel_rfl) h))))

@[reducible] noncomputable def r08_parser_alt_q10 (nx29 : Option Addr → Nat → Nat → HP) (Q : QT) (E : ET) : Exit → Tau → Heap → Prop := (xthen (r08_parser_alt_15_M nx29 Q E) (r08_parser_alt_q9 nx29 Q E))

@[reducible] noncomputable def r08_parser_alt_p17 : Code := sA r08_parser_alt_p15

def r08_parser_alt_17 (nx29 : Option Addr → Nat → Nat → HP) (Q : QT) (E : ET) (x0 : OA) (x3 : OA) (l3 : Nat) (c3 : Nat) (H : Heap) : Prop :=
 Does Pr 90 #[(.pointer x0)] H (fun v71 H72 =>
 ∃ b73 : Bool, v71 = (.bool b73) ∧ sel b73
 (ptr x0 fun q74 =>
 ldS q74 H72 fun s75 =>
 ptr x0 fun q76 =>
 ldI .i64 (Addr.add q76 1) H72 fun n77 =>
 (0 ≤ (n77 : Int) ∧ (n77 : Int) < ((ByteArray.size s75 : Nat) : Int)) ∧ r08_parser_alt_15 nx29 Q E x0 x3 l3 c3 (((sAt s75 n77) : Int) == 124) H72)
 (r08_parser_alt_15 nx29 Q E x0 x3 l3 c3 false H72)) (fun _ _ => False)

def r08_parser_alt_17_M (nx29 : Option Addr → Nat → Nat → HP) (Q : QT) (E : ET) (τ : Tau) (H : Heap) : Prop := mP (τ 0) fun x0 => mSl (τ 3) fun x3 l3 c3 => r08_parser_alt_17 nx29 Q E x0 x3 l3 c3 H

theorem r08_parser_alt_18ok (nx29 : Option Addr → Nat → Nat → HP) (Q : QT) (E : ET) (τ : Tau) (H : Heap) (h : r08_parser_alt_17_M nx29 Q E τ H) : vc Pr r08_parser_alt_p17 τ (r08_parser_alt_q10 nx29 Q E) E H :=
  vP (i := 0) h (fun x0 h => vSl (i := 3) h (fun x3 l3 c3 h => (conv (by kernel_rfl) h)))

theorem r08_parser_alt_19ok (nx29 : Option Addr → Nat → Nat → HP) (Q : QT) (E : ET) (τ : Tau) (H : Heap) (h : r08_parser_alt_17_M nx29 Q E τ H) : vc Pr r08_parser_alt_p15 τ (r08_parser_alt_q9 nx29 Q E) E H :=
  (conv (B := vc Pr r08_parser_alt_p15 τ (r08_parser_alt_q9 nx29 Q E) E H) (by kernel_rfl) (vc_seq (K := (r08_parser_alt_15_M nx29 Q E)) (r08_parser_alt_18ok nx29 Q E τ H h) (r08_parser_alt_16ok nx29 Q E)))

theorem r08_parser_alt_20ok (nx29 : Option Addr → Nat → Nat → HP) (Q : QT) (E : ET) (τ : Tau) (H : Heap) (h : r08_parser_alt_17_M nx29 Q E τ H) : vc Pr r08_parser_alt_p6 τ (r08_parser_alt_q4 nx29 Q E) E H :=
  (conv (B := vc Pr r08_parser_alt_p6 τ (r08_parser_alt_q4 nx29 Q E) E H) (by kernel_rfl) (vc_seq (K := (r08_parser_alt_11_M nx29 Q E)) (r08_parser_alt_19ok nx29 Q E τ H h) (r08_parser_alt_14ok nx29 Q E)))

def r08_parser_alt_21 (Q : QT) (E : ET) (x0 : OA) (x3 : OA) (l3 : Nat) (c3 : Nat) (H : Heap) : Prop :=
 ∃ (I : Option Addr → Nat → Nat → HP) (μ : Option Addr → Nat → Nat → Heap → Nat), I x3 l3 c3 H ∧ ∀ (x3 : OA) (l3 : Nat) (c3 : Nat) (H : Heap), I x3 l3 c3 H →
 r08_parser_alt_17 (fun x3' l3' c3' H1 => I x3' l3' c3' H1 ∧ μ x3' l3' c3' H1 < μ x3 l3 c3 H) Q E x0 x3 l3 c3 H

def r08_parser_alt_21_M (Q : QT) (E : ET) (τ : Tau) (H : Heap) : Prop := mP (τ 0) fun x0 => mSl (τ 3) fun x3 l3 c3 => r08_parser_alt_21 Q E x0 x3 l3 c3 H

theorem r08_parser_alt_22ok (Q : QT) (E : ET) (τ : Tau) (H : Heap) (h : r08_parser_alt_21_M Q E τ H) : vc Pr r08_parser_alt_p5 τ (r08_parser_alt_q3 Q E) E H :=
  vP (i := 0) h (fun x0 h => vSl (i := 3) h (fun x3 l3 c3 h => match h with | ⟨I, μ, h0, hr⟩ => (conv (B := vc Pr r08_parser_alt_p5 (Tau.upd (Tau.upd τ 0 (.pointer x0)) 3 (.slice x3 l3 c3)) (r08_parser_alt_q3 Q E) E H) (by kernel_rfl) (vc_loop (c := sI r08_parser_alt_p5) (τ := (Tau.upd (Tau.upd τ 0 (.pointer x0)) 3 (.slice x3 l3 c3))) [0] (fun τ H => mSl (τ 3) fun x3' l3' c3' => I x3' l3' c3' H) (fun τ H => μ (gL1 (τ 3)) (gL2 (τ 3)) (gL3 (τ 3)) H) (by kernel_rfl) h0 (fun τ1 H1 hf hI => fix_elim (τ := τ1) (i := 0) (v := (.pointer x0)) (G := fun τ => vc Pr (sI r08_parser_alt_p5) τ (xthen (fun τ2 H2 => (mSl (τ2 3) fun x3' l3' c3' => I x3' l3' c3' H2) ∧ μ (gL1 (τ2 3)) (gL2 (τ2 3)) (gL3 (τ2 3)) H2 < μ (gL1 (τ 3)) (gL2 (τ 3)) (gL3 (τ 3)) H1) (r08_parser_alt_q3 Q E)) E H1) (hf 0 (by simp)) (mSl_elim (i := 3) (G := fun τ => vc Pr (sI r08_parser_alt_p5) τ (xthen (fun τ2 H2 => (mSl (τ2 3) fun x3' l3' c3' => I x3' l3' c3' H2) ∧ μ (gL1 (τ2 3)) (gL2 (τ2 3)) (gL3 (τ2 3)) H2 < μ (gL1 (τ 3)) (gL2 (τ 3)) (gL3 (τ 3)) H1) (r08_parser_alt_q3 Q E)) E H1) hI (fun x3r l3r c3r h => (conv (B := vc Pr (sI r08_parser_alt_p5) (Tau.upd (Tau.upd τ1 0 (.pointer x0)) 3 (.slice x3r l3r c3r)) (xthen (fun τ2 H2 => (mSl (τ2 3) fun x3' l3' c3' => I x3' l3' c3' H2) ∧ μ (gL1 (τ2 3)) (gL2 (τ2 3)) (gL3 (τ2 3)) H2 < μ (gL1 ((Tau.upd (Tau.upd τ1 0 (.pointer x0)) 3 (.slice x3r l3r c3r)) 3)) (gL2 ((Tau.upd (Tau.upd τ1 0 (.pointer x0)) 3 (.slice x3r l3r c3r)) 3)) (gL3 ((Tau.upd (Tau.upd τ1 0 (.pointer x0)) 3 (.slice x3r l3r c3r)) 3)) H1) (r08_parser_alt_q3 Q E)) E H1) (by kernel_rfl) (vc_xthen (r08_parser_alt_20ok (fun x3' l3' c3' H2 => I x3' l3' c3' H2 ∧ μ x3' l3' c3' H2 < μ x3r l3r c3r H1) Q E (Tau.upd (Tau.upd τ1 0 (.pointer x0)) 3 (.slice x3r l3r c3r)) H1 (conv (B := r08_parser_alt_17_M (fun x3' l3' c3' H2 => I x3' l3' c3' H2 ∧ μ x3' l3' c3' H2 < μ x3r l3r c3r H1) Q E (Tau.upd (Tau.upd τ1 0 (.pointer x0)) 3 (.slice x3r l3r c3r)) H1) (by kernel_rfl) (hr x3r l3r c3r H1 h))) (fun τ2 H2 hk => mSl_elim (i := 3) (G := fun τ => (mSl (τ 3) fun x3' l3' c3' => I x3' l3' c3' H2) ∧ μ (gL1 (τ 3)) (gL2 (τ 3)) (gL3 (τ 3)) H2 < μ x3r l3r c3r H1) hk (fun x3' l3' c3' h => h)))))))))))

theorem r08_parser_alt_23ok (Q : QT) (E : ET) (τ : Tau) (H : Heap) (h : r08_parser_alt_21_M Q E τ H) : vc Pr r08_parser_alt_p4 τ (r08_parser_alt_q2 Q E) E H :=
  (conv (B := vc Pr r08_parser_alt_p4 τ (r08_parser_alt_q2 Q E) E H) (by kernel_rfl) (r08_parser_alt_22ok Q E τ H h))

theorem r08_parser_alt_24ok (Q : QT) (E : ET) (τ : Tau) (H : Heap) (h : r08_parser_alt_21_M Q E τ H) : vc Pr r08_parser_alt_p2 τ (r08_parser_alt_q1 Q E) E H :=
  (conv (B := vc Pr r08_parser_alt_p2 τ (r08_parser_alt_q1 Q E) E H) (by kernel_rfl) (vc_seq (K := (r08_parser_alt_1_M Q E)) (r08_parser_alt_23ok Q E τ H h) (r08_parser_alt_2ok Q E)))

@[reducible] noncomputable def r08_parser_alt_q11 (Q : QT) (E : ET) : Exit → Tau → Heap → Prop := (xthen (r08_parser_alt_21_M Q E) (r08_parser_alt_q1 Q E))

@[reducible] noncomputable def r08_parser_alt_p18 : Code := sA r08_parser_alt_p1

def r08_parser_alt_25 (Q : QT) (E : ET) (x0 : OA) (H : Heap) : Prop :=
 Does Pr 89 #[(.pointer x0)] H (fun v78 H79 =>
 ∃ (p80 : OA) (l81 c82 : Nat), v78 = (.slice p80 l81 c82) ∧ r08_parser_alt_21 Q E x0 p80 l81 c82 H79) E

def r08_parser_alt_25_M (Q : QT) (E : ET) (τ : Tau) (H : Heap) : Prop := mP (τ 0) fun x0 => r08_parser_alt_25 Q E x0 H

theorem r08_parser_alt_26ok (Q : QT) (E : ET) (τ : Tau) (H : Heap) (h : r08_parser_alt_25_M Q E τ H) : vc Pr r08_parser_alt_p18 τ (r08_parser_alt_q11 Q E) E H :=
  vP (i := 0) h (fun x0 h => (conv (by kernel_rfl) h))

theorem r08_parser_alt_27ok (Q : QT) (E : ET) (τ : Tau) (H : Heap) (h : r08_parser_alt_25_M Q E τ H) : vc Pr r08_parser_alt_p1 τ (r08_parser_alt_q1 Q E) E H :=
  (conv (B := vc Pr r08_parser_alt_p1 τ (r08_parser_alt_q1 Q E) E H) (by kernel_rfl) (vc_seq (K := (r08_parser_alt_21_M Q E)) (r08_parser_alt_26ok Q E τ H h) (r08_parser_alt_24ok Q E)))

@[reducible] noncomputable def r08_parser_alt_q12 (Q : QT) (E : ET) : Exit → Tau → Heap → Prop := (xthen (r08_parser_alt_25_M Q E) (r08_parser_alt_q1 Q E))

@[reducible] noncomputable def r08_parser_alt_p19 : Code := sA r08_parser_alt_p0

def r08_parser_alt (Q : QT) (E : ET) (a0 : OA) (H : Heap) : Prop :=
 r08_parser_alt_25 Q E a0 H

theorem r08_parser_alt_fn (a0 : OA) (Q : QT) (E : ET) (H : Heap) (h : r08_parser_alt Q E a0 H)   : Does Pr 56 #[(.pointer a0)] H Q E :=
  Fn_of_vc (fn := Try.f56) (c := r08_parser_alt_p0) (args := [(.pointer a0)]) mixed (by kernel_rfl) (by kernel_rfl) (by kernel_rfl) (by kernel_rfl) (by kernel_rfl) ((conv (B := vc Pr r08_parser_alt_p0 (argT [(.pointer a0)]) (r08_parser_alt_q1 Q E) E H) (by kernel_rfl) (vc_seq (K := (r08_parser_alt_25_M Q E)) (conv (B := vc Pr r08_parser_alt_p19 (argT [(.pointer a0)]) (r08_parser_alt_q12 Q E) E H) (by kernel_rfl) h) (r08_parser_alt_27ok Q E))))

/-! (*jobmux/jobmuxref08.parser).fail -/
@[reducible] noncomputable def r08_parser_fail_q1 (Q : QT) (E : ET) : Exit → Tau → Heap → Prop := (retQ Pr (Try.f57).results.toList Q)

@[reducible] noncomputable def r08_parser_fail_p0 : Code := bodyOf Try.f57

def r08_parser_fail (Q : QT) (E : ET) (a0 : OA) (a1 : Int) (H : Heap) : Prop :=
 ptr a0 fun q1 =>
 ldI .i64 (Addr.add q1 3) H fun n2 =>
 sel ((n2 : Int) == 0)
 (ptr a0 fun q3 =>
 wr (Addr.add q3 3) [(.int .i64 a1)] H fun H4 =>
 Q (.tuple #[]) H4)
 (Q (.tuple #[]) H)

theorem r08_parser_fail_fn (a0 : OA) (a1 : Int) (Q : QT) (E : ET) (H : Heap) (h : r08_parser_fail Q E a0 a1 H)   : Does Pr 57 #[(.pointer a0), (.int .i64 a1)] H Q E :=
  Fn_of_vc (fn := Try.f57) (c := r08_parser_fail_p0) (args := [(.pointer a0), (.int .i64 a1)]) mixed (by kernel_rfl) (by kernel_rfl) (by kernel_rfl) (by kernel_rfl) (by kernel_rfl) ((conv (B := vc Pr r08_parser_fail_p0 (argT [(.pointer a0), (.int .i64 a1)]) (r08_parser_fail_q1 Q E) E H) (by kernel_rfl) h))

/-! jobmux/jobmuxref08.Has -/
@[reducible] noncomputable def r08_Has_q1 (Q : QT) (E : ET) : Exit → Tau → Heap → Prop := (retQ Pr (Try.f73).results.toList Q)

@[reducible] noncomputable def r08_Has_p0 : Code := bodyOf Try.f73

def r08_Has (Q : QT) (E : ET) (a0_0 : Int) (a0_1 : Int) (a0_2 : Int) (a0_3 : Int) (a1 : Int) (H : Heap) : Prop :=
 nw (.cells #[(.int .u64 a0_0), (.int .u64 a0_1), (.int .u64 a0_2), (.int .u64 a0_3)] 46 (0, 0)) H fun i1 H2 =>
 (64 : Int) ≠ 0 ∧ (0 ≤ ((IntKind.wrap .u8 (Int.tdiv a1 64)) : Int) ∧ ((IntKind.wrap .u8 (Int.tdiv a1 64)) : Int) < ((4 : Nat) : Int)) ∧ ldI .u64 (Addr.add ⟨i1, 0, none⟩ (((IntKind.wrap .u8 (Int.tdiv a1 64)) : Int).toNat * 1)) H2 fun n3 =>
 (64 : Int) ≠ 0 ∧ 0 ≤ ((Int.tmod a1 64) : Int) ∧ Q (.bool (((IntKind.wrap .u64 (BitVec.ofInt (IntKind.bits .u64) (Int.fdiv n3 (2 ^ min ((Int.tmod a1 64) : Int).toNat (IntKind.bits .u64))) &&& BitVec.ofInt (IntKind.bits .u64) 1).toNat) : Int) == 1)) H2

theorem r08_Has_fn (a0_0 : Int) (a0_1 : Int) (a0_2 : Int) (a0_3 : Int) (a1 : Int) (Q : QT) (E : ET) (H : Heap) (h : r08_Has Q E a0_0 a0_1 a0_2 a0_3 a1 H)   : Does Pr 73 #[(.agg #[(.int .u64 a0_0), (.int .u64 a0_1), (.int .u64 a0_2), (.int .u64 a0_3)]), (.int .u8 a1)] H Q E :=
  Fn_of_vc (fn := Try.f73) (c := r08_Has_p0) (args := [(.agg #[(.int .u64 a0_0), (.int .u64 a0_1), (.int .u64 a0_2), (.int .u64 a0_3)]), (.int .u8 a1)]) mixed (by kernel_rfl) (by kernel_rfl) (by kernel_rfl) (by kernel_rfl) (by kernel_rfl) ((conv (B := vc Pr r08_Has_p0 (argT [(.agg #[(.int .u64 a0_0), (.int .u64 a0_1), (.int .u64 a0_2), (.int .u64 a0_3)]), (.int .u8 a1)]) (r08_Has_q1 Q E) E H) (by kernel_rfl) h))

/-! (*jobmux/jobmuxref08.parser).cat -/
@[reducible] noncomputable def r08_parser_cat_q1 (Q : QT) (E : ET) : Exit → Tau → Heap → Prop := (retQ Pr (Try.f89).results.toList Q)

@[reducible] noncomputable def r08_parser_cat_p0 : Code := bodyOf Try.f89

@[reducible] noncomputable def r08_parser_cat_p1 : Code := sB r08_parser_cat_p0

@[reducible] noncomputable def r08_parser_cat_p2 : Code := sB r08_parser_cat_p1

@[reducible] noncomputable def r08_parser_cat_p3 : Code := sB r08_parser_cat_p2

@[reducible] noncomputable def r08_parser_cat_p4 : Code := sB r08_parser_cat_p3

def r08_parser_cat_1 (Q : QT) (E : ET) (x3 : OA) (l3 : Nat) (c3 : Nat) (H : Heap) : Prop :=
 Q (.slice x3 l3 c3) H

def r08_parser_cat_1_M (Q : QT) (E : ET) (τ : Tau) (H : Heap) : Prop := mSl (τ 3) fun x3 l3 c3 => r08_parser_cat_1 Q E x3 l3 c3 H

theorem r08_parser_cat_2ok (Q : QT) (E : ET) (τ : Tau) (H : Heap) (h : r08_parser_cat_1_M Q E τ H) : vc Pr r08_parser_cat_p4 τ (r08_parser_cat_q1 Q E) E H :=
  vSl (i := 3) h (fun x3 l3 c3 h => (conv (by kernel_rfl) h))

@[reducible] noncomputable def r08_parser_cat_q2 (Q : QT) (E : ET) : Exit → Tau → Heap → Prop := (xthen (r08_parser_cat_1_M Q E) (r08_parser_cat_q1 Q E))

@[reducible] noncomputable def r08_parser_cat_p5 : Code := sA r08_parser_cat_p3

def r08_parser_cat_3 (Q : QT) (E : ET) (x3 : OA) (l3 : Nat) (c3 : Nat) (H : Heap) : Prop :=
 sel ((((l3 : Nat) : Int) : Int) == 0)
 (Does Pr 101 #[(.int .i64 1), (.agg #[(.int .u64 0), (.int .u64 0), (.int .u64 0), (.int .u64 0)])] H (fun v29 H30 =>
 ∃ (p31 : OA) (l32 c33 : Nat), v29 = (.slice p31 l32 c33) ∧ Q (.slice p31 l32 c33) H30) E)
 (r08_parser_cat_1 Q E x3 l3 c3 H)

def r08_parser_cat_3_M (Q : QT) (E : ET) (τ : Tau) (H : Heap) : Prop := mSl (τ 3) fun x3 l3 c3 => r08_parser_cat_3 Q E x3 l3 c3 H

theorem r08_parser_cat_4ok (Q : QT) (E : ET) (τ : Tau) (H : Heap) (h : r08_parser_cat_3_M Q E τ H) : vc Pr r08_parser_cat_p5 τ (r08_parser_cat_q2 Q E) E H :=
  vSl (i := 3) h (fun x3 l3 c3 h => (conv (by kernel_rfl) h))

theorem r08_parser_cat_5ok (Q : QT) (E : ET) (τ : Tau) (H : Heap) (h : r08_parser_cat_3_M Q E τ H) : vc Pr r08_parser_cat_p3 τ (r08_parser_cat_q1 Q E) E H :=
  (conv (B := vc Pr r08_parser_cat_p3 τ (r08_parser_cat_q1 Q E) E H) (by kernel_rfl) (vc_seq (K := (r08_parser_cat_1_M Q E)) (r08_parser_cat_4ok Q E τ H h) (r08_parser_cat_2ok Q E)))

@[reducible] noncomputable def r08_parser_cat_q3 (Q : QT) (E : ET) : Exit → Tau → Heap → Prop := (xthen (r08_parser_cat_3_M Q E) (r08_parser_cat_q1 Q E))

@[reducible] noncomputable def r08_parser_cat_p6 : Code := sA r08_parser_cat_p2

@[reducible] noncomputable def r08_parser_cat_q4 (Q : QT) (E : ET) : Exit → Tau → Heap → Prop := (xblock 0 (r08_parser_cat_q3 Q E))

@[reducible] noncomputable def r08_parser_cat_p7 : Code := sI r08_parser_cat_p6

@[reducible] noncomputable def r08_parser_cat_q5 (nx34 : Option Addr → Nat → Nat → HP) (Q : QT) (E : ET) : Exit → Tau → Heap → Prop := (xthen (fun τ H => mSl (τ 3) fun x3' l3' c3' => nx34 x3' l3' c3' H) (r08_parser_cat_q4 Q E))

@[reducible] noncomputable def r08_parser_cat_p8 : Code := sI r08_parser_cat_p7

@[reducible] noncomputable def r08_parser_cat_p9 : Code := sB r08_parser_cat_p8

@[reducible] noncomputable def r08_parser_cat_q6 (nx34 : Option Addr → Nat → Nat → HP) (Q : QT) (E : ET) : Exit → Tau → Heap → Prop := (xblock 1 (r08_parser_cat_q5 nx34 Q E))

@[reducible] noncomputable def r08_parser_cat_p10 : Code := sI r08_parser_cat_p9

@[reducible] noncomputable def r08_parser_cat_p11 : Code := sB r08_parser_cat_p10

@[reducible] noncomputable def r08_parser_cat_p12 : Code := sB r08_parser_cat_p11

def r08_parser_cat_6 (nx34 : Option Addr → Nat → Nat → HP) (Q : QT) (E : ET) (x0 : OA) (x3 : OA) (l3 : Nat) (c3 : Nat) (x4 : OA) (l4 : Nat) (c4 : Nat) (H : Heap) : Prop :=
 sel ((((l3 : Nat) : Int) : Int) == 0)
 (nx34 x4 l4 c4 H)
 (Does Pr 91 #[(.int .i64 3), (.slice x3 l3 c3), (.slice x4 l4 c4)] H (fun v53 H54 =>
 ∃ (p55 : OA) (l56 c57 : Nat), v53 = (.slice p55 l56 c57) ∧ nx34 p55 l56 c57 H54) E)

def r08_parser_cat_6_M (nx34 : Option Addr → Nat → Nat → HP) (Q : QT) (E : ET) (τ : Tau) (H : Heap) : Prop := mP (τ 0) fun x0 => mSl (τ 3) fun x3 l3 c3 => mSl (τ 4) fun x4 l4 c4 => r08_parser_cat_6 nx34 Q E x0 x3 l3 c3 x4 l4 c4 H

theorem r08_parser_cat_7ok (nx34 : Option Addr → Nat → Nat → HP) (Q : QT) (E : ET) (τ : Tau) (H : Heap) (h : r08_parser_cat_6_M nx34 Q E τ H) : vc Pr r08_parser_cat_p12 τ (r08_parser_cat_q6 nx34 Q E) E H :=
  vP (i := 0) h (fun x0 h => vSl (i := 3) h (fun x3 l3 c3 h => vSl (i := 4) h (fun x4 l4 c4 h => (conv (by kernel_rfl) h))))

@[reducible] noncomputable def r08_parser_cat_q7 (nx34 : Option Addr → Nat → Nat → HP) (Q : QT) (E : ET) : Exit → Tau → Heap → Prop := (xthen (r08_parser_cat_6_M nx34 Q E) (r08_parser_cat_q6 nx34 Q E))

@[reducible] noncomputable def r08_parser_cat_p13 : Code := sA r08_parser_cat_p11

def r08_parser_cat_8 (nx34 : Option Addr → Nat → Nat → HP) (Q : QT) (E : ET) (x0 : OA) (x3 : OA) (l3 : Nat) (c3 : Nat) (x4 : OA) (l4 : Nat) (c4 : Nat) (H : Heap) : Prop :=
 ptr x0 fun q58 =>
 ldI .i64 (Addr.add q58 3) H fun n59 =>
 sel ((n59 : Int) != 0)
 (Q (.slice none 0 0) H)
 (r08_parser_cat_6 nx34 Q E x0 x3 l3 c3 x4 l4 c4 H)

def r08_parser_cat_8_M (nx34 : Option Addr → Nat → Nat → HP) (Q : QT) (E : ET) (τ : Tau) (H : Heap) : Prop := mP (τ 0) fun x0 => mSl (τ 3) fun x3 l3 c3 => mSl (τ 4) fun x4 l4 c4 => r08_parser_cat_8 nx34 Q E x0 x3 l3 c3 x4 l4 c4 H

theorem r08_parser_cat_9ok (nx34 : Option Addr → Nat → Nat → HP) (Q : QT) (E : ET) (τ : Tau) (H : Heap) (h : r08_parser_cat_8_M nx34 Q E τ H) : vc Pr r08_parser_cat_p13 τ (r08_parser_cat_q7 nx34 Q E) E H :=
  vP (i := 0) h (fun x0 h => vSl (i := 3) h (fun x3 l3 c3 h => vSl (i := 4) h (fun x4 l4 c4 h => (conv (by kernel_rfl) h))))

theorem r08_parser_cat_10ok (nx34 : Option Addr → Nat → Nat → HP) (Q : QT) (E : ET) (τ : Tau) (H : Heap) (h : r08_parser_cat_8_M nx34 Q E τ H) : vc Pr r08_parser_cat_p11 τ (r08_parser_cat_q6 nx34 Q E) E H :=
  (conv (B := vc Pr r08_parser_cat_p11 τ (r08_parser_cat_q6 nx34 Q E) E H) (by kernel_rfl) (vc_seq (K := (r08_parser_cat_6_M nx34 Q E)) (r08_parser_cat_9ok nx34 Q E τ H h) (r08_parser_cat_7ok nx34 Q E)))

@[reducible] noncomputable def r08_parser_cat_q8 (nx34 : Option Addr → Nat → Nat → HP) (Q : QT) (E : ET) : Exit → Tau → Heap → Prop := (xthen (r08_parser_cat_8_M nx34 Q E) (r08_parser_cat_q6 nx34 Q E))

@[reducible] noncomputable def r08_parser_cat_p14 : Code := sA r08_parser_cat_p10

def r08_parser_cat_11 (nx34 : Option Addr → Nat → Nat → HP) (Q : QT) (E : ET) (x0 : OA) (x3 : OA) (l3 : Nat) (c3 : Nat) (H : Heap) : Prop :=
 Does Pr 100 #[(.pointer x0)] H (fun v60 H61 =>
 ∃ (p62 : OA) (l63 c64 : Nat), v60 = (.slice p62 l63 c64) ∧ r08_parser_cat_8 nx34 Q E x0 x3 l3 c3 p62 l63 c64 H61) E

def r08_parser_cat_11_M (nx34 : Option Addr → Nat → Nat → HP) (Q : QT) (E : ET) (τ : Tau) (H : Heap) : Prop := mP (τ 0) fun x0 => mSl (τ 3) fun x3 l3 c3 => r08_parser_cat_11 nx34 Q E x0 x3 l3 c3 H

theorem r08_parser_cat_12ok (nx34 : Option Addr → Nat → Nat → HP) (Q : QT) (E : ET) (τ : Tau) (H : Heap) (h : r08_parser_cat_11_M nx34 Q E τ H) : vc Pr r08_parser_cat_p14 τ (r08_parser_cat_q8 nx34 Q E) E H :=
  vP (i := 0) h (fun x0 h => vSl (i := 3) h (fun x3 l3 c3 h => (conv (by kernel_rfl) h)))

theorem r08_parser_cat_13ok (nx34 : Option Addr → Nat → Nat → HP) (Q : QT) (E : ET) (τ : Tau) (H : Heap) (h : r08_parser_cat_11_M nx34 Q E τ H) : vc Pr r08_parser_cat_p10 τ (r08_parser_cat_q6 nx34 Q E) E H :=
  (conv (B := vc Pr r08_parser_cat_p10 τ (r08_parser_cat_q6 nx34 Q E) E H) (by kernel_rfl) (vc_seq (K := (r08_parser_cat_8_M nx34 Q E)) (r08_parser_cat_12ok nx34 Q E τ H h) (r08_parser_cat_10ok nx34 Q E)))

theorem r08_parser_cat_14ok (nx34 : Option Addr → Nat → Nat → HP) (Q : QT) (E : ET) (τ : Tau) (H : Heap) (h : r08_parser_cat_11_M nx34 Q E τ H) : vc Pr r08_parser_cat_p9 τ (r08_parser_cat_q5 nx34 Q E) E H :=
  (conv (B := vc Pr r08_parser_cat_p9 τ (r08_parser_cat_q5 nx34 Q E) E H) (by kernel_rfl) (r08_parser_cat_13ok nx34 Q E τ H h))

@[reducible] noncomputable def r08_parser_cat_q9 (nx34 : Option Addr → Nat → Nat → HP) (Q : QT) (E : ET) : Exit → Tau → Heap → Prop := (xthen (r08_parser_cat_11_M nx34 Q E) (r08_parser_cat_q5 nx34 Q E))

@[reducible] noncomputable def r08_parser_cat_p15 : Code := sA r08_parser_cat_p8

@[reducible] noncomputable def r08_parser_cat_p16 : Code := sB r08_parser_cat_p15

def r08_parser_cat_15 (nx34 : Option Addr → Nat → Nat → HP) (Q : QT) (E : ET) (x0 : OA) (x3 : OA) (l3 : Nat) (c3 : Nat) (x30 : Bool) (H : Heap) : Prop :=
 sel x30
 (r08_parser_cat_11 nx34 Q E x0 x3 l3 c3 H)
 (r08_parser_cat_3 Q E x3 l3 c3 H)

def r08_parser_cat_15_M (nx34 : Option Addr → Nat → Nat → HP) (Q : QT) (E : ET) (τ : Tau) (H : Heap) : Prop := mP (τ 0) fun x0 => mSl (τ 3) fun x3 l3 c3 => mB (τ 30) fun x30 => r08_parser_cat_15 nx34 Q E x0 x3 l3 c3 x30 H

theorem r08_parser_cat_16ok (nx34 : Option Addr → Nat → Nat → HP) (Q : QT) (E : ET) (τ : Tau) (H : Heap) (h : r08_parser_cat_15_M nx34 Q E τ H) : vc Pr r08_parser_cat_p16 τ (r08_parser_cat_q9 nx34 Q E) E H :=
  vP (i := 0) h (fun x0 h => vSl (i := 3) h (fun x3 l3 c3 h => vB (i := 30) h (fun x30 h => (conv (by kernel_rfl) h))))

@[reducible] noncomputable def r08_parser_cat_q10 (nx34 : Option Addr → Nat → Nat → HP) (Q : QT) (E : ET) : Exit → Tau → Heap → Prop := (xthen (r08_parser_cat_15_M nx34 Q E) (r08_parser_cat_q9 nx34 Q E))

@[reducible] noncomputable def r08_parser_cat_p17 : Code := sA r08_parser_cat_p15

def r08_parser_cat_17 (nx34 : Option Addr → Nat → Nat → HP) (Q : QT) (E : ET) (x0 : OA) (x3 : OA) (l3 : Nat) (c3 : Nat) (H : Heap) : Prop :=
 Does Pr 90 #[(.pointer x0)] H (fun v76 H77 =>
 ∃ b78 : Bool, v76 = (.bool b78) ∧ sel b78
 (ptr x0 fun q79 =>
 ldS q79 H77 fun s80 =>
 ptr x0 fun q81 =>
 ldI .i64 (Addr.add q81 1) H77 fun n82 =>
 (0 ≤ (n82 : Int) ∧ (n82 : Int) < ((ByteArray.size s80 : Nat) : Int)) ∧ sel (((sAt s80 n82) : Int) != 124)
 (ptr x0 fun q83 =>
 ldS q83 H77 fun s84 =>
 ptr x0 fun q85 =>
 ldI .i64 (Addr.add q85 1) H77 fun n86 =>
 (0 ≤ (n86 : Int) ∧ (n86 : Int) < ((ByteArray.size s84 : Nat) : Int)) ∧ r08_parser_cat_15 nx34 Q E x0 x3 l3 c3 (((sAt s84 n86) : Int) != 41) H77)
 (r08_parser_cat_15 nx34 Q E x0 x3 l3 c3 false H77))
 (r08_parser_cat_15 nx34 Q E x0 x3 l3 c3 false H77)) (fun _ _ => False)

def r08_parser_cat_17_M (nx34 : Option Addr → Nat → Nat → HP) (Q : QT) (E : ET) (τ : Tau) (H : Heap) : Prop := mP (τ 0) fun x0 => mSl (τ 3) fun x3 l3 c3 => r08_parser_cat_17 nx34 Q E x0 x3 l3 c3 H

theorem r08_parser_cat_18ok (nx34 : Option Addr → Nat → Nat → HP) (Q : QT) (E : ET) (τ : Tau) (H : Heap) (h : r08_parser_cat_17_M nx34 Q E τ H) : vc Pr r08_parser_cat_p17 τ (r08_parser_cat_q10 nx34 Q E) E H :=
  vP (i := 0) h (fun x0 h => vSl (i := 3) h (fun x3 l3 c3 h => (conv (by kernel_rfl) h)))

theorem r08_parser_cat_19ok (nx34 : Option Addr → Nat → Nat → HP) (Q : QT) (E : ET) (τ : Tau) (H : Heap) (h : r08_parser_cat_17_M nx34 Q E τ H) : vc Pr r08_parser_cat_p15 τ (r08_parser_cat_q9 nx34 Q E) E H :=
  (conv (B := vc Pr r08_parser_cat_p15 τ (r08_parser_cat_q9 nx34 Q E) E H) (by kernel_rfl) (vc_seq (K := (r08_parser_cat_15_M nx34 Q E)) (r08_parser_cat_18ok nx34 Q E τ H h) (r08_parser_cat_16ok nx34 Q E)))

theorem r08_parser_cat_20ok (nx34 : Option Addr → Nat → Nat → HP) (Q : QT) (E : ET) (τ : Tau) (H : Heap) (h : r08_parser_cat_17_M nx34 Q E τ H) : vc Pr r08_parser_cat_p8 τ (r08_parser_cat_q5 nx34 Q E) E H :=
  (conv (B := vc Pr r08_parser_cat_p8 τ (r08_parser_cat_q5 nx34 Q E) E H) (by kernel_rfl) (vc_seq (K := (r08_parser_cat_11_M nx34 Q E)) (r08_parser_cat_19ok nx34 Q E τ H h) (r08_parser_cat_14ok nx34 Q E)))

def r08_parser_cat_21 (Q : QT) (E : ET) (x0 : OA) (x3 : OA) (l3 : Nat) (c3 : Nat) (H : Heap) : Prop :=
 ∃ (I : Option Addr → Nat → Nat → HP) (μ : Option Addr → Nat → Nat → Heap → Nat), I x3 l3 c3 H ∧ ∀ (x3 : OA) (l3 : Nat) (c3 : Nat) (H : Heap), I x3 l3 c3 H →
 r08_parser_cat_17 (fun x3' l3' c3' H1 => I x3' l3' c3' H1 ∧ μ x3' l3' c3' H1 < μ x3 l3 c3 H) Q E x0 x3 l3 c3 H

def r08_parser_cat_21_M (Q : QT) (E : ET) (τ : Tau) (H : Heap) : Prop := mP (τ 0) fun x0 => mSl (τ 3) fun x3 l3 c3 => r08_parser_cat_21 Q E x0 x3 l3 c3 H

theorem r08_parser_cat_22ok (Q : QT) (E : ET) (τ : Tau) (H : Heap) (h : r08_parser_cat_21_M Q E τ H) : vc Pr r08_parser_cat_p7 τ (r08_parser_cat_q4 Q E) E H :=
  vP (i := 0) h (fun x0 h => vSl (i := 3) h (fun x3 l3 c3 h => match h with | ⟨I, μ, h0, hr⟩ => (conv (B := vc Pr r08_parser_cat_p7 (Tau.upd (Tau.upd τ 0 (.pointer x0)) 3 (.slice x3 l3 c3)) (r08_parser_cat_q4 Q E) E H) (by kernel_rfl) (vc_loop (c := sI r08_parser_cat_p7) (τ := (Tau.upd (Tau.upd τ 0 (.pointer x0)) 3 (.slice x3 l3 c3))) [0] (fun τ H => mSl (τ 3) fun x3' l3' c3' => I x3' l3' c3' H) (fun τ H => μ (gL1 (τ 3)) (gL2 (τ 3)) (gL3 (τ 3)) H) (by kernel_rfl) h0 (fun τ1 H1 hf hI => fix_elim (τ := τ1) (i := 0) (v := (.pointer x0)) (G := fun τ => vc Pr (sI r08_parser_cat_p7) τ (xthen (fun τ2 H2 => (mSl (τ2 3) fun x3' l3' c3' => I x3' l3' c3' H2) ∧ μ (gL1 (τ2 3)) (gL2 (τ2 3)) (gL3 (τ2 3)) H2 < μ (gL1 (τ 3)) (gL2 (τ 3)) (gL3 (τ 3)) H1) (r08_parser_cat_q4 Q E)) E H1) (hf 0 (by simp)) (mSl_elim (i := 3) (G := fun τ => vc Pr (sI r08_parser_cat_p7) τ (xthen (fun τ2 H2 => (mSl (τ2 3) fun x3' l3' c3' => I x3' l3' c3' H2) ∧ μ (gL1 (τ2 3)) (gL2 (τ2 3)) (gL3 (τ2 3)) H2 < μ (gL1 (τ 3)) (gL2 (τ 3)) (gL3 (τ 3)) H1) (r08_parser_cat_q4 Q E)) E H1) hI (fun x3r l3r c3r h => (conv (B := vc Pr (sI r08_parser_cat_p7) (Tau.upd (Tau.upd τ1 0 (.pointer x0)) 3 (.slice x3r l3r c3r)) (xthen (fun τ2 H2 => (mSl (τ2 3) fun x3' l3' c3' => I x3' l3' c3' H2) ∧ μ (gL1 (τ2 3)) (gL2 (τ2 3)) (gL3 (τ2 3)) H2 < μ (gL1 ((Tau.upd (Tau.upd τ1 0 (.pointer x0)) 3 (.slice x3r l3r c3r)) 3)) (gL2 ((Tau.upd (Tau.upd τ1 0 (.pointer x0)) 3 (.slice x3r l3r c3r)) 3)) (gL3 ((Tau.upd (Tau.upd τ1 0 (.pointer x0)) 3 (.slice x3r l3r c3r)) 3)) H1) (r08_parser_cat_q4 Q E)) E H1) (by kernel_rfl) (vc_xthen (r08_parser_cat_20ok (fun x3' l3' c3' H2 => I x3' l3' c3' H2 ∧ μ x3' l3' c3' H2 < μ x3r l3r c3r H1) Q E (Tau.upd (Tau.upd τ1 0 (.pointer x0)) 3 (.slice x3r l3r c3r)) H1 (conv (B := r08_parser_cat_17_M (fun x3' l3' c3' H2 => I x3' l3' c3' H2 ∧ μ x3' l3' c3' H2 < μ x3r l3r c3r H1) Q E (Tau.upd (Tau.upd τ1 0 (.pointer x0)) 3 (.slice x3r l3r c3r)) H1) (by kernel_rfl) (hr x3r l3r c3r H1 h))) (fun τ2 H2 hk => mSl_elim (i := 3) (G := fun τ => (mSl (τ 3) fun x3' l3' c3' => I x3' l3' c3' H2) ∧ μ (gL1 (τ 3)) (gL2 (τ 3)) (gL3 (τ 3)) H2 < μ x3r l3r c3r H1) hk (fun x3' l3' c3' h => h)))))))))))

theorem r08_parser_cat_23ok (Q : QT) (E : ET) (τ : Tau) (H : Heap) (h : r08_parser_cat_21_M Q E τ H) : vc Pr r08_parser_cat_p6 τ (r08_parser_cat_q3 Q E) E H :=
  (conv (B := vc Pr r08_parser_cat_p6 τ (r08_parser_cat_q3 Q E) E H) (by kernel_rfl) (r08_parser_cat_22ok Q E τ H h))

theorem r08_parser_cat_24ok (Q : QT) (E : ET) (τ : Tau) (H : Heap) (h : r08_parser_cat_21_M Q E τ H) : vc Pr r08_parser_cat_p2 τ (r08_parser_cat_q1 Q E) E H :=
  (conv (B := vc Pr r08_parser_cat_p2 τ (r08_parser_cat_q1 Q E) E H) (by kernel_rfl) (vc_seq (K := (r08_parser_cat_3_M Q E)) (r08_parser_cat_23ok Q E τ H h) (r08_parser_cat_5ok Q E)))

@[reducible] noncomputable def r08_parser_cat_q11 (Q : QT) (E : ET) : Exit → Tau → Heap → Prop := (xthen (r08_parser_cat_21_M Q E) (r08_parser_cat_q1 Q E))

@[reducible] noncomputable def r08_parser_cat_p18 : Code := sA r08_parser_cat_p1

def r08_parser_cat_25 (Q : QT) (E : ET) (x0 : OA) (H : Heap) : Prop :=
 r08_parser_cat_21 Q E x0 none 0 0 H

def r08_parser_cat_25_M (Q : QT) (E : ET) (τ : Tau) (H : Heap) : Prop := mP (τ 0) fun x0 => r08_parser_cat_25 Q E x0 H

theorem r08_parser_cat_26ok (Q : QT) (E : ET) (τ : Tau) (H : Heap) (h : r08_parser_cat_25_M Q E τ H) : vc Pr r08_parser_cat_p18 τ (r08_parser_cat_q11 Q E) E H :=
  vP (i := 0) h (fun x0 h => (conv (by kernel_rfl) h))

theorem r08_parser_cat_27ok (Q : QT) (E : ET) (τ : Tau) (H : Heap) (h : r08_parser_cat_25_M Q E τ H) : vc Pr r08_parser_cat_p1 τ (r08_parser_cat_q1 Q E) E H :=
  (conv (B := vc Pr r08_parser_cat_p1 τ (r08_parser_cat_q1 Q E) E H) (by kernel_rfl) (vc_seq (K := (r08_parser_cat_21_M Q E)) (r08_parser_cat_26ok Q E τ H h) (r08_parser_cat_24ok Q E)))

@[reducible] noncomputable def r08_parser_cat_q12 (Q : QT) (E : ET) : Exit → Tau → Heap → Prop := (xthen (r08_parser_cat_25_M Q E) (r08_parser_cat_q1 Q E))

@[reducible] noncomputable def r08_parser_cat_p19 : Code := sA r08_parser_cat_p0

def r08_parser_cat (Q : QT) (E : ET) (a0 : OA) (H : Heap) : Prop :=
 r08_parser_cat_25 Q E a0 H

theorem r08_parser_cat_fn (a0 : OA) (Q : QT) (E : ET) (H : Heap) (h : r08_parser_cat Q E a0 H)   : Does Pr 89 #[(.pointer a0)] H Q E :=
  Fn_of_vc (fn := Try.f89) (c := r08_parser_cat_p0) (args := [(.pointer a0)]) mixed (by kernel_rfl) (by kernel_rfl) (by kernel_rfl) (by kernel_rfl) (by kernel_rfl) ((conv (B := vc Pr r08_parser_cat_p0 (argT [(.pointer a0)]) (r08_parser_cat_q1 Q E) E H) (by kernel_rfl) (vc_seq (K := (r08_parser_cat_25_M Q E)) (conv (B := vc Pr r08_parser_cat_p19 (argT [(.pointer a0)]) (r08_parser_cat_q12 Q E) E H) (by kernel_rfl) h) (r08_parser_cat_27ok Q E))))

/-! (*jobmux/jobmuxref08.parser).more -/
@[reducible] noncomputable def r08_parser_more_q1 (Q : QT) (E : ET) : Exit → Tau → Heap → Prop := (retQ Pr (Try.f90).results.toList Q)

@[reducible] noncomputable def r08_parser_more_p0 : Code := bodyOf Try.f90

def r08_parser_more (Q : QT) (E : ET) (a0 : OA) (H : Heap) : Prop :=
 ptr a0 fun q1 =>
 ldI .i64 (Addr.add q1 3) H fun n2 =>
 sel ((n2 : Int) == 0)
 (ptr a0 fun q3 =>
 ldI .i64 (Addr.add q3 1) H fun n4 =>
 ptr a0 fun q5 =>
 ldS q5 H fun s6 =>
 Q (.bool (decide ((n4 : Int) < ((ByteArray.size s6 : Nat) : Int)))) H)
 (Q (.bool false) H)

theorem r08_parser_more_fn (a0 : OA) (Q : QT) (E : ET) (H : Heap) (h : r08_parser_more Q E a0 H)   : Does Pr 90 #[(.pointer a0)] H Q E :=
  Fn_of_vc (fn := Try.f90) (c := r08_parser_more_p0) (args := [(.pointer a0)]) mixed (by kernel_rfl) (by kernel_rfl) (by kernel_rfl) (by kernel_rfl) (by kernel_rfl) ((conv (B := vc Pr r08_parser_more_p0 (argT [(.pointer a0)]) (r08_parser_more_q1 Q E) E H) (by kernel_rfl) h))

/-! jobmux/jobmuxref08.join -/
@[reducible] noncomputable def r08_join_q1 (Q : QT) (E : ET) : Exit → Tau → Heap → Prop := (retQ Pr (Try.f91).results.toList Q)

@[reducible] noncomputable def r08_join_p0 : Code := bodyOf Try.f91

@[reducible] noncomputable def r08_join_p1 : Code := sB r08_join_p0

@[reducible] noncomputable def r08_join_p2 : Code := sB r08_join_p1

@[reducible] noncomputable def r08_join_p3 : Code := sB r08_join_p2

@[reducible] noncomputable def r08_join_p4 : Code := sB r08_join_p3

@[reducible] noncomputable def r08_join_p5 : Code := sB r08_join_p4

def r08_join_1 (Q : QT) (E : ET) (x7 : OA) (l7 : Nat) (c7 : Nat) (x10 : OA) (H : Heap) : Prop :=
 ptr x10 fun q48 =>
 ∃ n49 n50 n51 n52 n53 n54 n55 : Int, Heap.rd H q48 0 [(.int .i64 n49), (.int .i64 n50), (.int .i64 n51), (.int .u64 n52), (.int .u64 n53), (.int .u64 n54), (.int .u64 n55)] ∧ nw (.cells #[(.int .i64 n49), (.int .i64 n50), (.int .i64 n51), (.int .u64 n52), (.int .u64 n53), (.int .u64 n54), (.int .u64 n55)] 48 (0, 0)) H fun i56 H57 =>
 app Pr 23 x7 l7 c7 (.slice (some ⟨i56, 0, none⟩) 1 1) H57 fun p58 l59 c60 H61 =>
 Q (.slice p58 l59 c60) H61

def r08_join_1_M (Q : QT) (E : ET) (τ : Tau) (H : Heap) : Prop := mSl (τ 7) fun x7 l7 c7 => mP (τ 10) fun x10 => r08_join_1 Q E x7 l7 c7 x10 H

theorem r08_join_2ok (Q : QT) (E : ET) (τ : Tau) (H : Heap) (h : r08_join_1_M Q E τ H) : vc Pr r08_join_p5 τ (r08_join_q1 Q E) E H :=
  vSl (i := 7) h (fun x7 l7 c7 h => vP (i := 10) h (fun x10 h => (conv (by kernel_rfl) h)))

@[reducible] noncomputable def r08_join_q2 (Q : QT) (E : ET) : Exit → Tau → Heap → Prop := (xthen (r08_join_1_M Q E) (r08_join_q1 Q E))

@[reducible] noncomputable def r08_join_p6 : Code := sA r08_join_p4

def r08_join_3 (Q : QT) (E : ET) (x1 : OA) (l1 : Nat) (c1 : Nat) (x2 : OA) (l2 : Nat) (c2 : Nat) (x7 : OA) (l7 : Nat) (c7 : Nat) (x10 : OA) (H : Heap) : Prop :=
 sel (decide ((((l2 : Nat) : Int) : Int) > 0))
 (ptr x10 fun q62 =>
 wr (Addr.add q62 2) [(.int .i64 (IntKind.wrap .i64 ((IntKind.wrap .i64 (((l1 : Nat) : Int) + ((l2 : Nat) : Int))) - 1)))] H fun H63 =>
 r08_join_1 Q E x7 l7 c7 x10 H63)
 (r08_join_1 Q E x7 l7 c7 x10 H)

def r08_join_3_M (Q : QT) (E : ET) (τ : Tau) (H : Heap) : Prop := mSl (τ 1) fun x1 l1 c1 => mSl (τ 2) fun x2 l2 c2 => mSl (τ 7) fun x7 l7 c7 => mP (τ 10) fun x10 => r08_join_3 Q E x1 l1 c1 x2 l2 c2 x7 l7 c7 x10 H

theorem r08_join_4ok (Q : QT) (E : ET) (τ : Tau) (H : Heap) (h : r08_join_3_M Q E τ H) : vc Pr r08_join_p6 τ (r08_join_q2 Q E) E H :=
  vSl (i := 1) h (fun x1 l1 c1 h => vSl (i := 2) h (fun x2 l2 c2 h => vSl (i := 7) h (fun x7 l7 c7 h => vP (i := 10) h (fun x10 h => (conv (by kernel_rfl) h)))))

theorem r08_join_5ok (Q : QT) (E : ET) (τ : Tau) (H : Heap) (h : r08_join_3_M Q E τ H) : vc Pr r08_join_p4 τ (r08_join_q1 Q E) E H :=
  (conv (B := vc Pr r08_join_p4 τ (r08_join_q1 Q E) E H) (by kernel_rfl) (vc_seq (K := (r08_join_1_M Q E)) (r08_join_4ok Q E τ H h) (r08_join_2ok Q E)))

@[reducible] noncomputable def r08_join_q3 (Q : QT) (E : ET) : Exit → Tau → Heap → Prop := (xthen (r08_join_3_M Q E) (r08_join_q1 Q E))

@[reducible] noncomputable def r08_join_p7 : Code := sA r08_join_p3

def r08_join_6 (Q : QT) (E : ET) (x0 : Int) (x1 : OA) (l1 : Nat) (c1 : Nat) (x2 : OA) (l2 : Nat) (c2 : Nat) (x7 : OA) (l7 : Nat) (c7 : Nat) (H : Heap) : Prop :=
 nw (.cells #[(.int .i64 0), (.int .i64 0), (.int .i64 0), (.int .u64 0), (.int .u64 0), (.int .u64 0), (.int .u64 0)] 48 (0, 0)) H fun i64 H65 =>
 wr ⟨i64, 0, none⟩ [(.int .i64 x0), (.int .i64 (IntKind.wrap .i64 (((l1 : Nat) : Int) - 1))), (.int .i64 0), (.int .u64 0), (.int .u64 0), (.int .u64 0), (.int .u64 0)] H65 fun H66 =>
 r08_join_3 Q E x1 l1 c1 x2 l2 c2 x7 l7 c7 (some ⟨i64, 0, none⟩) H66

def r08_join_6_M (Q : QT) (E : ET) (τ : Tau) (H : Heap) : Prop := mI .i64 (τ 0) fun x0 => mSl (τ 1) fun x1 l1 c1 => mSl (τ 2) fun x2 l2 c2 => mSl (τ 7) fun x7 l7 c7 => r08_join_6 Q E x0 x1 l1 c1 x2 l2 c2 x7 l7 c7 H

theorem r08_join_7ok (Q : QT) (E : ET) (τ : Tau) (H : Heap) (h : r08_join_6_M Q E τ H) : vc Pr r08_join_p7 τ (r08_join_q3 Q E) E H :=
  vI (i := 0) h (fun x0 h => vSl (i := 1) h (fun x1 l1 c1 h => vSl (i := 2) h (fun x2 l2 c2 h => vSl (i := 7) h (fun x7 l7 c7 h => (conv (by kernel_rfl) h)))))

theorem r08_join_8ok (Q : QT) (E : ET) (τ : Tau) (H : Heap) (h : r08_join_6_M Q E τ H) : vc Pr r08_join_p3 τ (r08_join_q1 Q E) E H :=
  (conv (B := vc Pr r08_join_p3 τ (r08_join_q1 Q E) E H) (by kernel_rfl) (vc_seq (K := (r08_join_3_M Q E)) (r08_join_7ok Q E τ H h) (r08_join_5ok Q E)))

@[reducible] noncomputable def r08_join_q4 (Q : QT) (E : ET) : Exit → Tau → Heap → Prop := (xthen (r08_join_6_M Q E) (r08_join_q1 Q E))

@[reducible] noncomputable def r08_join_p8 : Code := sA r08_join_p2

@[reducible] noncomputable def r08_join_p9 : Code := sB r08_join_p8

@[reducible] noncomputable def r08_join_q5 (Q : QT) (E : ET) : Exit → Tau → Heap → Prop := (xblock 0 (r08_join_q4 Q E))

@[reducible] noncomputable def r08_join_p10 : Code := sI r08_join_p9

@[reducible] noncomputable def r08_join_q6 (nx67 : Option Addr → Nat → Nat → Int → HP) (Q : QT) (E : ET) : Exit → Tau → Heap → Prop := (xthen (fun τ H => mSl (τ 7) fun x7' l7' c7' => mI .i64 (τ 8) fun x8' => nx67 x7' l7' c7' x8' H) (r08_join_q5 Q E))

@[reducible] noncomputable def r08_join_p11 : Code := sI r08_join_p10

@[reducible] noncomputable def r08_join_p12 : Code := sB r08_join_p11

def r08_join_9 (nx67 : Option Addr → Nat → Nat → Int → HP) (Q : QT) (E : ET) (x0 : Int) (x1 : OA) (l1 : Nat) (c1 : Nat) (x2 : OA) (l2 : Nat) (c2 : Nat) (x7 : OA) (l7 : Nat) (c7 : Nat) (x8 : Int) (H : Heap) : Prop :=
 (0 ≤ (x8 : Int) ∧ (x8 : Int) < ((l2 : Nat) : Int)) ∧ ptr x2 fun q68 =>
 ∃ n69 n70 n71 n72 n73 n74 n75 : Int, Heap.rd H (Addr.add q68 ((x8 : Int).toNat * 7)) 0 [(.int .i64 n69), (.int .i64 n70), (.int .i64 n71), (.int .u64 n72), (.int .u64 n73), (.int .u64 n74), (.int .u64 n75)] ∧ nw (.cells #[(.int .i64 0), (.int .i64 0), (.int .i64 0), (.int .u64 0), (.int .u64 0), (.int .u64 0), (.int .u64 0)] 48 (0, 0)) H fun i76 H77 =>
 wr ⟨i76, 0, none⟩ [(.int .i64 n69), (.int .i64 n70), (.int .i64 n71), (.int .u64 n72), (.int .u64 n73), (.int .u64 n74), (.int .u64 n75)] H77 fun H78 =>
 ∃ Z79 : Nat → Prop,
 ldI .i64 ⟨i76, 0, none⟩ H78 fun n80 =>
 ldI .i64 ⟨i76, 1, none⟩ H78 fun n81 =>
 Z79 (Addr.block ⟨i76, 0, none⟩) ∧ ldI .i64 ⟨i76, 0, none⟩ H78 fun n82 =>
 Z79 (Addr.block ⟨i76, 2, none⟩) ∧ ldI .i64 ⟨i76, 2, none⟩ H78 fun n83 =>
 Does Pr 102 #[(.int .i64 n80), (.int .i64 0), (.int .i64 n81), (.int .i64 ((l1 : Nat) : Int))] H78 (fun v84 H85 =>
 ∃ n86 : Int, v84 = (.int .i64 n86) ∧ (∀ z, Z79 z → H78 z ≠ none → H85 z = H78 z) ∧ Does Pr 102 #[(.int .i64 n82), (.int .i64 1), (.int .i64 n83), (.int .i64 ((l1 : Nat) : Int))] H85 (fun v87 H88 =>
 ∃ n89 : Int, v87 = (.int .i64 n89) ∧ wr ⟨i76, 1, none⟩ [(.int .i64 n86)] H88 fun H90 =>
 wr ⟨i76, 2, none⟩ [(.int .i64 n89)] H90 fun H91 =>
 ∃ n92 n93 n94 n95 n96 n97 n98 : Int, Heap.rd H91 ⟨i76, 0, none⟩ 0 [(.int .i64 n92), (.int .i64 n93), (.int .i64 n94), (.int .u64 n95), (.int .u64 n96), (.int .u64 n97), (.int .u64 n98)] ∧ nw (.cells #[(.int .i64 n92), (.int .i64 n93), (.int .i64 n94), (.int .u64 n95), (.int .u64 n96), (.int .u64 n97), (.int .u64 n98)] 48 (0, 0)) H91 fun i99 H100 =>
 app Pr 23 x7 l7 c7 (.slice (some ⟨i99, 0, none⟩) 1 1) H100 fun p101 l102 c103 H104 =>
 nx67 p101 l102 c103 (IntKind.wrap .i64 (x8 + 1)) H104) (fun _ _ => False)) (fun _ _ => False)

def r08_join_9_M (nx67 : Option Addr → Nat → Nat → Int → HP) (Q : QT) (E : ET) (τ : Tau) (H : Heap) : Prop := mI .i64 (τ 0) fun x0 => mSl (τ 1) fun x1 l1 c1 => mSl (τ 2) fun x2 l2 c2 => mSl (τ 7) fun x7 l7 c7 => mI .i64 (τ 8) fun x8 => r08_join_9 nx67 Q E x0 x1 l1 c1 x2 l2 c2 x7 l7 c7 x8 H

theorem r08_join_10ok (nx67 : Option Addr → Nat → Nat → Int → HP) (Q : QT) (E : ET) (τ : Tau) (H : Heap) (h : r08_join_9_M nx67 Q E τ H) : vc Pr r08_join_p12 τ (r08_join_q6 nx67 Q E) E H :=
  vI (i := 0) h (fun x0 h => vSl (i := 1) h (fun x1 l1 c1 h => vSl (i := 2) h (fun x2 l2 c2 h => vSl (i := 7) h (fun x7 l7 c7 h => vI (i := 8) h (fun x8 h => (conv (by kernel_rfl) h))))))

@[reducible] noncomputable def r08_join_q7 (nx67 : Option Addr → Nat → Nat → Int → HP) (Q : QT) (E : ET) : Exit → Tau → Heap → Prop := (xthen (r08_join_9_M nx67 Q E) (r08_join_q6 nx67 Q E))

@[reducible] noncomputable def r08_join_p13 : Code := sA r08_join_p11

def r08_join_11 (nx67 : Option Addr → Nat → Nat → Int → HP) (Q : QT) (E : ET) (x0 : Int) (x1 : OA) (l1 : Nat) (c1 : Nat) (x2 : OA) (l2 : Nat) (c2 : Nat) (x7 : OA) (l7 : Nat) (c7 : Nat) (x8 : Int) (H : Heap) : Prop :=
 sel (decide ((x8 : Int) < ((l2 : Nat) : Int)))
 (r08_join_9 nx67 Q E x0 x1 l1 c1 x2 l2 c2 x7 l7 c7 x8 H)
 (r08_join_6 Q E x0 x1 l1 c1 x2 l2 c2 x7 l7 c7 H)

def r08_join_11_M (nx67 : Option Addr → Nat → Nat → Int → HP) (Q : QT) (E : ET) (τ : Tau) (H : Heap) : Prop := mI .i64 (τ 0) fun x0 => mSl (τ 1) fun x1 l1 c1 => mSl (τ 2) fun x2 l2 c2 => mSl (τ 7) fun x7 l7 c7 => mI .i64 (τ 8) fun x8 => r08_join_11 nx67 Q E x0 x1 l1 c1 x2 l2 c2 x7 l7 c7 x8 H

theorem r08_join_12ok (nx67 : Option Addr → Nat → Nat → Int → HP) (Q : QT) (E : ET) (τ : Tau) (H : Heap) (h : r08_join_11_M nx67 Q E τ H) : vc Pr r08_join_p13 τ (r08_join_q7 nx67 Q E) E H :=
  vI (i := 0) h (fun x0 h => vSl (i := 1) h (fun x1 l1 c1 h => vSl (i := 2) h (fun x2 l2 c2 h => vSl (i := 7) h (fun x7 l7 c7 h => vI (i := 8) h (fun x8 h => (conv (by kernel_rfl) h))))))

theorem r08_join_13ok (nx67 : Option Addr → Nat → Nat → Int → HP) (Q : QT) (E : ET) (τ : Tau) (H : Heap) (h : r08_join_11_M nx67 Q E τ H) : vc Pr r08_join_p11 τ (r08_join_q6 nx67 Q E) E H :=
  (conv (B := vc Pr r08_join_p11 τ (r08_join_q6 nx67 Q E) E H) (by kernel_rfl) (vc_seq (K := (r08_join_9_M nx67 Q E)) (r08_join_12ok nx67 Q E τ H h) (r08_join_10ok nx67 Q E)))

def r08_join_14 (Q : QT) (E : ET) (x0 : Int) (x1 : OA) (l1 : Nat) (c1 : Nat) (x2 : OA) (l2 : Nat) (c2 : Nat) (x7 : OA) (l7 : Nat) (c7 : Nat) (x8 : Int) (H : Heap) : Prop :=
 ∃ (I : Option Addr → Nat → Nat → Int → HP) (μ : Option Addr → Nat → Nat → Int → Heap → Nat), I x7 l7 c7 x8 H ∧ ∀ (x7 : OA) (l7 : Nat) (c7 : Nat) (x8 : Int) (H : Heap), I x7 l7 c7 x8 H →
 r08_join_11 (fun x7' l7' c7' x8' H1 => I x7' l7' c7' x8' H1 ∧ μ x7' l7' c7' x8' H1 < μ x7 l7 c7 x8 H) Q E x0 x1 l1 c1 x2 l2 c2 x7 l7 c7 x8 H

def r08_join_14_M (Q : QT) (E : ET) (τ : Tau) (H : Heap) : Prop := mI .i64 (τ 0) fun x0 => mSl (τ 1) fun x1 l1 c1 => mSl (τ 2) fun x2 l2 c2 => mSl (τ 7) fun x7 l7 c7 => mI .i64 (τ 8) fun x8 => r08_join_14 Q E x0 x1 l1 c1 x2 l2 c2 x7 l7 c7 x8 H

theorem r08_join_15ok (Q : QT) (E : ET) (τ : Tau) (H : Heap) (h : r08_join_14_M Q E τ H) : vc Pr r08_join_p10 τ (r08_join_q5 Q E) E H :=
  vI (i := 0) h (fun x0 h => vSl (i := 1) h (fun x1 l1 c1 h => vSl (i := 2) h (fun x2 l2 c2 h => vSl (i := 7) h (fun x7 l7 c7 h => vI (i := 8) h (fun x8 h => match h with | ⟨I, μ, h0, hr⟩ => (conv (B := vc Pr r08_join_p10 (Tau.upd (Tau.upd (Tau.upd (Tau.upd (Tau.upd τ 0 (.int .i64 x0)) 1 (.slice x1 l1 c1)) 2 (.slice x2 l2 c2)) 7 (.slice x7 l7 c7)) 8 (.int .i64 x8)) (r08_join_q5 Q E) E H) (by kernel_rfl) (vc_loop (c := sI r08_join_p10) (τ := (Tau.upd (Tau.upd (Tau.upd (Tau.upd (Tau.upd τ 0 (.int .i64 x0)) 1 (.slice x1 l1 c1)) 2 (.slice x2 l2 c2)) 7 (.slice x7 l7 c7)) 8 (.int .i64 x8))) [0, 1, 2] (fun τ H => mSl (τ 7) fun x7' l7' c7' => mI .i64 (τ 8) fun x8' => I x7' l7' c7' x8' H) (fun τ H => μ (gL1 (τ 7)) (gL2 (τ 7)) (gL3 (τ 7)) (gI (τ 8)) H) (by kernel_rfl) h0 (fun τ1 H1 hf hI => fix_elim (τ := τ1) (i := 0) (v := (.int .i64 x0)) (G := fun τ => vc Pr (sI r08_join_p10) τ (xthen (fun τ2 H2 => (mSl (τ2 7) fun x7' l7' c7' => mI .i64 (τ2 8) fun x8' => I x7' l7' c7' x8' H2) ∧ μ (gL1 (τ2 7)) (gL2 (τ2 7)) (gL3 (τ2 7)) (gI (τ2 8)) H2 < μ (gL1 (τ 7)) (gL2 (τ 7)) (gL3 (τ 7)) (gI (τ 8)) H1) (r08_join_q5 Q E)) E H1) (hf 0 (by simp)) (fix_elim (τ := (Tau.upd τ1 0 (.int .i64 x0))) (i := 1) (v := (.slice x1 l1 c1)) (G := fun τ => vc Pr (sI r08_join_p10) τ (xthen (fun τ2 H2 => (mSl (τ2 7) fun x7' l7' c7' => mI .i64 (τ2 8) fun x8' => I x7' l7' c7' x8' H2) ∧ μ (gL1 (τ2 7)) (gL2 (τ2 7)) (gL3 (τ2 7)) (gI (τ2 8)) H2 < μ (gL1 (τ 7)) (gL2 (τ 7)) (gL3 (τ 7)) (gI (τ 8)) H1) (r08_join_q5 Q E)) E H1) (hf 1 (by simp)) (fix_elim (τ := (Tau.upd (Tau.upd τ1 0 (.int .i64 x0)) 1 (.slice x1 l1 c1))) (i := 2) (v := (.slice x2 l2 c2)) (G := fun τ => vc Pr (sI r08_join_p10) τ (xthen (fun τ2 H2 => (mSl (τ2 7) fun x7' l7' c7' => mI .i64 (τ2 8) fun x8' => I x7' l7' c7' x8' H2) ∧ μ (gL1 (τ2 7)) (gL2 (τ2 7)) (gL3 (τ2 7)) (gI (τ2 8)) H2 < μ (gL1 (τ 7)) (gL2 (τ 7)) (gL3 (τ 7)) (gI (τ 8)) H1) (r08_join_q5 Q E)) E H1) (hf 2 (by simp)) (mSl_elim (i := 7) (G := fun τ => vc Pr (sI r08_join_p10) τ (xthen (fun τ2 H2 => (mSl (τ2 7) fun x7' l7' c7' => mI .i64 (τ2 8) fun x8' => I x7' l7' c7' x8' H2) ∧ μ (gL1 (τ2 7)) (gL2 (τ2 7)) (gL3 (τ2 7)) (gI (τ2 8)) H2 < μ (gL1 (τ 7)) (gL2 (τ 7)) (gL3 (τ 7)) (gI (τ 8)) H1) (r08_join_q5 Q E)) E H1) hI (fun x7r l7r c7r h => mI_elim (i := 8) (G := fun τ => vc Pr (sI r08_join_p10) τ (xthen (fun τ2 H2 => (mSl (τ2 7) fun x7' l7' c7' => mI .i64 (τ2 8) fun x8' => I x7' l7' c7' x8' H2) ∧ μ (gL1 (τ2 7)) (gL2 (τ2 7)) (gL3 (τ2 7)) (gI (τ2 8)) H2 < μ (gL1 (τ 7)) (gL2 (τ 7)) (gL3 (τ 7)) (gI (τ 8)) H1) (r08_join_q5 Q E)) E H1) h (fun x8r h => (conv (B := vc Pr (sI r08_join_p10) (Tau.upd (Tau.upd (Tau.upd (Tau.upd (Tau.upd τ1 0 (.int .i64 x0)) 1 (.slice x1 l1 c1)) 2 (.slice x2 l2 c2)) 7 (.slice x7r l7r c7r)) 8 (.int .i64 x8r)) (xthen (fun τ2 H2 => (mSl (τ2 7) fun x7' l7' c7' => mI .i64 (τ2 8) fun x8' => I x7' l7' c7' x8' H2) ∧ μ (gL1 (τ2 7)) (gL2 (τ2 7)) (gL3 (τ2 7)) (gI (τ2 8)) H2 < μ (gL1 ((Tau.upd (Tau.upd (Tau.upd (Tau.upd (Tau.upd τ1 0 (.int .i64 x0)) 1 (.slice x1 l1 c1)) 2 (.slice x2 l2 c2)) 7 (.slice x7r l7r c7r)) 8 (.int .i64 x8r)) 7)) (gL2 ((Tau.upd (Tau.upd (Tau.upd (Tau.upd (Tau.upd τ1 0 (.int .i64 x0)) 1 (.slice x1 l1 c1)) 2 (.slice x2 l2 c2)) 7 (.slice x7r l7r c7r)) 8 (.int .i64 x8r)) 7)) (gL3 ((Tau.upd (Tau.upd (Tau.upd (Tau.upd (Tau.upd τ1 0 (.int .i64 x0)) 1 (.slice x1 l1 c1)) 2 (.slice x2 l2 c2)) 7 (.slice x7r l7r c7r)) 8 (.int .i64 x8r)) 7)) (gI ((Tau.upd (Tau.upd (Tau.upd (Tau.upd (Tau.upd τ1 0 (.int .i64 x0)) 1 (.slice x1 l1 c1)) 2 (.slice x2 l2 c2)) 7 (.slice x7r l7r c7r)) 8 (.int .i64 x8r)) 8)) H1) (r08_join_q5 Q E)) E H1) (by kernel_rfl) (vc_xthen (r08_join_13ok (fun x7' l7' c7' x8' H2 => I x7' l7' c7' x8' H2 ∧ μ x7' l7' c7' x8' H2 < μ x7r l7r c7r x8r H1) Q E (Tau.upd (Tau.upd (Tau.upd (Tau.upd (Tau.upd τ1 0 (.int .i64 x0)) 1 (.slice x1 l1 c1)) 2 (.slice x2 l2 c2)) 7 (.slice x7r l7r c7r)) 8 (.int .i64 x8r)) H1 (conv (B := r08_join_11_M (fun x7' l7' c7' x8' H2 => I x7' l7' c7' x8' H2 ∧ μ x7' l7' c7' x8' H2 < μ x7r l7r c7r x8r H1) Q E (Tau.upd (Tau.upd (Tau.upd (Tau.upd (Tau.upd τ1 0 (.int .i64 x0)) 1 (.slice x1 l1 c1)) 2 (.slice x2 l2 c2)) 7 (.slice x7r l7r c7r)) 8 (.int .i64 x8r)) H1) (by kernel_rfl) (hr x7r l7r c7r x8r H1 h))) (fun τ2 H2 hk => mSl_elim (i := 7) (G := fun τ => (mSl (τ 7) fun x7' l7' c7' => mI .i64 (τ 8) fun x8' => I x7' l7' c7' x8' H2) ∧ μ (gL1 (τ 7)) (gL2 (τ 7)) (gL3 (τ 7)) (gI (τ 8)) H2 < μ x7r l7r c7r x8r H1) hk (fun x7' l7' c7' h => mI_elim (i := 8) (G := fun τ => (mSl (τ 7) fun x7' l7' c7' => mI .i64 (τ 8) fun x8' => I x7' l7' c7' x8' H2) ∧ μ (gL1 (τ 7)) (gL2 (τ 7)) (gL3 (τ 7)) (gI (τ 8)) H2 < μ x7r l7r c7r x8r H1) h (fun x8' h => h))))))))))))))))))

theorem r08_join_16ok (Q : QT) (E : ET) (τ : Tau) (H : Heap) (h : r08_join_14_M Q E τ H) : vc Pr r08_join_p9 τ (r08_join_q4 Q E) E H :=
  (conv (B := vc Pr r08_join_p9 τ (r08_join_q4 Q E) E H) (by kernel_rfl) (r08_join_15ok Q E τ H h))

@[reducible] noncomputable def r08_join_q8 (Q : QT) (E : ET) : Exit → Tau → Heap → Prop := (xthen (r08_join_14_M Q E) (r08_join_q4 Q E))

@[reducible] noncomputable def r08_join_p14 : Code := sA r08_join_p8

def r08_join_17 (Q : QT) (E : ET) (x0 : Int) (x1 : OA) (l1 : Nat) (c1 : Nat) (x2 : OA) (l2 : Nat) (c2 : Nat) (x7 : OA) (l7 : Nat) (c7 : Nat) (H : Heap) : Prop :=
 r08_join_14 Q E x0 x1 l1 c1 x2 l2 c2 x7 l7 c7 0 H

def r08_join_17_M (Q : QT) (E : ET) (τ : Tau) (H : Heap) : Prop := mI .i64 (τ 0) fun x0 => mSl (τ 1) fun x1 l1 c1 => mSl (τ 2) fun x2 l2 c2 => mSl (τ 7) fun x7 l7 c7 => r08_join_17 Q E x0 x1 l1 c1 x2 l2 c2 x7 l7 c7 H

theorem r08_join_18ok (Q : QT) (E : ET) (τ : Tau) (H : Heap) (h : r08_join_17_M Q E τ H) : vc Pr r08_join_p14 τ (r08_join_q8 Q E) E H :=
  vI (i := 0) h (fun x0 h => vSl (i := 1) h (fun x1 l1 c1 h => vSl (i := 2) h (fun x2 l2 c2 h => vSl (i := 7) h (fun x7 l7 c7 h => (conv (by kernel_rfl) h)))))

theorem r08_join_19ok (Q : QT) (E : ET) (τ : Tau) (H : Heap) (h : r08_join_17_M Q E τ H) : vc Pr r08_join_p8 τ (r08_join_q4 Q E) E H :=
  (conv (B := vc Pr r08_join_p8 τ (r08_join_q4 Q E) E H) (by kernel_rfl) (vc_seq (K := (r08_join_14_M Q E)) (r08_join_18ok Q E τ H h) (r08_join_16ok Q E)))

theorem r08_join_20ok (Q : QT) (E : ET) (τ : Tau) (H : Heap) (h : r08_join_17_M Q E τ H) : vc Pr r08_join_p2 τ (r08_join_q1 Q E) E H :=
  (conv (B := vc Pr r08_join_p2 τ (r08_join_q1 Q E) E H) (by kernel_rfl) (vc_seq (K := (r08_join_6_M Q E)) (r08_join_19ok Q E τ H h) (r08_join_8ok Q E)))

@[reducible] noncomputable def r08_join_q9 (Q : QT) (E : ET) : Exit → Tau → Heap → Prop := (xthen (r08_join_17_M Q E) (r08_join_q1 Q E))

@[reducible] noncomputable def r08_join_p15 : Code := sA r08_join_p1

def r08_join_21 (Q : QT) (E : ET) (x0 : Int) (x1 : OA) (l1 : Nat) (c1 : Nat) (x2 : OA) (l2 : Nat) (c2 : Nat) (H : Heap) : Prop :=
 nw (.cells #[] 48 (0, 0)) H fun i105 H106 =>
 app Pr 23 (some ⟨i105, 0, none⟩) 0 0 (.slice x1 l1 c1) H106 fun p107 l108 c109 H110 =>
 r08_join_17 Q E x0 x1 l1 c1 x2 l2 c2 p107 l108 c109 H110

def r08_join_21_M (Q : QT) (E : ET) (τ : Tau) (H : Heap) : Prop := mI .i64 (τ 0) fun x0 => mSl (τ 1) fun x1 l1 c1 => mSl (τ 2) fun x2 l2 c2 => r08_join_21 Q E x0 x1 l1 c1 x2 l2 c2 H

theorem r08_join_22ok (Q : QT) (E : ET) (τ : Tau) (H : Heap) (h : r08_join_21_M Q E τ H) : vc Pr r08_join_p15 τ (r08_join_q9 Q E) E H :=
  vI (i := 0) h (fun x0 h => vSl (i := 1) h (fun x1 l1 c1 h => vSl (i := 2) h (fun x2 l2 c2 h => (conv (by kernel_rfl) h))))

theorem r08_join_23ok (Q : QT) (E : ET) (τ : Tau) (H : Heap) (h : r08_join_21_M Q E τ H) : vc Pr r08_join_p1 τ (r08_join_q1 Q E) E H :=
  (conv (B := vc Pr r08_join_p1 τ (r08_join_q1 Q E) E H) (by kernel_rfl) (vc_seq (K := (r08_join_17_M Q E)) (r08_join_22ok Q E τ H h) (r08_join_20ok Q E)))

@[reducible] noncomputable def r08_join_q10 (Q : QT) (E : ET) : Exit → Tau → Heap → Prop := (xthen (r08_join_21_M Q E) (r08_join_q1 Q E))

@[reducible] noncomputable def r08_join_p16 : Code := sA r08_join_p0

def r08_join (Q : QT) (E : ET) (a0 : Int) (a1 : OA) (a1l : Nat) (a1c : Nat) (a2 : OA) (a2l : Nat) (a2c : Nat) (H : Heap) : Prop :=
 r08_join_21 Q E a0 a1 a1l a1c a2 a2l a2c H

theorem r08_join_fn (a0 : Int) (a1 : OA) (a1l : Nat) (a1c : Nat) (a2 : OA) (a2l : Nat) (a2c : Nat) (Q : QT) (E : ET) (H : Heap) (h : r08_join Q E a0 a1 a1l a1c a2 a2l a2c H)   : Does Pr 91 #[(.int .i64 a0), (.slice a1 a1l a1c), (.slice a2 a2l a2c)] H Q E :=
  Fn_of_vc (fn := Try.f91) (c := r08_join_p0) (args := [(.int .i64 a0), (.slice a1 a1l a1c), (.slice a2 a2l a2c)]) mixed (by kernel_rfl) (by kernel_rfl) (by kernel_rfl) (by kernel_rfl) (by kernel_rfl) ((conv (B := vc Pr r08_join_p0 (argT [(.int .i64 a0), (.slice a1 a1l a1c), (.slice a2 a2l a2c)]) (r08_join_q1 Q E) E H) (by kernel_rfl) (vc_seq (K := (r08_join_21_M Q E)) (conv (B := vc Pr r08_join_p16 (argT [(.int .i64 a0), (.slice a1 a1l a1c), (.slice a2 a2l a2c)]) (r08_join_q10 Q E) E H) (by kernel_rfl) h) (r08_join_23ok Q E))))

/-! (*jobmux/jobmuxref08.parser).part -/
@[reducible] noncomputable def r08_parser_part_q1 (Q : QT) (E : ET) : Exit → Tau → Heap → Prop := (retQ Pr (Try.f100).results.toList Q)

@[reducible] noncomputable def r08_parser_part_p0 : Code := bodyOf Try.f100

@[reducible] noncomputable def r08_parser_part_p1 : Code := sB r08_parser_part_p0

@[reducible] noncomputable def r08_parser_part_p2 : Code := sB r08_parser_part_p1

@[reducible] noncomputable def r08_parser_part_p3 : Code := sB r08_parser_part_p2

def r08_parser_part_1 (Q : QT) (E : ET) (x3 : OA) (l3 : Nat) (c3 : Nat) (H : Heap) : Prop :=
 Q (.slice x3 l3 c3) H

def r08_parser_part_1_M (Q : QT) (E : ET) (τ : Tau) (H : Heap) : Prop := mSl (τ 3) fun x3 l3 c3 => r08_parser_part_1 Q E x3 l3 c3 H

theorem r08_parser_part_2ok (Q : QT) (E : ET) (τ : Tau) (H : Heap) (h : r08_parser_part_1_M Q E τ H) : vc Pr r08_parser_part_p3 τ (r08_parser_part_q1 Q E) E H :=
  vSl (i := 3) h (fun x3 l3 c3 h => (conv (by kernel_rfl) h))

@[reducible] noncomputable def r08_parser_part_q2 (Q : QT) (E : ET) : Exit → Tau → Heap → Prop := (xthen (r08_parser_part_1_M Q E) (r08_parser_part_q1 Q E))

@[reducible] noncomputable def r08_parser_part_p4 : Code := sA r08_parser_part_p2

@[reducible] noncomputable def r08_parser_part_q3 (Q : QT) (E : ET) : Exit → Tau → Heap → Prop := (xblock 0 (r08_parser_part_q2 Q E))

@[reducible] noncomputable def r08_parser_part_p5 : Code := sI r08_parser_part_p4

@[reducible] noncomputable def r08_parser_part_q4 (nx32 : Option Addr → Nat → Nat → HP) (Q : QT) (E : ET) : Exit → Tau → Heap → Prop := (xthen (fun τ H => mSl (τ 3) fun x3' l3' c3' => nx32 x3' l3' c3' H) (r08_parser_part_q3 Q E))

@[reducible] noncomputable def r08_parser_part_p6 : Code := sI r08_parser_part_p5

@[reducible] noncomputable def r08_parser_part_p7 : Code := sB r08_parser_part_p6

@[reducible] noncomputable def r08_parser_part_q5 (nx32 : Option Addr → Nat → Nat → HP) (Q : QT) (E : ET) : Exit → Tau → Heap → Prop := (xblock 1 (r08_parser_part_q4 nx32 Q E))

@[reducible] noncomputable def r08_parser_part_p8 : Code := sI r08_parser_part_p7

@[reducible] noncomputable def r08_parser_part_p9 : Code := sB r08_parser_part_p8

def r08_parser_part_3 (nx32 : Option Addr → Nat → Nat → HP) (Q : QT) (E : ET) (x0 : OA) (x3 : OA) (l3 : Nat) (c3 : Nat) (H : Heap) : Prop :=
 ptr x0 fun q55 =>
 ldI .i64 (Addr.add q55 1) H fun n56 =>
 ptr x0 fun q57 =>
 wr (Addr.add q57 1) [(.int .i64 (IntKind.wrap .i64 (n56 + 1)))] H fun H58 =>
 nx32 x3 l3 c3 H58

def r08_parser_part_3_M (nx32 : Option Addr → Nat → Nat → HP) (Q : QT) (E : ET) (τ : Tau) (H : Heap) : Prop := mP (τ 0) fun x0 => mSl (τ 3) fun x3 l3 c3 => r08_parser_part_3 nx32 Q E x0 x3 l3 c3 H

theorem r08_parser_part_4ok (nx32 : Option Addr → Nat → Nat → HP) (Q : QT) (E : ET) (τ : Tau) (H : Heap) (h : r08_parser_part_3_M nx32 Q E τ H) : vc Pr r08_parser_part_p9 τ (r08_parser_part_q5 nx32 Q E) E H :=
  vP (i := 0) h (fun x0 h => vSl (i := 3) h (fun x3 l3 c3 h => (conv (by kernel_rfl) h)))

@[reducible] noncomputable def r08_parser_part_q6 (nx32 : Option Addr → Nat → Nat → HP) (Q : QT) (E : ET) : Exit → Tau → Heap → Prop := (xthen (r08_parser_part_3_M nx32 Q E) (r08_parser_part_q5 nx32 Q E))

@[reducible] noncomputable def r08_parser_part_p10 : Code := sA r08_parser_part_p8

def r08_parser_part_5 (nx32 : Option Addr → Nat → Nat → HP) (Q : QT) (E : ET) (x0 : OA) (x3 : OA) (l3 : Nat) (c3 : Nat) (H : Heap) : Prop :=
 ptr x0 fun q59 =>
 ldS q59 H fun s60 =>
 ptr x0 fun q61 =>
 ldI .i64 (Addr.add q61 1) H fun n62 =>
 (0 ≤ (n62 : Int) ∧ (n62 : Int) < ((ByteArray.size s60 : Nat) : Int)) ∧ sel (((sAt s60 n62) : Int) == 42)
 (Does Pr 91 #[(.int .i64 5), (.slice x3 l3 c3), (.slice none 0 0)] H (fun v63 H64 =>
 ∃ (p65 : OA) (l66 c67 : Nat), v63 = (.slice p65 l66 c67) ∧ r08_parser_part_3 nx32 Q E x0 p65 l66 c67 H64) E)
 (sel (((sAt s60 n62) : Int) == 43)
 (Does Pr 91 #[(.int .i64 6), (.slice x3 l3 c3), (.slice none 0 0)] H (fun v68 H69 =>
 ∃ (p70 : OA) (l71 c72 : Nat), v68 = (.slice p70 l71 c72) ∧ r08_parser_part_3 nx32 Q E x0 p70 l71 c72 H69) E)
 (sel (((sAt s60 n62) : Int) == 63)
 (Does Pr 91 #[(.int .i64 7), (.slice x3 l3 c3), (.slice none 0 0)] H (fun v73 H74 =>
 ∃ (p75 : OA) (l76 c77 : Nat), v73 = (.slice p75 l76 c77) ∧ r08_parser_part_3 nx32 Q E x0 p75 l76 c77 H74) E)
 (Q (.slice x3 l3 c3) H)))

def r08_parser_part_5_M (nx32 : Option Addr → Nat → Nat → HP) (Q : QT) (E : ET) (τ : Tau) (H : Heap) : Prop := mP (τ 0) fun x0 => mSl (τ 3) fun x3 l3 c3 => r08_parser_part_5 nx32 Q E x0 x3 l3 c3 H

theorem r08_parser_part_6ok (nx32 : Option Addr → Nat → Nat → HP) (Q : QT) (E : ET) (τ : Tau) (H : Heap) (h : r08_parser_part_5_M nx32 Q E τ H) : vc Pr r08_parser_part_p10 τ (r08_parser_part_q6 nx32 Q E) E H :=
  vP (i := 0) h (fun x0 h => vSl (i := 3) h (fun x3 l3 c3 h => (conv (by kernel_rfl) h)))

theorem r08_parser_part_7ok (nx32 : Option Addr → Nat → Nat → HP) (Q : QT) (E : ET) (τ : Tau) (H : Heap) (h : r08_parser_part_5_M nx32 Q E τ H) : vc Pr r08_parser_part_p8 τ (r08_parser_part_q5 nx32 Q E) E H :=
  (conv (B := vc Pr r08_parser_part_p8 τ (r08_parser_part_q5 nx32 Q E) E H) (by kernel_rfl) (vc_seq (K := (r08_parser_part_3_M nx32 Q E)) (r08_parser_part_6ok nx32 Q E τ H h) (r08_parser_part_4ok nx32 Q E)))

theorem r08_parser_part_8ok (nx32 : Option Addr → Nat → Nat → HP) (Q : QT) (E : ET) (τ : Tau) (H : Heap) (h : r08_parser_part_5_M nx32 Q E τ H) : vc Pr r08_parser_part_p7 τ (r08_parser_part_q4 nx32 Q E) E H :=
  (conv (B := vc Pr r08_parser_part_p7 τ (r08_parser_part_q4 nx32 Q E) E H) (by kernel_rfl) (r08_parser_part_7ok nx32 Q E τ H h))

@[reducible] noncomputable def r08_parser_part_q7 (nx32 : Option Addr → Nat → Nat → HP) (Q : QT) (E : ET) : Exit → Tau → Heap → Prop := (xthen (r08_parser_part_5_M nx32 Q E) (r08_parser_part_q4 nx32 Q E))

@[reducible] noncomputable def r08_parser_part_p11 : Code := sA r08_parser_part_p6

def r08_parser_part_9 (nx32 : Option Addr → Nat → Nat → HP) (Q : QT) (E : ET) (x0 : OA) (x3 : OA) (l3 : Nat) (c3 : Nat) (H : Heap) : Prop :=
 Does Pr 90 #[(.pointer x0)] H (fun v78 H79 =>
 ∃ b80 : Bool, v78 = (.bool b80) ∧ sel b80
 (r08_parser_part_5 nx32 Q E x0 x3 l3 c3 H79)
 (r08_parser_part_1 Q E x3 l3 c3 H79)) E

def r08_parser_part_9_M (nx32 : Option Addr → Nat → Nat → HP) (Q : QT) (E : ET) (τ : Tau) (H : Heap) : Prop := mP (τ 0) fun x0 => mSl (τ 3) fun x3 l3 c3 => r08_parser_part_9 nx32 Q E x0 x3 l3 c3 H

theorem r08_parser_part_10ok (nx32 : Option Addr → Nat → Nat → HP) (Q : QT) (E : ET) (τ : Tau) (H : Heap) (h : r08_parser_part_9_M nx32 Q E τ H) : vc Pr r08_parser_part_p11 τ (r08_parser_part_q7 nx32 Q E) E H :=
  vP (i := 0) h (fun x0 h => vSl (i := 3) h (fun x3 l3 c3 h => (conv (by kernel_rfl) h)))

theorem r08_parser_part_11ok (nx32 : Option Addr → Nat → Nat → HP) (Q : QT) (E : ET) (τ : Tau) (H : Heap) (h : r08_parser_part_9_M nx32 Q E τ H) : vc Pr r08_parser_part_p6 τ (r08_parser_part_q4 nx32 Q E) E H :=
  (conv (B := vc Pr r08_parser_part_p6 τ (r08_parser_part_q4 nx32 Q E) E H) (by kernel_rfl) (vc_seq (K := (r08_parser_part_5_M nx32 Q E)) (r08_parser_part_10ok nx32 Q E τ H h) (r08_parser_part_8ok nx32 Q E)))

def r08_parser_part_12 (Q : QT) (E : ET) (x0 : OA) (x3 : OA) (l3 : Nat) (c3 : Nat) (H : Heap) : Prop :=
 ∃ (I : Option Addr → Nat → Nat → HP) (μ : Option Addr → Nat → Nat → Heap → Nat), I x3 l3 c3 H ∧ ∀ (x3 : OA) (l3 : Nat) (c3 : Nat) (H : Heap), I x3 l3 c3 H →
 r08_parser_part_9 (fun x3' l3' c3' H1 => I x3' l3' c3' H1 ∧ μ x3' l3' c3' H1 < μ x3 l3 c3 H) Q E x0 x3 l3 c3 H

def r08_parser_part_12_M (Q : QT) (E : ET) (τ : Tau) (H : Heap) : Prop := mP (τ 0) fun x0 => mSl (τ 3) fun x3 l3 c3 => r08_parser_part_12 Q E x0 x3 l3 c3 H

theorem r08_parser_part_13ok (Q : QT) (E : ET) (τ : Tau) (H : Heap) (h : r08_parser_part_12_M Q E τ H) : vc Pr r08_parser_part_p5 τ (r08_parser_part_q3 Q E) E H :=
  vP (i := 0) h (fun x0 h => vSl (i := 3) h (fun x3 l3 c3 h => match h with | ⟨I, μ, h0, hr⟩ => (conv (B := vc Pr r08_parser_part_p5 (Tau.upd (Tau.upd τ 0 (.pointer x0)) 3 (.slice x3 l3 c3)) (r08_parser_part_q3 Q E) E H) (by kernel_rfl) (vc_loop (c := sI r08_parser_part_p5) (τ := (Tau.upd (Tau.upd τ 0 (.pointer x0)) 3 (.slice x3 l3 c3))) [0] (fun τ H => mSl (τ 3) fun x3' l3' c3' => I x3' l3' c3' H) (fun τ H => μ (gL1 (τ 3)) (gL2 (τ 3)) (gL3 (τ 3)) H) (by kernel_rfl) h0 (fun τ1 H1 hf hI => fix_elim (τ := τ1) (i := 0) (v := (.pointer x0)) (G := fun τ => vc Pr (sI r08_parser_part_p5) τ (xthen (fun τ2 H2 => (mSl (τ2 3) fun x3' l3' c3' => I x3' l3' c3' H2) ∧ μ (gL1 (τ2 3)) (gL2 (τ2 3)) (gL3 (τ2 3)) H2 < μ (gL1 (τ 3)) (gL2 (τ 3)) (gL3 (τ 3)) H1) (r08_parser_part_q3 Q E)) E H1) (hf 0 (by simp)) (mSl_elim (i := 3) (G := fun τ => vc Pr (sI r08_parser_part_p5) τ (xthen (fun τ2 H2 => (mSl (τ2 3) fun x3' l3' c3' => I x3' l3' c3' H2) ∧ μ (gL1 (τ2 3)) (gL2 (τ2 3)) (gL3 (τ2 3)) H2 < μ (gL1 (τ 3)) (gL2 (τ 3)) (gL3 (τ 3)) H1) (r08_parser_part_q3 Q E)) E H1) hI (fun x3r l3r c3r h => (conv (B := vc Pr (sI r08_parser_part_p5) (Tau.upd (Tau.upd τ1 0 (.pointer x0)) 3 (.slice x3r l3r c3r)) (xthen (fun τ2 H2 => (mSl (τ2 3) fun x3' l3' c3' => I x3' l3' c3' H2) ∧ μ (gL1 (τ2 3)) (gL2 (τ2 3)) (gL3 (τ2 3)) H2 < μ (gL1 ((Tau.upd (Tau.upd τ1 0 (.pointer x0)) 3 (.slice x3r l3r c3r)) 3)) (gL2 ((Tau.upd (Tau.upd τ1 0 (.pointer x0)) 3 (.slice x3r l3r c3r)) 3)) (gL3 ((Tau.upd (Tau.upd τ1 0 (.pointer x0)) 3 (.slice x3r l3r c3r)) 3)) H1) (r08_parser_part_q3 Q E)) E H1) (by kernel_rfl) (vc_xthen (r08_parser_part_11ok (fun x3' l3' c3' H2 => I x3' l3' c3' H2 ∧ μ x3' l3' c3' H2 < μ x3r l3r c3r H1) Q E (Tau.upd (Tau.upd τ1 0 (.pointer x0)) 3 (.slice x3r l3r c3r)) H1 (conv (B := r08_parser_part_9_M (fun x3' l3' c3' H2 => I x3' l3' c3' H2 ∧ μ x3' l3' c3' H2 < μ x3r l3r c3r H1) Q E (Tau.upd (Tau.upd τ1 0 (.pointer x0)) 3 (.slice x3r l3r c3r)) H1) (by kernel_rfl) (hr x3r l3r c3r H1 h))) (fun τ2 H2 hk => mSl_elim (i := 3) (G := fun τ => (mSl (τ 3) fun x3' l3' c3' => I x3' l3' c3' H2) ∧ μ (gL1 (τ 3)) (gL2 (τ 3)) (gL3 (τ 3)) H2 < μ x3r l3r c3r H1) hk (fun x3' l3' c3' h => h)))))))))))

theorem r08_parser_part_14ok (Q : QT) (E : ET) (τ : Tau) (H : Heap) (h : r08_parser_part_12_M Q E τ H) : vc Pr r08_parser_part_p4 τ (r08_parser_part_q2 Q E) E H :=
  (conv (B := vc Pr r08_parser_part_p4 τ (r08_parser_part_q2 Q E) E H) (by kernel_rfl) (r08_parser_part_13ok Q E τ H h))

theorem r08_parser_part_15ok (Q : QT) (E : ET) (τ : Tau) (H : Heap) (h : r08_parser_part_12_M Q E τ H) : vc Pr r08_parser_part_p2 τ (r08_parser_part_q1 Q E) E H :=
  (conv (B := vc Pr r08_parser_part_p2 τ (r08_parser_part_q1 Q E) E H) (by kernel_rfl) (vc_seq (K := (r08_parser_part_1_M Q E)) (r08_parser_part_14ok Q E τ H h) (r08_parser_part_2ok Q E)))

@[reducible] noncomputable def r08_parser_part_q8 (Q : QT) (E : ET) : Exit → Tau → Heap → Prop := (xthen (r08_parser_part_12_M Q E) (r08_parser_part_q1 Q E))

@[reducible] noncomputable def r08_parser_part_p12 : Code := sA r08_parser_part_p1

def r08_parser_part_16 (Q : QT) (E : ET) (x0 : OA) (H : Heap) : Prop :=
 Does Pr 105 #[(.pointer x0)] H (fun v81 H82 =>
 ∃ (p83 : OA) (l84 c85 : Nat), v81 = (.slice p83 l84 c85) ∧ r08_parser_part_12 Q E x0 p83 l84 c85 H82) E

def r08_parser_part_16_M (Q : QT) (E : ET) (τ : Tau) (H : Heap) : Prop := mP (τ 0) fun x0 => r08_parser_part_16 Q E x0 H

theorem r08_parser_part_17ok (Q : QT) (E : ET) (τ : Tau) (H : Heap) (h : r08_parser_part_16_M Q E τ H) : vc Pr r08_parser_part_p12 τ (r08_parser_part_q8 Q E) E H :=
  vP (i := 0) h (fun x0 h => (conv (by kernel_rfl) h))

theorem r08_parser_part_18ok (Q : QT) (E : ET) (τ : Tau) (H : Heap) (h : r08_parser_part_16_M Q E τ H) : vc Pr r08_parser_part_p1 τ (r08_parser_part_q1 Q E) E H :=
  (conv (B := vc Pr r08_parser_part_p1 τ (r08_parser_part_q1 Q E) E H) (by kernel_rfl) (vc_seq (K := (r08_parser_part_12_M Q E)) (r08_parser_part_17ok Q E τ H h) (r08_parser_part_15ok Q E)))

@[reducible] noncomputable def r08_parser_part_q9 (Q : QT) (E : ET) : Exit → Tau → Heap → Prop := (xthen (r08_parser_part_16_M Q E) (r08_parser_part_q1 Q E))

@[reducible] noncomputable def r08_parser_part_p13 : Code := sA r08_parser_part_p0

def r08_parser_part (Q : QT) (E : ET) (a0 : OA) (H : Heap) : Prop :=
 r08_parser_part_16 Q E a0 H

theorem r08_parser_part_fn (a0 : OA) (Q : QT) (E : ET) (H : Heap) (h : r08_parser_part Q E a0 H)   : Does Pr 100 #[(.pointer a0)] H Q E :=
  Fn_of_vc (fn := Try.f100) (c := r08_parser_part_p0) (args := [(.pointer a0)]) mixed (by kernel_rfl) (by kernel_rfl) (by kernel_rfl) (by kernel_rfl) (by kernel_rfl) ((conv (B := vc Pr r08_parser_part_p0 (argT [(.pointer a0)]) (r08_parser_part_q1 Q E) E H) (by kernel_rfl) (vc_seq (K := (r08_parser_part_16_M Q E)) (conv (B := vc Pr r08_parser_part_p13 (argT [(.pointer a0)]) (r08_parser_part_q9 Q E) E H) (by kernel_rfl) h) (r08_parser_part_18ok Q E))))

/-! jobmux/jobmuxref08.leaf -/
@[reducible] noncomputable def r08_leaf_q1 (Q : QT) (E : ET) : Exit → Tau → Heap → Prop := (retQ Pr (Try.f101).results.toList Q)

@[reducible] noncomputable def r08_leaf_p0 : Code := bodyOf Try.f101

def r08_leaf (Q : QT) (E : ET) (a0 : Int) (a1_0 : Int) (a1_1 : Int) (a1_2 : Int) (a1_3 : Int) (H : Heap) : Prop :=
 nw (.cells #[(.int .u64 a1_0), (.int .u64 a1_1), (.int .u64 a1_2), (.int .u64 a1_3)] 46 (0, 0)) H fun i1 H2 =>
 ∃ n3 n4 n5 n6 : Int, Heap.rd H2 ⟨i1, 0, none⟩ 0 [(.int .u64 n3), (.int .u64 n4), (.int .u64 n5), (.int .u64 n6)] ∧ nw (.cells #[(.int .i64 a0), (.int .i64 0), (.int .i64 0), (.int .u64 n3), (.int .u64 n4), (.int .u64 n5), (.int .u64 n6)] 48 (0, 0)) H2 fun i7 H8 =>
 Q (.slice (some ⟨i7, 0, none⟩) 1 1) H8

theorem r08_leaf_fn (a0 : Int) (a1_0 : Int) (a1_1 : Int) (a1_2 : Int) (a1_3 : Int) (Q : QT) (E : ET) (H : Heap) (h : r08_leaf Q E a0 a1_0 a1_1 a1_2 a1_3 H)   : Does Pr 101 #[(.int .i64 a0), (.agg #[(.int .u64 a1_0), (.int .u64 a1_1), (.int .u64 a1_2), (.int .u64 a1_3)])] H Q E :=
  Fn_of_vc (fn := Try.f101) (c := r08_leaf_p0) (args := [(.int .i64 a0), (.agg #[(.int .u64 a1_0), (.int .u64 a1_1), (.int .u64 a1_2), (.int .u64 a1_3)])]) mixed (by kernel_rfl) (by kernel_rfl) (by kernel_rfl) (by kernel_rfl) (by kernel_rfl) ((conv (B := vc Pr r08_leaf_p0 (argT [(.int .i64 a0), (.agg #[(.int .u64 a1_0), (.int .u64 a1_1), (.int .u64 a1_2), (.int .u64 a1_3)])]) (r08_leaf_q1 Q E) E H) (by kernel_rfl) h))

/-! jobmux/jobmuxref08.shifted -/
@[reducible] noncomputable def r08_shifted_q1 (Q : QT) (E : ET) : Exit → Tau → Heap → Prop := (retQ Pr (Try.f102).results.toList Q)

@[reducible] noncomputable def r08_shifted_p0 : Code := bodyOf Try.f102

@[reducible] noncomputable def r08_shifted_p1 : Code := sB r08_shifted_p0

@[reducible] noncomputable def r08_shifted_p2 : Code := sB r08_shifted_p1

def r08_shifted_1 (Q : QT) (E : ET)  (H : Heap) : Prop :=
 Q (.int .i64 0) H

def r08_shifted_1_M (Q : QT) (E : ET) (τ : Tau) (H : Heap) : Prop := r08_shifted_1 Q E  H

theorem r08_shifted_2ok (Q : QT) (E : ET) (τ : Tau) (H : Heap) (h : r08_shifted_1_M Q E τ H) : vc Pr r08_shifted_p2 τ (r08_shifted_q1 Q E) E H :=
  (conv (B := vc Pr r08_shifted_p2 τ (r08_shifted_q1 Q E) E H) (by kernel_rfl) h)

@[reducible] noncomputable def r08_shifted_q2 (Q : QT) (E : ET) : Exit → Tau → Heap → Prop := (xthen (r08_shifted_1_M Q E) (r08_shifted_q1 Q E))

@[reducible] noncomputable def r08_shifted_p3 : Code := sA r08_shifted_p1

def r08_shifted_3 (Q : QT) (E : ET) (x0 : Int) (x1 : Int) (x2 : Int) (x3 : Int) (H : Heap) : Prop :=
 Does Pr 42 #[(.int .i64 x0)] H (fun v4 H5 =>
 ∃ n6 : Int, v4 = (.int .i64 n6) ∧ sel (decide ((x1 : Int) < n6))
 (Q (.int .i64 (IntKind.wrap .i64 (x2 + x3))) H5)
 (r08_shifted_1 Q E  H5)) E

def r08_shifted_3_M (Q : QT) (E : ET) (τ : Tau) (H : Heap) : Prop := mI .i64 (τ 0) fun x0 => mI .i64 (τ 1) fun x1 => mI .i64 (τ 2) fun x2 => mI .i64 (τ 3) fun x3 => r08_shifted_3 Q E x0 x1 x2 x3 H

theorem r08_shifted_4ok (Q : QT) (E : ET) (τ : Tau) (H : Heap) (h : r08_shifted_3_M Q E τ H) : vc Pr r08_shifted_p3 τ (r08_shifted_q2 Q E) E H :=
  vI (i := 0) h (fun x0 h => vI (i := 1) h (fun x1 h => vI (i := 2) h (fun x2 h => vI (i := 3) h (fun x3 h => (conv (by kernel_rfl) h)))))

theorem r08_shifted_5ok (Q : QT) (E : ET) (τ : Tau) (H : Heap) (h : r08_shifted_3_M Q E τ H) : vc Pr r08_shifted_p1 τ (r08_shifted_q1 Q E) E H :=
  (conv (B := vc Pr r08_shifted_p1 τ (r08_shifted_q1 Q E) E H) (by kernel_rfl) (vc_seq (K := (r08_shifted_1_M Q E)) (r08_shifted_4ok Q E τ H h) (r08_shifted_2ok Q E)))

@[reducible] noncomputable def r08_shifted_q3 (Q : QT) (E : ET) : Exit → Tau → Heap → Prop := (xthen (r08_shifted_3_M Q E) (r08_shifted_q1 Q E))

@[reducible] noncomputable def r08_shifted_p4 : Code := sA r08_shifted_p0

def r08_shifted (Q : QT) (E : ET) (a0 : Int) (a1 : Int) (a2 : Int) (a3 : Int) (H : Heap) : Prop :=
 r08_shifted_3 Q E a0 a1 a2 a3 H

theorem r08_shifted_fn (a0 : Int) (a1 : Int) (a2 : Int) (a3 : Int) (Q : QT) (E : ET) (H : Heap) (h : r08_shifted Q E a0 a1 a2 a3 H)   : Does Pr 102 #[(.int .i64 a0), (.int .i64 a1), (.int .i64 a2), (.int .i64 a3)] H Q E :=
  Fn_of_vc (fn := Try.f102) (c := r08_shifted_p0) (args := [(.int .i64 a0), (.int .i64 a1), (.int .i64 a2), (.int .i64 a3)]) mixed (by kernel_rfl) (by kernel_rfl) (by kernel_rfl) (by kernel_rfl) (by kernel_rfl) ((conv (B := vc Pr r08_shifted_p0 (argT [(.int .i64 a0), (.int .i64 a1), (.int .i64 a2), (.int .i64 a3)]) (r08_shifted_q1 Q E) E H) (by kernel_rfl) (vc_seq (K := (r08_shifted_3_M Q E)) (conv (B := vc Pr r08_shifted_p4 (argT [(.int .i64 a0), (.int .i64 a1), (.int .i64 a2), (.int .i64 a3)]) (r08_shifted_q3 Q E) E H) (by kernel_rfl) h) (r08_shifted_5ok Q E))))

/-! (*jobmux/jobmuxref08.parser).atom -/
@[reducible] noncomputable def r08_parser_atom_q1 (Q : QT) (E : ET) : Exit → Tau → Heap → Prop := (retQ Pr (Try.f105).results.toList Q)

@[reducible] noncomputable def r08_parser_atom_p0 : Code := bodyOf Try.f105

@[reducible] noncomputable def r08_parser_atom_p1 : Code := sB r08_parser_atom_p0

@[reducible] noncomputable def r08_parser_atom_p2 : Code := sB r08_parser_atom_p1

@[reducible] noncomputable def r08_parser_atom_p3 : Code := sB r08_parser_atom_p2

@[reducible] noncomputable def r08_parser_atom_p4 : Code := sB r08_parser_atom_p3

def r08_parser_atom_1 (Q : QT) (E : ET) (x3 : Int) (H : Heap) : Prop :=
 Does Pr 108 #[(.agg #[(.int .u64 0), (.int .u64 0), (.int .u64 0), (.int .u64 0)]), (.int .u8 x3)] H (fun v99 H100 =>
 ∃ n101 n102 n103 n104 : Int, v99 = (.agg #[(.int .u64 n101), (.int .u64 n102), (.int .u64 n103), (.int .u64 n104)]) ∧ Does Pr 101 #[(.int .i64 2), (.agg #[(.int .u64 n101), (.int .u64 n102), (.int .u64 n103), (.int .u64 n104)])] H100 (fun v105 H106 =>
 ∃ (p107 : OA) (l108 c109 : Nat), v105 = (.slice p107 l108 c109) ∧ Q (.slice p107 l108 c109) H106) E) E

def r08_parser_atom_1_M (Q : QT) (E : ET) (τ : Tau) (H : Heap) : Prop := mI .u8 (τ 3) fun x3 => r08_parser_atom_1 Q E x3 H

theorem r08_parser_atom_2ok (Q : QT) (E : ET) (τ : Tau) (H : Heap) (h : r08_parser_atom_1_M Q E τ H) : vc Pr r08_parser_atom_p4 τ (r08_parser_atom_q1 Q E) E H :=
  vI (i := 3) h (fun x3 h => (conv (by kernel_rfl) h))

@[reducible] noncomputable def r08_parser_atom_q2 (Q : QT) (E : ET) : Exit → Tau → Heap → Prop := (xthen (r08_parser_atom_1_M Q E) (r08_parser_atom_q1 Q E))

@[reducible] noncomputable def r08_parser_atom_p5 : Code := sA r08_parser_atom_p3

@[reducible] noncomputable def r08_parser_atom_p6 : Code := sB r08_parser_atom_p5

@[reducible] noncomputable def r08_parser_atom_q3 (Q : QT) (E : ET) : Exit → Tau → Heap → Prop := (xblock 0 (r08_parser_atom_q2 Q E))

@[reducible] noncomputable def r08_parser_atom_p7 : Code := sI r08_parser_atom_p6

@[reducible] noncomputable def r08_parser_atom_p8 : Code := sB r08_parser_atom_p7

@[reducible] noncomputable def r08_parser_atom_p9 : Code := sT r08_parser_atom_p8

def r08_parser_atom_3 (Q : QT) (E : ET)  (H : Heap) : Prop :=
 Does Pr 108 #[(.agg #[(.int .u64 0), (.int .u64 0), (.int .u64 0), (.int .u64 0)]), (.int .u8 10)] H (fun v110 H111 =>
 ∃ n112 n113 n114 n115 : Int, v110 = (.agg #[(.int .u64 n112), (.int .u64 n113), (.int .u64 n114), (.int .u64 n115)]) ∧ Does Pr 107 #[(.agg #[(.int .u64 n112), (.int .u64 n113), (.int .u64 n114), (.int .u64 n115)])] H111 (fun v116 H117 =>
 ∃ n118 n119 n120 n121 : Int, v116 = (.agg #[(.int .u64 n118), (.int .u64 n119), (.int .u64 n120), (.int .u64 n121)]) ∧ Does Pr 101 #[(.int .i64 2), (.agg #[(.int .u64 n118), (.int .u64 n119), (.int .u64 n120), (.int .u64 n121)])] H117 (fun v122 H123 =>
 ∃ (p124 : OA) (l125 c126 : Nat), v122 = (.slice p124 l125 c126) ∧ Q (.slice p124 l125 c126) H123) E) E) E

def r08_parser_atom_3_M (Q : QT) (E : ET) (τ : Tau) (H : Heap) : Prop := r08_parser_atom_3 Q E  H

theorem r08_parser_atom_4ok (Q : QT) (E : ET) (τ : Tau) (H : Heap) (h : r08_parser_atom_3_M Q E τ H) : vc Pr r08_parser_atom_p9 τ (r08_parser_atom_q3 Q E) E H :=
  (conv (B := vc Pr r08_parser_atom_p9 τ (r08_parser_atom_q3 Q E) E H) (by kernel_rfl) h)

@[reducible] noncomputable def r08_parser_atom_p10 : Code := sE r08_parser_atom_p8

@[reducible] noncomputable def r08_parser_atom_p11 : Code := sB r08_parser_atom_p10

@[reducible] noncomputable def r08_parser_atom_p12 : Code := sT r08_parser_atom_p11

def r08_parser_atom_5 (Q : QT) (E : ET)  (H : Heap) : Prop :=
 Does Pr 101 #[(.int .i64 8), (.agg #[(.int .u64 0), (.int .u64 0), (.int .u64 0), (.int .u64 0)])] H (fun v127 H128 =>
 ∃ (p129 : OA) (l130 c131 : Nat), v127 = (.slice p129 l130 c131) ∧ Q (.slice p129 l130 c131) H128) E

def r08_parser_atom_5_M (Q : QT) (E : ET) (τ : Tau) (H : Heap) : Prop := r08_parser_atom_5 Q E  H

theorem r08_parser_atom_6ok (Q : QT) (E : ET) (τ : Tau) (H : Heap) (h : r08_parser_atom_5_M Q E τ H) : vc Pr r08_parser_atom_p12 τ (r08_parser_atom_q3 Q E) E H :=
  (conv (B := vc Pr r08_parser_atom_p12 τ (r08_parser_atom_q3 Q E) E H) (by kernel_rfl) h)

@[reducible] noncomputable def r08_parser_atom_p13 : Code := sE r08_parser_atom_p11

@[reducible] noncomputable def r08_parser_atom_p14 : Code := sB r08_parser_atom_p13

@[reducible] noncomputable def r08_parser_atom_p15 : Code := sT r08_parser_atom_p14

def r08_parser_atom_7 (Q : QT) (E : ET)  (H : Heap) : Prop :=
 Does Pr 101 #[(.int .i64 9), (.agg #[(.int .u64 0), (.int .u64 0), (.int .u64 0), (.int .u64 0)])] H (fun v132 H133 =>
 ∃ (p134 : OA) (l135 c136 : Nat), v132 = (.slice p134 l135 c136) ∧ Q (.slice p134 l135 c136) H133) E

def r08_parser_atom_7_M (Q : QT) (E : ET) (τ : Tau) (H : Heap) : Prop := r08_parser_atom_7 Q E  H

theorem r08_parser_atom_8ok (Q : QT) (E : ET) (τ : Tau) (H : Heap) (h : r08_parser_atom_7_M Q E τ H) : vc Pr r08_parser_atom_p15 τ (r08_parser_atom_q3 Q E) E H :=
  (conv (B := vc Pr r08_parser_atom_p15 τ (r08_parser_atom_q3 Q E) E H) (by kernel_rfl) h)

@[reducible] noncomputable def r08_parser_atom_p16 : Code := sE r08_parser_atom_p14

@[reducible] noncomputable def r08_parser_atom_p17 : Code := sB r08_parser_atom_p16

@[reducible] noncomputable def r08_parser_atom_p18 : Code := sT r08_parser_atom_p17

def r08_parser_atom_9 (Q : QT) (E : ET) (x0 : OA) (H : Heap) : Prop :=
 Does Pr 109 #[(.pointer x0)] H (fun v137 H138 =>
 ∃ n139 n140 n141 n142 : Int, ∃ b143 : Bool, v137 = (.tuple #[(.agg #[(.int .u64 n139), (.int .u64 n140), (.int .u64 n141), (.int .u64 n142)]), (.bool b143)]) ∧ nw (.cells #[(.int .u64 0), (.int .u64 0), (.int .u64 0), (.int .u64 0)] 46 (0, 0)) H138 fun i144 H145 =>
 wr ⟨i144, 0, none⟩ [(.int .u64 n139), (.int .u64 n140), (.int .u64 n141), (.int .u64 n142)] H145 fun H146 =>
 ∃ n147 n148 n149 n150 : Int, Heap.rd H146 ⟨i144, 0, none⟩ 0 [(.int .u64 n147), (.int .u64 n148), (.int .u64 n149), (.int .u64 n150)] ∧ Does Pr 101 #[(.int .i64 2), (.agg #[(.int .u64 n147), (.int .u64 n148), (.int .u64 n149), (.int .u64 n150)])] H146 (fun v151 H152 =>
 ∃ (p153 : OA) (l154 c155 : Nat), v151 = (.slice p153 l154 c155) ∧ Q (.slice p153 l154 c155) H152) E) E

def r08_parser_atom_9_M (Q : QT) (E : ET) (τ : Tau) (H : Heap) : Prop := mP (τ 0) fun x0 => r08_parser_atom_9 Q E x0 H

theorem r08_parser_atom_10ok (Q : QT) (E : ET) (τ : Tau) (H : Heap) (h : r08_parser_atom_9_M Q E τ H) : vc Pr r08_parser_atom_p18 τ (r08_parser_atom_q3 Q E) E H :=
  vP (i := 0) h (fun x0 h => (conv (by kernel_rfl) h))

@[reducible] noncomputable def r08_parser_atom_p19 : Code := sE r08_parser_atom_p17

@[reducible] noncomputable def r08_parser_atom_p20 : Code := sB r08_parser_atom_p19

@[reducible] noncomputable def r08_parser_atom_p21 : Code := sT r08_parser_atom_p20

def r08_parser_atom_11 (Q : QT) (E : ET) (x0 : OA) (H : Heap) : Prop :=
 Does Pr 110 #[(.pointer x0)] H (fun v156 H157 =>
 ∃ n158 n159 n160 n161 : Int, v156 = (.agg #[(.int .u64 n158), (.int .u64 n159), (.int .u64 n160), (.int .u64 n161)]) ∧ Does Pr 101 #[(.int .i64 2), (.agg #[(.int .u64 n158), (.int .u64 n159), (.int .u64 n160), (.int .u64 n161)])] H157 (fun v162 H163 =>
 ∃ (p164 : OA) (l165 c166 : Nat), v162 = (.slice p164 l165 c166) ∧ Q (.slice p164 l165 c166) H163) E) E

def r08_parser_atom_11_M (Q : QT) (E : ET) (τ : Tau) (H : Heap) : Prop := mP (τ 0) fun x0 => r08_parser_atom_11 Q E x0 H

theorem r08_parser_atom_12ok (Q : QT) (E : ET) (τ : Tau) (H : Heap) (h : r08_parser_atom_11_M Q E τ H) : vc Pr r08_parser_atom_p21 τ (r08_parser_atom_q3 Q E) E H :=
  vP (i := 0) h (fun x0 h => (conv (by kernel_rfl) h))

@[reducible] noncomputable def r08_parser_atom_p22 : Code := sE r08_parser_atom_p20

@[reducible] noncomputable def r08_parser_atom_p23 : Code := sB r08_parser_atom_p22

@[reducible] noncomputable def r08_parser_atom_p24 : Code := sT r08_parser_atom_p23

def r08_parser_atom_13 (Q : QT) (E : ET) (x0 : OA) (x3 : Int) (H : Heap) : Prop :=
 Does Pr 57 #[(.pointer x0), (.int .i64 80)] H (fun v167 H168 =>
 r08_parser_atom_1 Q E x3 H168) E

def r08_parser_atom_13_M (Q : QT) (E : ET) (τ : Tau) (H : Heap) : Prop := mP (τ 0) fun x0 => mI .u8 (τ 3) fun x3 => r08_parser_atom_13 Q E x0 x3 H

theorem r08_parser_atom_14ok (Q : QT) (E : ET) (τ : Tau) (H : Heap) (h : r08_parser_atom_13_M Q E τ H) : vc Pr r08_parser_atom_p24 τ (r08_parser_atom_q3 Q E) E H :=
  vP (i := 0) h (fun x0 h => vI (i := 3) h (fun x3 h => (conv (by kernel_rfl) h)))

@[reducible] noncomputable def r08_parser_atom_p25 : Code := sE r08_parser_atom_p23

@[reducible] noncomputable def r08_parser_atom_p26 : Code := sB r08_parser_atom_p25

@[reducible] noncomputable def r08_parser_atom_p27 : Code := sT r08_parser_atom_p26

def r08_parser_atom_15 (Q : QT) (E : ET) (x0 : OA) (x3 : Int) (H : Heap) : Prop :=
 Does Pr 57 #[(.pointer x0), (.int .i64 81)] H (fun v169 H170 =>
 r08_parser_atom_1 Q E x3 H170) E

def r08_parser_atom_15_M (Q : QT) (E : ET) (τ : Tau) (H : Heap) : Prop := mP (τ 0) fun x0 => mI .u8 (τ 3) fun x3 => r08_parser_atom_15 Q E x0 x3 H

theorem r08_parser_atom_16ok (Q : QT) (E : ET) (τ : Tau) (H : Heap) (h : r08_parser_atom_15_M Q E τ H) : vc Pr r08_parser_atom_p27 τ (r08_parser_atom_q3 Q E) E H :=
  vP (i := 0) h (fun x0 h => vI (i := 3) h (fun x3 h => (conv (by kernel_rfl) h)))

@[reducible] noncomputable def r08_parser_atom_p28 : Code := sE r08_parser_atom_p26

@[reducible] noncomputable def r08_parser_atom_p29 : Code := sB r08_parser_atom_p28

@[reducible] noncomputable def r08_parser_atom_p30 : Code := sT r08_parser_atom_p29

@[reducible] noncomputable def r08_parser_atom_p31 : Code := sB r08_parser_atom_p30

@[reducible] noncomputable def r08_parser_atom_p32 : Code := sB r08_parser_atom_p31

@[reducible] noncomputable def r08_parser_atom_p33 : Code := sB r08_parser_atom_p32

def r08_parser_atom_17 (Q : QT) (E : ET) (x0 : OA) (x6 : OA) (l6 : Nat) (c6 : Nat) (H : Heap) : Prop :=
 ptr x0 fun q192 =>
 ldI .i64 (Addr.add q192 1) H fun n193 =>
 ptr x0 fun q194 =>
 wr (Addr.add q194 1) [(.int .i64 (IntKind.wrap .i64 (n193 + 1)))] H fun H195 =>
 ptr x0 fun q196 =>
 ldI .i64 (Addr.add q196 2) H195 fun n197 =>
 ptr x0 fun q198 =>
 wr (Addr.add q198 2) [(.int .i64 (IntKind.wrap .i64 (n197 - 1)))] H195 fun H199 =>
 Q (.slice x6 l6 c6) H199

def r08_parser_atom_17_M (Q : QT) (E : ET) (τ : Tau) (H : Heap) : Prop := mP (τ 0) fun x0 => mSl (τ 6) fun x6 l6 c6 => r08_parser_atom_17 Q E x0 x6 l6 c6 H

theorem r08_parser_atom_18ok (Q : QT) (E : ET) (τ : Tau) (H : Heap) (h : r08_parser_atom_17_M Q E τ H) : vc Pr r08_parser_atom_p33 τ (r08_parser_atom_q3 Q E) E H :=
  vP (i := 0) h (fun x0 h => vSl (i := 6) h (fun x6 l6 c6 h => (conv (by kernel_rfl) h)))

@[reducible] noncomputable def r08_parser_atom_q4 (Q : QT) (E : ET) : Exit → Tau → Heap → Prop := (xthen (r08_parser_atom_17_M Q E) (r08_parser_atom_q3 Q E))

@[reducible] noncomputable def r08_parser_atom_p34 : Code := sA r08_parser_atom_p32

@[reducible] noncomputable def r08_parser_atom_p35 : Code := sB r08_parser_atom_p34

def r08_parser_atom_19 (Q : QT) (E : ET) (x0 : OA) (x6 : OA) (l6 : Nat) (c6 : Nat) (x96 : Bool) (H : Heap) : Prop :=
 sel x96
 (Does Pr 57 #[(.pointer x0), (.int .i64 83)] H (fun v206 H207 =>
 r08_parser_atom_17 Q E x0 x6 l6 c6 H207) E)
 (r08_parser_atom_17 Q E x0 x6 l6 c6 H)

def r08_parser_atom_19_M (Q : QT) (E : ET) (τ : Tau) (H : Heap) : Prop := mP (τ 0) fun x0 => mSl (τ 6) fun x6 l6 c6 => mB (τ 96) fun x96 => r08_parser_atom_19 Q E x0 x6 l6 c6 x96 H

theorem r08_parser_atom_20ok (Q : QT) (E : ET) (τ : Tau) (H : Heap) (h : r08_parser_atom_19_M Q E τ H) : vc Pr r08_parser_atom_p35 τ (r08_parser_atom_q4 Q E) E H :=
  vP (i := 0) h (fun x0 h => vSl (i := 6) h (fun x6 l6 c6 h => vB (i := 96) h (fun x96 h => (conv (by kernel_rfl) h))))

@[reducible] noncomputable def r08_parser_atom_q5 (Q : QT) (E : ET) : Exit → Tau → Heap → Prop := (xthen (r08_parser_atom_19_M Q E) (r08_parser_atom_q4 Q E))

@[reducible] noncomputable def r08_parser_atom_p36 : Code := sA r08_parser_atom_p34

def r08_parser_atom_21 (Q : QT) (E : ET) (x0 : OA) (x6 : OA) (l6 : Nat) (c6 : Nat) (H : Heap) : Prop :=
 ptr x0 fun q208 =>
 ldI .i64 (Addr.add q208 3) H fun n209 =>
 sel ((n209 : Int) == 0)
 (ptr x0 fun q210 =>
 ldI .i64 (Addr.add q210 1) H fun n211 =>
 ptr x0 fun q212 =>
 ldS q212 H fun s213 =>
 r08_parser_atom_19 Q E x0 x6 l6 c6 (decide ((n211 : Int) ≥ ((ByteArray.size s213 : Nat) : Int))) H)
 (r08_parser_atom_19 Q E x0 x6 l6 c6 false H)

def r08_parser_atom_21_M (Q : QT) (E : ET) (τ : Tau) (H : Heap) : Prop := mP (τ 0) fun x0 => mSl (τ 6) fun x6 l6 c6 => r08_parser_atom_21 Q E x0 x6 l6 c6 H

theorem r08_parser_atom_22ok (Q : QT) (E : ET) (τ : Tau) (H : Heap) (h : r08_parser_atom_21_M Q E τ H) : vc Pr r08_parser_atom_p36 τ (r08_parser_atom_q5 Q E) E H :=
  vP (i := 0) h (fun x0 h => vSl (i := 6) h (fun x6 l6 c6 h => (conv (by kernel_rfl) h)))

theorem r08_parser_atom_23ok (Q : QT) (E : ET) (τ : Tau) (H : Heap) (h : r08_parser_atom_21_M Q E τ H) : vc Pr r08_parser_atom_p34 τ (r08_parser_atom_q4 Q E) E H :=
  (conv (B := vc Pr r08_parser_atom_p34 τ (r08_parser_atom_q4 Q E) E H) (by kernel_rfl) (vc_seq (K := (r08_parser_atom_19_M Q E)) (r08_parser_atom_22ok Q E τ H h) (r08_parser_atom_20ok Q E)))

theorem r08_parser_atom_24ok (Q : QT) (E : ET) (τ : Tau) (H : Heap) (h : r08_parser_atom_21_M Q E τ H) : vc Pr r08_parser_atom_p32 τ (r08_parser_atom_q3 Q E) E H :=
  (conv (B := vc Pr r08_parser_atom_p32 τ (r08_parser_atom_q3 Q E) E H) (by kernel_rfl) (vc_seq (K := (r08_parser_atom_17_M Q E)) (r08_parser_atom_23ok Q E τ H h) (r08_parser_atom_18ok Q E)))

@[reducible] noncomputable def r08_parser_atom_q6 (Q : QT) (E : ET) : Exit → Tau → Heap → Prop := (xthen (r08_parser_atom_21_M Q E) (r08_parser_atom_q3 Q E))

@[reducible] noncomputable def r08_parser_atom_p37 : Code := sA r08_parser_atom_p31

def r08_parser_atom_25 (Q : QT) (E : ET) (x0 : OA) (H : Heap) : Prop :=
 Does Pr 56 #[(.pointer x0)] H (fun v214 H215 =>
 ∃ (p216 : OA) (l217 c218 : Nat), v214 = (.slice p216 l217 c218) ∧ r08_parser_atom_21 Q E x0 p216 l217 c218 H215) E

def r08_parser_atom_25_M (Q : QT) (E : ET) (τ : Tau) (H : Heap) : Prop := mP (τ 0) fun x0 => r08_parser_atom_25 Q E x0 H

theorem r08_parser_atom_26ok (Q : QT) (E : ET) (τ : Tau) (H : Heap) (h : r08_parser_atom_25_M Q E τ H) : vc Pr r08_parser_atom_p37 τ (r08_parser_atom_q6 Q E) E H :=
  vP (i := 0) h (fun x0 h => (conv (by kernel_rfl) h))

theorem r08_parser_atom_27ok (Q : QT) (E : ET) (τ : Tau) (H : Heap) (h : r08_parser_atom_25_M Q E τ H) : vc Pr r08_parser_atom_p31 τ (r08_parser_atom_q3 Q E) E H :=
  (conv (B := vc Pr r08_parser_atom_p31 τ (r08_parser_atom_q3 Q E) E H) (by kernel_rfl) (vc_seq (K := (r08_parser_atom_21_M Q E)) (r08_parser_atom_26ok Q E τ H h) (r08_parser_atom_24ok Q E)))

@[reducible] noncomputable def r08_parser_atom_q7 (Q : QT) (E : ET) : Exit → Tau → Heap → Prop := (xthen (r08_parser_atom_25_M Q E) (r08_parser_atom_q3 Q E))

@[reducible] noncomputable def r08_parser_atom_p38 : Code := sA r08_parser_atom_p30

def r08_parser_atom_28 (Q : QT) (E : ET) (x0 : OA) (H : Heap) : Prop :=
 ptr x0 fun q219 =>
 ldI .i64 (Addr.add q219 2) H fun n220 =>
 ptr x0 fun q221 =>
 wr (Addr.add q221 2) [(.int .i64 (IntKind.wrap .i64 (n220 + 1)))] H fun H222 =>
 ptr x0 fun q223 =>
 ldI .i64 (Addr.add q223 2) H222 fun n224 =>
 sel (decide ((n224 : Int) > 24))
 (Does Pr 57 #[(.pointer x0), (.int .i64 84)] H222 (fun v225 H226 =>
 Q (.slice none 0 0) H226) E)
 (r08_parser_atom_25 Q E x0 H222)

def r08_parser_atom_28_M (Q : QT) (E : ET) (τ : Tau) (H : Heap) : Prop := mP (τ 0) fun x0 => r08_parser_atom_28 Q E x0 H

theorem r08_parser_atom_29ok (Q : QT) (E : ET) (τ : Tau) (H : Heap) (h : r08_parser_atom_28_M Q E τ H) : vc Pr r08_parser_atom_p38 τ (r08_parser_atom_q7 Q E) E H :=
  vP (i := 0) h (fun x0 h => (conv (by kernel_rfl) h))

theorem r08_parser_atom_30ok (Q : QT) (E : ET) (τ : Tau) (H : Heap) (h : r08_parser_atom_28_M Q E τ H) : vc Pr r08_parser_atom_p30 τ (r08_parser_atom_q3 Q E) E H :=
  (conv (B := vc Pr r08_parser_atom_p30 τ (r08_parser_atom_q3 Q E) E H) (by kernel_rfl) (vc_seq (K := (r08_parser_atom_25_M Q E)) (r08_parser_atom_29ok Q E τ H h) (r08_parser_atom_27ok Q E)))

@[reducible] noncomputable def r08_parser_atom_p39 : Code := sE r08_parser_atom_p29

def r08_parser_atom_31 (Q : QT) (E : ET) (x3 : Int) (H : Heap) : Prop :=
 r08_parser_atom_1 Q E x3 H

def r08_parser_atom_31_M (Q : QT) (E : ET) (τ : Tau) (H : Heap) : Prop := mI .u8 (τ 3) fun x3 => r08_parser_atom_31 Q E x3 H

theorem r08_parser_atom_32ok (Q : QT) (E : ET) (τ : Tau) (H : Heap) (h : r08_parser_atom_31_M Q E τ H) : vc Pr r08_parser_atom_p39 τ (r08_parser_atom_q3 Q E) E H :=
  vI (i := 3) h (fun x3 h => (conv (by kernel_rfl) h))

def r08_parser_atom_33 (Q : QT) (E : ET) (x0 : OA) (x3 : Int) (x62 : Bool) (H : Heap) : Prop :=
 sel x62
 (r08_parser_atom_28 Q E x0 H)
 (r08_parser_atom_31 Q E x3 H)

def r08_parser_atom_33_M (Q : QT) (E : ET) (τ : Tau) (H : Heap) : Prop := mP (τ 0) fun x0 => mI .u8 (τ 3) fun x3 => mB (τ 62) fun x62 => r08_parser_atom_33 Q E x0 x3 x62 H

theorem r08_parser_atom_34ok (Q : QT) (E : ET) (τ : Tau) (H : Heap) (h : r08_parser_atom_33_M Q E τ H) : vc Pr r08_parser_atom_p29 τ (r08_parser_atom_q3 Q E) E H :=
  vP (i := 0) h (fun x0 h => vI (i := 3) h (fun x3 h => vB (i := 62) h (fun x62 h => (conv (B := vc Pr r08_parser_atom_p29 (Tau.upd (Tau.upd (Tau.upd τ 0 (.pointer x0)) 3 (.int .u8 x3)) 62 (.bool x62)) (r08_parser_atom_q3 Q E) E H) (by kernel_rfl) (sel_map (r08_parser_atom_30ok Q E (Tau.upd (Tau.upd (Tau.upd τ 0 (.pointer x0)) 3 (.int .u8 x3)) 62 (.bool x62)) H) (r08_parser_atom_32ok Q E (Tau.upd (Tau.upd (Tau.upd τ 0 (.pointer x0)) 3 (.int .u8 x3)) 62 (.bool x62)) H) (conv (B := sel x62 (r08_parser_atom_28_M Q E (Tau.upd (Tau.upd (Tau.upd τ 0 (.pointer x0)) 3 (.int .u8 x3)) 62 (.bool x62)) H) (r08_parser_atom_31_M Q E (Tau.upd (Tau.upd (Tau.upd τ 0 (.pointer x0)) 3 (.int .u8 x3)) 62 (.bool x62)) H)) (by kernel_rfl) h))))))

@[reducible] noncomputable def r08_parser_atom_q8 (Q : QT) (E : ET) : Exit → Tau → Heap → Prop := (xthen (r08_parser_atom_33_M Q E) (r08_parser_atom_q3 Q E))

@[reducible] noncomputable def r08_parser_atom_p40 : Code := sA r08_parser_atom_p28

def r08_parser_atom_35 (Q : QT) (E : ET) (x0 : OA) (x3 : Int) (x23 : Int) (H : Heap) : Prop :=
 r08_parser_atom_33 Q E x0 x3 ((x23 : Int) == 40) H

def r08_parser_atom_35_M (Q : QT) (E : ET) (τ : Tau) (H : Heap) : Prop := mP (τ 0) fun x0 => mI .u8 (τ 3) fun x3 => mI .u8 (τ 23) fun x23 => r08_parser_atom_35 Q E x0 x3 x23 H

theorem r08_parser_atom_36ok (Q : QT) (E : ET) (τ : Tau) (H : Heap) (h : r08_parser_atom_35_M Q E τ H) : vc Pr r08_parser_atom_p40 τ (r08_parser_atom_q8 Q E) E H :=
  vP (i := 0) h (fun x0 h => vI (i := 3) h (fun x3 h => vI (i := 23) h (fun x23 h => (conv (by kernel_rfl) h))))

theorem r08_parser_atom_37ok (Q : QT) (E : ET) (τ : Tau) (H : Heap) (h : r08_parser_atom_35_M Q E τ H) : vc Pr r08_parser_atom_p28 τ (r08_parser_atom_q3 Q E) E H :=
  (conv (B := vc Pr r08_parser_atom_p28 τ (r08_parser_atom_q3 Q E) E H) (by kernel_rfl) (vc_seq (K := (r08_parser_atom_33_M Q E)) (r08_parser_atom_36ok Q E τ H h) (r08_parser_atom_34ok Q E)))

def r08_parser_atom_38 (Q : QT) (E : ET) (x0 : OA) (x3 : Int) (x23 : Int) (x56 : Bool) (H : Heap) : Prop :=
 sel x56
 (r08_parser_atom_15 Q E x0 x3 H)
 (r08_parser_atom_35 Q E x0 x3 x23 H)

def r08_parser_atom_38_M (Q : QT) (E : ET) (τ : Tau) (H : Heap) : Prop := mP (τ 0) fun x0 => mI .u8 (τ 3) fun x3 => mI .u8 (τ 23) fun x23 => mB (τ 56) fun x56 => r08_parser_atom_38 Q E x0 x3 x23 x56 H

theorem r08_parser_atom_39ok (Q : QT) (E : ET) (τ : Tau) (H : Heap) (h : r08_parser_atom_38_M Q E τ H) : vc Pr r08_parser_atom_p26 τ (r08_parser_atom_q3 Q E) E H :=
  vP (i := 0) h (fun x0 h => vI (i := 3) h (fun x3 h => vI (i := 23) h (fun x23 h => vB (i := 56) h (fun x56 h => (conv (B := vc Pr r08_parser_atom_p26 (Tau.upd (Tau.upd (Tau.upd (Tau.upd τ 0 (.pointer x0)) 3 (.int .u8 x3)) 23 (.int .u8 x23)) 56 (.bool x56)) (r08_parser_atom_q3 Q E) E H) (by kernel_rfl) (sel_map (r08_parser_atom_16ok Q E (Tau.upd (Tau.upd (Tau.upd (Tau.upd τ 0 (.pointer x0)) 3 (.int .u8 x3)) 23 (.int .u8 x23)) 56 (.bool x56)) H) (r08_parser_atom_37ok Q E (Tau.upd (Tau.upd (Tau.upd (Tau.upd τ 0 (.pointer x0)) 3 (.int .u8 x3)) 23 (.int .u8 x23)) 56 (.bool x56)) H) (conv (B := sel x56 (r08_parser_atom_15_M Q E (Tau.upd (Tau.upd (Tau.upd (Tau.upd τ 0 (.pointer x0)) 3 (.int .u8 x3)) 23 (.int .u8 x23)) 56 (.bool x56)) H) (r08_parser_atom_35_M Q E (Tau.upd (Tau.upd (Tau.upd (Tau.upd τ 0 (.pointer x0)) 3 (.int .u8 x3)) 23 (.int .u8 x23)) 56 (.bool x56)) H)) (by kernel_rfl) h)))))))

@[reducible] noncomputable def r08_parser_atom_q9 (Q : QT) (E : ET) : Exit → Tau → Heap → Prop := (xthen (r08_parser_atom_38_M Q E) (r08_parser_atom_q3 Q E))

@[reducible] noncomputable def r08_parser_atom_p41 : Code := sA r08_parser_atom_p25

def r08_parser_atom_40 (Q : QT) (E : ET) (x0 : OA) (x3 : Int) (x23 : Int) (H : Heap) : Prop :=
 sel ((x23 : Int) == 42)
 (r08_parser_atom_38 Q E x0 x3 x23 ((x23 : Int) == 42) H)
 (sel ((x23 : Int) == 43)
 (r08_parser_atom_38 Q E x0 x3 x23 ((x23 : Int) == 43) H)
 (r08_parser_atom_38 Q E x0 x3 x23 ((x23 : Int) == 63) H))

def r08_parser_atom_40_M (Q : QT) (E : ET) (τ : Tau) (H : Heap) : Prop := mP (τ 0) fun x0 => mI .u8 (τ 3) fun x3 => mI .u8 (τ 23) fun x23 => r08_parser_atom_40 Q E x0 x3 x23 H

theorem r08_parser_atom_41ok (Q : QT) (E : ET) (τ : Tau) (H : Heap) (h : r08_parser_atom_40_M Q E τ H) : vc Pr r08_parser_atom_p41 τ (r08_parser_atom_q9 Q E) E H :=
  vP (i := 0) h (fun x0 h => vI (i := 3) h (fun x3 h => vI (i := 23) h (fun x23 h => (conv (by kernel_rfl) h))))

theorem r08_parser_atom_42ok (Q : QT) (E : ET) (τ : Tau) (H : Heap) (h : r08_parser_atom_40_M Q E τ H) : vc Pr r08_parser_atom_p25 τ (r08_parser_atom_q3 Q E) E H :=
  (conv (B := vc Pr r08_parser_atom_p25 τ (r08_parser_atom_q3 Q E) E H) (by kernel_rfl) (vc_seq (K := (r08_parser_atom_38_M Q E)) (r08_parser_atom_41ok Q E τ H h) (r08_parser_atom_39ok Q E)))

def r08_parser_atom_43 (Q : QT) (E : ET) (x0 : OA) (x3 : Int) (x23 : Int) (x52 : Bool) (H : Heap) : Prop :=
 sel x52
 (r08_parser_atom_13 Q E x0 x3 H)
 (r08_parser_atom_40 Q E x0 x3 x23 H)

def r08_parser_atom_43_M (Q : QT) (E : ET) (τ : Tau) (H : Heap) : Prop := mP (τ 0) fun x0 => mI .u8 (τ 3) fun x3 => mI .u8 (τ 23) fun x23 => mB (τ 52) fun x52 => r08_parser_atom_43 Q E x0 x3 x23 x52 H

theorem r08_parser_atom_44ok (Q : QT) (E : ET) (τ : Tau) (H : Heap) (h : r08_parser_atom_43_M Q E τ H) : vc Pr r08_parser_atom_p23 τ (r08_parser_atom_q3 Q E) E H :=
  vP (i := 0) h (fun x0 h => vI (i := 3) h (fun x3 h => vI (i := 23) h (fun x23 h => vB (i := 52) h (fun x52 h => (conv (B := vc Pr r08_parser_atom_p23 (Tau.upd (Tau.upd (Tau.upd (Tau.upd τ 0 (.pointer x0)) 3 (.int .u8 x3)) 23 (.int .u8 x23)) 52 (.bool x52)) (r08_parser_atom_q3 Q E) E H) (by kernel_rfl) (sel_map (r08_parser_atom_14ok Q E (Tau.upd (Tau.upd (Tau.upd (Tau.upd τ 0 (.pointer x0)) 3 (.int .u8 x3)) 23 (.int .u8 x23)) 52 (.bool x52)) H) (r08_parser_atom_42ok Q E (Tau.upd (Tau.upd (Tau.upd (Tau.upd τ 0 (.pointer x0)) 3 (.int .u8 x3)) 23 (.int .u8 x23)) 52 (.bool x52)) H) (conv (B := sel x52 (r08_parser_atom_13_M Q E (Tau.upd (Tau.upd (Tau.upd (Tau.upd τ 0 (.pointer x0)) 3 (.int .u8 x3)) 23 (.int .u8 x23)) 52 (.bool x52)) H) (r08_parser_atom_40_M Q E (Tau.upd (Tau.upd (Tau.upd (Tau.upd τ 0 (.pointer x0)) 3 (.int .u8 x3)) 23 (.int .u8 x23)) 52 (.bool x52)) H)) (by kernel_rfl) h)))))))

@[reducible] noncomputable def r08_parser_atom_q10 (Q : QT) (E : ET) : Exit → Tau → Heap → Prop := (xthen (r08_parser_atom_43_M Q E) (r08_parser_atom_q3 Q E))

@[reducible] noncomputable def r08_parser_atom_p42 : Code := sA r08_parser_atom_p22

def r08_parser_atom_45 (Q : QT) (E : ET) (x0 : OA) (x3 : Int) (x23 : Int) (H : Heap) : Prop :=
 r08_parser_atom_43 Q E x0 x3 x23 ((x23 : Int) == 93) H

def r08_parser_atom_45_M (Q : QT) (E : ET) (τ : Tau) (H : Heap) : Prop := mP (τ 0) fun x0 => mI .u8 (τ 3) fun x3 => mI .u8 (τ 23) fun x23 => r08_parser_atom_45 Q E x0 x3 x23 H

theorem r08_parser_atom_46ok (Q : QT) (E : ET) (τ : Tau) (H : Heap) (h : r08_parser_atom_45_M Q E τ H) : vc Pr r08_parser_atom_p42 τ (r08_parser_atom_q10 Q E) E H :=
  vP (i := 0) h (fun x0 h => vI (i := 3) h (fun x3 h => vI (i := 23) h (fun x23 h => (conv (by kernel_rfl) h))))

theorem r08_parser_atom_47ok (Q : QT) (E : ET) (τ : Tau) (H : Heap) (h : r08_parser_atom_45_M Q E τ H) : vc Pr r08_parser_atom_p22 τ (r08_parser_atom_q3 Q E) E H :=
  (conv (B := vc Pr r08_parser_atom_p22 τ (r08_parser_atom_q3 Q E) E H) (by kernel_rfl) (vc_seq (K := (r08_parser_atom_43_M Q E)) (r08_parser_atom_46ok Q E τ H h) (r08_parser_atom_44ok Q E)))

def r08_parser_atom_48 (Q : QT) (E : ET) (x0 : OA) (x3 : Int) (x23 : Int) (x47 : Bool) (H : Heap) : Prop :=
 sel x47
 (r08_parser_atom_11 Q E x0 H)
 (r08_parser_atom_45 Q E x0 x3 x23 H)

def r08_parser_atom_48_M (Q : QT) (E : ET) (τ : Tau) (H : Heap) : Prop := mP (τ 0) fun x0 => mI .u8 (τ 3) fun x3 => mI .u8 (τ 23) fun x23 => mB (τ 47) fun x47 => r08_parser_atom_48 Q E x0 x3 x23 x47 H

theorem r08_parser_atom_49ok (Q : QT) (E : ET) (τ : Tau) (H : Heap) (h : r08_parser_atom_48_M Q E τ H) : vc Pr r08_parser_atom_p20 τ (r08_parser_atom_q3 Q E) E H :=
  vP (i := 0) h (fun x0 h => vI (i := 3) h (fun x3 h => vI (i := 23) h (fun x23 h => vB (i := 47) h (fun x47 h => (conv (B := vc Pr r08_parser_atom_p20 (Tau.upd (Tau.upd (Tau.upd (Tau.upd τ 0 (.pointer x0)) 3 (.int .u8 x3)) 23 (.int .u8 x23)) 47 (.bool x47)) (r08_parser_atom_q3 Q E) E H) (by kernel_rfl) (sel_map (r08_parser_atom_12ok Q E (Tau.upd (Tau.upd (Tau.upd (Tau.upd τ 0 (.pointer x0)) 3 (.int .u8 x3)) 23 (.int .u8 x23)) 47 (.bool x47)) H) (r08_parser_atom_47ok Q E (Tau.upd (Tau.upd (Tau.upd (Tau.upd τ 0 (.pointer x0)) 3 (.int .u8 x3)) 23 (.int .u8 x23)) 47 (.bool x47)) H) (conv (B := sel x47 (r08_parser_atom_11_M Q E (Tau.upd (Tau.upd (Tau.upd (Tau.upd τ 0 (.pointer x0)) 3 (.int .u8 x3)) 23 (.int .u8 x23)) 47 (.bool x47)) H) (r08_parser_atom_45_M Q E (Tau.upd (Tau.upd (Tau.upd (Tau.upd τ 0 (.pointer x0)) 3 (.int .u8 x3)) 23 (.int .u8 x23)) 47 (.bool x47)) H)) (by kernel_rfl) h)))))))

@[reducible] noncomputable def r08_parser_atom_q11 (Q : QT) (E : ET) : Exit → Tau → Heap → Prop := (xthen (r08_parser_atom_48_M Q E) (r08_parser_atom_q3 Q E))

@[reducible] noncomputable def r08_parser_atom_p43 : Code := sA r08_parser_atom_p19

def r08_parser_atom_50 (Q : QT) (E : ET) (x0 : OA) (x3 : Int) (x23 : Int) (H : Heap) : Prop :=
 r08_parser_atom_48 Q E x0 x3 x23 ((x23 : Int) == 91) H

def r08_parser_atom_50_M (Q : QT) (E : ET) (τ : Tau) (H : Heap) : Prop := mP (τ 0) fun x0 => mI .u8 (τ 3) fun x3 => mI .u8 (τ 23) fun x23 => r08_parser_atom_50 Q E x0 x3 x23 H

theorem r08_parser_atom_51ok (Q : QT) (E : ET) (τ : Tau) (H : Heap) (h : r08_parser_atom_50_M Q E τ H) : vc Pr r08_parser_atom_p43 τ (r08_parser_atom_q11 Q E) E H :=
  vP (i := 0) h (fun x0 h => vI (i := 3) h (fun x3 h => vI (i := 23) h (fun x23 h => (conv (by kernel_rfl) h))))

theorem r08_parser_atom_52ok (Q : QT) (E : ET) (τ : Tau) (H : Heap) (h : r08_parser_atom_50_M Q E τ H) : vc Pr r08_parser_atom_p19 τ (r08_parser_atom_q3 Q E) E H :=
  (conv (B := vc Pr r08_parser_atom_p19 τ (r08_parser_atom_q3 Q E) E H) (by kernel_rfl) (vc_seq (K := (r08_parser_atom_48_M Q E)) (r08_parser_atom_51ok Q E τ H h) (r08_parser_atom_49ok Q E)))

def r08_parser_atom_53 (Q : QT) (E : ET) (x0 : OA) (x3 : Int) (x23 : Int) (x38 : Bool) (H : Heap) : Prop :=
 sel x38
 (r08_parser_atom_9 Q E x0 H)
 (r08_parser_atom_50 Q E x0 x3 x23 H)

def r08_parser_atom_53_M (Q : QT) (E : ET) (τ : Tau) (H : Heap) : Prop := mP (τ 0) fun x0 => mI .u8 (τ 3) fun x3 => mI .u8 (τ 23) fun x23 => mB (τ 38) fun x38 => r08_parser_atom_53 Q E x0 x3 x23 x38 H

theorem r08_parser_atom_54ok (Q : QT) (E : ET) (τ : Tau) (H : Heap) (h : r08_parser_atom_53_M Q E τ H) : vc Pr r08_parser_atom_p17 τ (r08_parser_atom_q3 Q E) E H :=
  vP (i := 0) h (fun x0 h => vI (i := 3) h (fun x3 h => vI (i := 23) h (fun x23 h => vB (i := 38) h (fun x38 h => (conv (B := vc Pr r08_parser_atom_p17 (Tau.upd (Tau.upd (Tau.upd (Tau.upd τ 0 (.pointer x0)) 3 (.int .u8 x3)) 23 (.int .u8 x23)) 38 (.bool x38)) (r08_parser_atom_q3 Q E) E H) (by kernel_rfl) (sel_map (r08_parser_atom_10ok Q E (Tau.upd (Tau.upd (Tau.upd (Tau.upd τ 0 (.pointer x0)) 3 (.int .u8 x3)) 23 (.int .u8 x23)) 38 (.bool x38)) H) (r08_parser_atom_52ok Q E (Tau.upd (Tau.upd (Tau.upd (Tau.upd τ 0 (.pointer x0)) 3 (.int .u8 x3)) 23 (.int .u8 x23)) 38 (.bool x38)) H) (conv (B := sel x38 (r08_parser_atom_9_M Q E (Tau.upd (Tau.upd (Tau.upd (Tau.upd τ 0 (.pointer x0)) 3 (.int .u8 x3)) 23 (.int .u8 x23)) 38 (.bool x38)) H) (r08_parser_atom_50_M Q E (Tau.upd (Tau.upd (Tau.upd (Tau.upd τ 0 (.pointer x0)) 3 (.int .u8 x3)) 23 (.int .u8 x23)) 38 (.bool x38)) H)) (by kernel_rfl) h)))))))

@[reducible] noncomputable def r08_parser_atom_q12 (Q : QT) (E : ET) : Exit → Tau → Heap → Prop := (xthen (r08_parser_atom_53_M Q E) (r08_parser_atom_q3 Q E))

@[reducible] noncomputable def r08_parser_atom_p44 : Code := sA r08_parser_atom_p16

def r08_parser_atom_55 (Q : QT) (E : ET) (x0 : OA) (x3 : Int) (x23 : Int) (H : Heap) : Prop :=
 r08_parser_atom_53 Q E x0 x3 x23 ((x23 : Int) == 92) H

def r08_parser_atom_55_M (Q : QT) (E : ET) (τ : Tau) (H : Heap) : Prop := mP (τ 0) fun x0 => mI .u8 (τ 3) fun x3 => mI .u8 (τ 23) fun x23 => r08_parser_atom_55 Q E x0 x3 x23 H

theorem r08_parser_atom_56ok (Q : QT) (E : ET) (τ : Tau) (H : Heap) (h : r08_parser_atom_55_M Q E τ H) : vc Pr r08_parser_atom_p44 τ (r08_parser_atom_q12 Q E) E H :=
  vP (i := 0) h (fun x0 h => vI (i := 3) h (fun x3 h => vI (i := 23) h (fun x23 h => (conv (by kernel_rfl) h))))

theorem r08_parser_atom_57ok (Q : QT) (E : ET) (τ : Tau) (H : Heap) (h : r08_parser_atom_55_M Q E τ H) : vc Pr r08_parser_atom_p16 τ (r08_parser_atom_q3 Q E) E H :=
  (conv (B := vc Pr r08_parser_atom_p16 τ (r08_parser_atom_q3 Q E) E H) (by kernel_rfl) (vc_seq (K := (r08_parser_atom_53_M Q E)) (r08_parser_atom_56ok Q E τ H h) (r08_parser_atom_54ok Q E)))

def r08_parser_atom_58 (Q : QT) (E : ET) (x0 : OA) (x3 : Int) (x23 : Int) (x34 : Bool) (H : Heap) : Prop :=
 sel x34
 (r08_parser_atom_7 Q E  H)
 (r08_parser_atom_55 Q E x0 x3 x23 H)

def r08_parser_atom_58_M (Q : QT) (E : ET) (τ : Tau) (H : Heap) : Prop := mP (τ 0) fun x0 => mI .u8 (τ 3) fun x3 => mI .u8 (τ 23) fun x23 => mB (τ 34) fun x34 => r08_parser_atom_58 Q E x0 x3 x23 x34 H

theorem r08_parser_atom_59ok (Q : QT) (E : ET) (τ : Tau) (H : Heap) (h : r08_parser_atom_58_M Q E τ H) : vc Pr r08_parser_atom_p14 τ (r08_parser_atom_q3 Q E) E H :=
  vP (i := 0) h (fun x0 h => vI (i := 3) h (fun x3 h => vI (i := 23) h (fun x23 h => vB (i := 34) h (fun x34 h => (conv (B := vc Pr r08_parser_atom_p14 (Tau.upd (Tau.upd (Tau.upd (Tau.upd τ 0 (.pointer x0)) 3 (.int .u8 x3)) 23 (.int .u8 x23)) 34 (.bool x34)) (r08_parser_atom_q3 Q E) E H) (by kernel_rfl) (sel_map (r08_parser_atom_8ok Q E (Tau.upd (Tau.upd (Tau.upd (Tau.upd τ 0 (.pointer x0)) 3 (.int .u8 x3)) 23 (.int .u8 x23)) 34 (.bool x34)) H) (r08_parser_atom_57ok Q E (Tau.upd (Tau.upd (Tau.upd (Tau.upd τ 0 (.pointer x0)) 3 (.int .u8 x3)) 23 (.int .u8 x23)) 34 (.bool x34)) H) (conv (B := sel x34 (r08_parser_atom_7_M Q E (Tau.upd (Tau.upd (Tau.upd (Tau.upd τ 0 (.pointer x0)) 3 (.int .u8 x3)) 23 (.int .u8 x23)) 34 (.bool x34)) H) (r08_parser_atom_55_M Q E (Tau.upd (Tau.upd (Tau.upd (Tau.upd τ 0 (.pointer x0)) 3 (.int .u8 x3)) 23 (.int .u8 x23)) 34 (.bool x34)) H)) (by kernel_rfl) h)))))))

@[reducible] noncomputable def r08_parser_atom_q13 (Q : QT) (E : ET) : Exit → Tau → Heap → Prop := (xthen (r08_parser_atom_58_M Q E) (r08_parser_atom_q3 Q E))

@[reducible] noncomputable def r08_parser_atom_p45 : Code := sA r08_parser_atom_p13

def r08_parser_atom_60 (Q : QT) (E : ET) (x0 : OA) (x3 : Int) (x23 : Int) (H : Heap) : Prop :=
 r08_parser_atom_58 Q E x0 x3 x23 ((x23 : Int) == 36) H

def r08_parser_atom_60_M (Q : QT) (E : ET) (τ : Tau) (H : Heap) : Prop := mP (τ 0) fun x0 => mI .u8 (τ 3) fun x3 => mI .u8 (τ 23) fun x23 => r08_parser_atom_60 Q E x0 x3 x23 H

theorem r08_parser_atom_61ok (Q : QT) (E : ET) (τ : Tau) (H : Heap) (h : r08_parser_atom_60_M Q E τ H) : vc Pr r08_parser_atom_p45 τ (r08_parser_atom_q13 Q E) E H :=
  vP (i := 0) h (fun x0 h => vI (i := 3) h (fun x3 h => vI (i := 23) h (fun x23 h => (conv (by kernel_rfl) h))))

theorem r08_parser_atom_62ok (Q : QT) (E : ET) (τ : Tau) (H : Heap) (h : r08_parser_atom_60_M Q E τ H) : vc Pr r08_parser_atom_p13 τ (r08_parser_atom_q3 Q E) E H :=
  (conv (B := vc Pr r08_parser_atom_p13 τ (r08_parser_atom_q3 Q E) E H) (by kernel_rfl) (vc_seq (K := (r08_parser_atom_58_M Q E)) (r08_parser_atom_61ok Q E τ H h) (r08_parser_atom_59ok Q E)))

def r08_parser_atom_63 (Q : QT) (E : ET) (x0 : OA) (x3 : Int) (x23 : Int) (x30 : Bool) (H : Heap) : Prop :=
 sel x30
 (r08_parser_atom_5 Q E  H)
 (r08_parser_atom_60 Q E x0 x3 x23 H)

def r08_parser_atom_63_M (Q : QT) (E : ET) (τ : Tau) (H : Heap) : Prop := mP (τ 0) fun x0 => mI .u8 (τ 3) fun x3 => mI .u8 (τ 23) fun x23 => mB (τ 30) fun x30 => r08_parser_atom_63 Q E x0 x3 x23 x30 H

theorem r08_parser_atom_64ok (Q : QT) (E : ET) (τ : Tau) (H : Heap) (h : r08_parser_atom_63_M Q E τ H) : vc Pr r08_parser_atom_p11 τ (r08_parser_atom_q3 Q E) E H :=
  vP (i := 0) h (fun x0 h => vI (i := 3) h (fun x3 h => vI (i := 23) h (fun x23 h => vB (i := 30) h (fun x30 h => (conv (B := vc Pr r08_parser_atom_p11 (Tau.upd (Tau.upd (Tau.upd (Tau.upd τ 0 (.pointer x0)) 3 (.int .u8 x3)) 23 (.int .u8 x23)) 30 (.bool x30)) (r08_parser_atom_q3 Q E) E H) (by kernel_rfl) (sel_map (r08_parser_atom_6ok Q E (Tau.upd (Tau.upd (Tau.upd (Tau.upd τ 0 (.pointer x0)) 3 (.int .u8 x3)) 23 (.int .u8 x23)) 30 (.bool x30)) H) (r08_parser_atom_62ok Q E (Tau.upd (Tau.upd (Tau.upd (Tau.upd τ 0 (.pointer x0)) 3 (.int .u8 x3)) 23 (.int .u8 x23)) 30 (.bool x30)) H) (conv (B := sel x30 (r08_parser_atom_5_M Q E (Tau.upd (Tau.upd (Tau.upd (Tau.upd τ 0 (.pointer x0)) 3 (.int .u8 x3)) 23 (.int .u8 x23)) 30 (.bool x30)) H) (r08_parser_atom_60_M Q E (Tau.upd (Tau.upd (Tau.upd (Tau.upd τ 0 (.pointer x0)) 3 (.int .u8 x3)) 23 (.int .u8 x23)) 30 (.bool x30)) H)) (by kernel_rfl) h)))))))

@[reducible] noncomputable def r08_parser_atom_q14 (Q : QT) (E : ET) : Exit → Tau → Heap → Prop := (xthen (r08_parser_atom_63_M Q E) (r08_parser_atom_q3 Q E))

@[reducible] noncomputable def r08_parser_atom_p46 : Code := sA r08_parser_atom_p10

def r08_parser_atom_65 (Q : QT) (E : ET) (x0 : OA) (x3 : Int) (x23 : Int) (H : Heap) : Prop :=
 r08_parser_atom_63 Q E x0 x3 x23 ((x23 : Int) == 94) H

def r08_parser_atom_65_M (Q : QT) (E : ET) (τ : Tau) (H : Heap) : Prop := mP (τ 0) fun x0 => mI .u8 (τ 3) fun x3 => mI .u8 (τ 23) fun x23 => r08_parser_atom_65 Q E x0 x3 x23 H

theorem r08_parser_atom_66ok (Q : QT) (E : ET) (τ : Tau) (H : Heap) (h : r08_parser_atom_65_M Q E τ H) : vc Pr r08_parser_atom_p46 τ (r08_parser_atom_q14 Q E) E H :=
  vP (i := 0) h (fun x0 h => vI (i := 3) h (fun x3 h => vI (i := 23) h (fun x23 h => (conv (by kernel_rfl) h))))

theorem r08_parser_atom_67ok (Q : QT) (E : ET) (τ : Tau) (H : Heap) (h : r08_parser_atom_65_M Q E τ H) : vc Pr r08_parser_atom_p10 τ (r08_parser_atom_q3 Q E) E H :=
  (conv (B := vc Pr r08_parser_atom_p10 τ (r08_parser_atom_q3 Q E) E H) (by kernel_rfl) (vc_seq (K := (r08_parser_atom_63_M Q E)) (r08_parser_atom_66ok Q E τ H h) (r08_parser_atom_64ok Q E)))

def r08_parser_atom_68 (Q : QT) (E : ET) (x0 : OA) (x3 : Int) (x23 : Int) (x24 : Bool) (H : Heap) : Prop :=
 sel x24
 (r08_parser_atom_3 Q E  H)
 (r08_parser_atom_65 Q E x0 x3 x23 H)

def r08_parser_atom_68_M (Q : QT) (E : ET) (τ : Tau) (H : Heap) : Prop := mP (τ 0) fun x0 => mI .u8 (τ 3) fun x3 => mI .u8 (τ 23) fun x23 => mB (τ 24) fun x24 => r08_parser_atom_68 Q E x0 x3 x23 x24 H

theorem r08_parser_atom_69ok (Q : QT) (E : ET) (τ : Tau) (H : Heap) (h : r08_parser_atom_68_M Q E τ H) : vc Pr r08_parser_atom_p8 τ (r08_parser_atom_q3 Q E) E H :=
  vP (i := 0) h (fun x0 h => vI (i := 3) h (fun x3 h => vI (i := 23) h (fun x23 h => vB (i := 24) h (fun x24 h => (conv (B := vc Pr r08_parser_atom_p8 (Tau.upd (Tau.upd (Tau.upd (Tau.upd τ 0 (.pointer x0)) 3 (.int .u8 x3)) 23 (.int .u8 x23)) 24 (.bool x24)) (r08_parser_atom_q3 Q E) E H) (by kernel_rfl) (sel_map (r08_parser_atom_4ok Q E (Tau.upd (Tau.upd (Tau.upd (Tau.upd τ 0 (.pointer x0)) 3 (.int .u8 x3)) 23 (.int .u8 x23)) 24 (.bool x24)) H) (r08_parser_atom_67ok Q E (Tau.upd (Tau.upd (Tau.upd (Tau.upd τ 0 (.pointer x0)) 3 (.int .u8 x3)) 23 (.int .u8 x23)) 24 (.bool x24)) H) (conv (B := sel x24 (r08_parser_atom_3_M Q E (Tau.upd (Tau.upd (Tau.upd (Tau.upd τ 0 (.pointer x0)) 3 (.int .u8 x3)) 23 (.int .u8 x23)) 24 (.bool x24)) H) (r08_parser_atom_65_M Q E (Tau.upd (Tau.upd (Tau.upd (Tau.upd τ 0 (.pointer x0)) 3 (.int .u8 x3)) 23 (.int .u8 x23)) 24 (.bool x24)) H)) (by kernel_rfl) h)))))))

@[reducible] noncomputable def r08_parser_atom_q15 (Q : QT) (E : ET) : Exit → Tau → Heap → Prop := (xthen (r08_parser_atom_68_M Q E) (r08_parser_atom_q3 Q E))

@[reducible] noncomputable def r08_parser_atom_p47 : Code := sA r08_parser_atom_p7

def r08_parser_atom_70 (Q : QT) (E : ET) (x0 : OA) (x3 : Int) (x23 : Int) (H : Heap) : Prop :=
 r08_parser_atom_68 Q E x0 x3 x23 ((x23 : Int) == 46) H

def r08_parser_atom_70_M (Q : QT) (E : ET) (τ : Tau) (H : Heap) : Prop := mP (τ 0) fun x0 => mI .u8 (τ 3) fun x3 => mI .u8 (τ 23) fun x23 => r08_parser_atom_70 Q E x0 x3 x23 H

theorem r08_parser_atom_71ok (Q : QT) (E : ET) (τ : Tau) (H : Heap) (h : r08_parser_atom_70_M Q E τ H) : vc Pr r08_parser_atom_p47 τ (r08_parser_atom_q15 Q E) E H :=
  vP (i := 0) h (fun x0 h => vI (i := 3) h (fun x3 h => vI (i := 23) h (fun x23 h => (conv (by kernel_rfl) h))))

theorem r08_parser_atom_72ok (Q : QT) (E : ET) (τ : Tau) (H : Heap) (h : r08_parser_atom_70_M Q E τ H) : vc Pr r08_parser_atom_p7 τ (r08_parser_atom_q3 Q E) E H :=
  (conv (B := vc Pr r08_parser_atom_p7 τ (r08_parser_atom_q3 Q E) E H) (by kernel_rfl) (vc_seq (K := (r08_parser_atom_68_M Q E)) (r08_parser_atom_71ok Q E τ H h) (r08_parser_atom_69ok Q E)))

theorem r08_parser_atom_73ok (Q : QT) (E : ET) (τ : Tau) (H : Heap) (h : r08_parser_atom_70_M Q E τ H) : vc Pr r08_parser_atom_p6 τ (r08_parser_atom_q2 Q E) E H :=
  (conv (B := vc Pr r08_parser_atom_p6 τ (r08_parser_atom_q2 Q E) E H) (by kernel_rfl) (r08_parser_atom_72ok Q E τ H h))

@[reducible] noncomputable def r08_parser_atom_q16 (Q : QT) (E : ET) : Exit → Tau → Heap → Prop := (xthen (r08_parser_atom_70_M Q E) (r08_parser_atom_q2 Q E))

@[reducible] noncomputable def r08_parser_atom_p48 : Code := sA r08_parser_atom_p5

def r08_parser_atom_74 (Q : QT) (E : ET) (x0 : OA) (x3 : Int) (H : Heap) : Prop :=
 r08_parser_atom_70 Q E x0 x3 x3 H

def r08_parser_atom_74_M (Q : QT) (E : ET) (τ : Tau) (H : Heap) : Prop := mP (τ 0) fun x0 => mI .u8 (τ 3) fun x3 => r08_parser_atom_74 Q E x0 x3 H

theorem r08_parser_atom_75ok (Q : QT) (E : ET) (τ : Tau) (H : Heap) (h : r08_parser_atom_74_M Q E τ H) : vc Pr r08_parser_atom_p48 τ (r08_parser_atom_q16 Q E) E H :=
  vP (i := 0) h (fun x0 h => vI (i := 3) h (fun x3 h => (conv (by kernel_rfl) h)))

theorem r08_parser_atom_76ok (Q : QT) (E : ET) (τ : Tau) (H : Heap) (h : r08_parser_atom_74_M Q E τ H) : vc Pr r08_parser_atom_p5 τ (r08_parser_atom_q2 Q E) E H :=
  (conv (B := vc Pr r08_parser_atom_p5 τ (r08_parser_atom_q2 Q E) E H) (by kernel_rfl) (vc_seq (K := (r08_parser_atom_70_M Q E)) (r08_parser_atom_75ok Q E τ H h) (r08_parser_atom_73ok Q E)))

theorem r08_parser_atom_77ok (Q : QT) (E : ET) (τ : Tau) (H : Heap) (h : r08_parser_atom_74_M Q E τ H) : vc Pr r08_parser_atom_p3 τ (r08_parser_atom_q1 Q E) E H :=
  (conv (B := vc Pr r08_parser_atom_p3 τ (r08_parser_atom_q1 Q E) E H) (by kernel_rfl) (vc_seq (K := (r08_parser_atom_1_M Q E)) (r08_parser_atom_76ok Q E τ H h) (r08_parser_atom_2ok Q E)))

@[reducible] noncomputable def r08_parser_atom_q17 (Q : QT) (E : ET) : Exit → Tau → Heap → Prop := (xthen (r08_parser_atom_74_M Q E) (r08_parser_atom_q1 Q E))

@[reducible] noncomputable def r08_parser_atom_p49 : Code := sA r08_parser_atom_p2

def r08_parser_atom_78 (Q : QT) (E : ET) (x0 : OA) (x3 : Int) (H : Heap) : Prop :=
 ptr x0 fun q227 =>
 ldI .i64 (Addr.add q227 1) H fun n228 =>
 ptr x0 fun q229 =>
 wr (Addr.add q229 1) [(.int .i64 (IntKind.wrap .i64 (n228 + 1)))] H fun H230 =>
 r08_parser_atom_74 Q E x0 x3 H230

def r08_parser_atom_78_M (Q : QT) (E : ET) (τ : Tau) (H : Heap) : Prop := mP (τ 0) fun x0 => mI .u8 (τ 3) fun x3 => r08_parser_atom_78 Q E x0 x3 H

theorem r08_parser_atom_79ok (Q : QT) (E : ET) (τ : Tau) (H : Heap) (h : r08_parser_atom_78_M Q E τ H) : vc Pr r08_parser_atom_p49 τ (r08_parser_atom_q17 Q E) E H :=
  vP (i := 0) h (fun x0 h => vI (i := 3) h (fun x3 h => (conv (by kernel_rfl) h)))

theorem r08_parser_atom_80ok (Q : QT) (E : ET) (τ : Tau) (H : Heap) (h : r08_parser_atom_78_M Q E τ H) : vc Pr r08_parser_atom_p2 τ (r08_parser_atom_q1 Q E) E H :=
  (conv (B := vc Pr r08_parser_atom_p2 τ (r08_parser_atom_q1 Q E) E H) (by kernel_rfl) (vc_seq (K := (r08_parser_atom_74_M Q E)) (r08_parser_atom_79ok Q E τ H h) (r08_parser_atom_77ok Q E)))

@[reducible] noncomputable def r08_parser_atom_q18 (Q : QT) (E : ET) : Exit → Tau → Heap → Prop := (xthen (r08_parser_atom_78_M Q E) (r08_parser_atom_q1 Q E))

@[reducible] noncomputable def r08_parser_atom_p50 : Code := sA r08_parser_atom_p1

def r08_parser_atom_81 (Q : QT) (E : ET) (x0 : OA) (H : Heap) : Prop :=
 ptr x0 fun q231 =>
 ldS q231 H fun s232 =>
 ptr x0 fun q233 =>
 ldI .i64 (Addr.add q233 1) H fun n234 =>
 (0 ≤ (n234 : Int) ∧ (n234 : Int) < ((ByteArray.size s232 : Nat) : Int)) ∧ r08_parser_atom_78 Q E x0 (sAt s232 n234) H

def r08_parser_atom_81_M (Q : QT) (E : ET) (τ : Tau) (H : Heap) : Prop := mP (τ 0) fun x0 => r08_parser_atom_81 Q E x0 H

theorem r08_parser_atom_82ok (Q : QT) (E : ET) (τ : Tau) (H : Heap) (h : r08_parser_atom_81_M Q E τ H) : vc Pr r08_parser_atom_p50 τ (r08_parser_atom_q18 Q E) E H :=
  vP (i := 0) h (fun x0 h => (conv (by kernel_rfl) h))

theorem r08_parser_atom_83ok (Q : QT) (E : ET) (τ : Tau) (H : Heap) (h : r08_parser_atom_81_M Q E τ H) : vc Pr r08_parser_atom_p1 τ (r08_parser_atom_q1 Q E) E H :=
  (conv (B := vc Pr r08_parser_atom_p1 τ (r08_parser_atom_q1 Q E) E H) (by kernel_rfl) (vc_seq (K := (r08_parser_atom_78_M Q E)) (r08_parser_atom_82ok Q E τ H h) (r08_parser_atom_80ok Q E)))

@[reducible] noncomputable def r08_parser_atom_q19 (Q : QT) (E : ET) : Exit → Tau → Heap → Prop := (xthen (r08_parser_atom_81_M Q E) (r08_parser_atom_q1 Q E))

@[reducible] noncomputable def r08_parser_atom_p51 : Code := sA r08_parser_atom_p0

def r08_parser_atom (Q : QT) (E : ET) (a0 : OA) (H : Heap) : Prop :=
 r08_parser_atom_81 Q E a0 H

theorem r08_parser_atom_fn (a0 : OA) (Q : QT) (E : ET) (H : Heap) (h : r08_parser_atom Q E a0 H)   : Does Pr 105 #[(.pointer a0)] H Q E :=
  Fn_of_vc (fn := Try.f105) (c := r08_parser_atom_p0) (args := [(.pointer a0)]) mixed (by kernel_rfl) (by kernel_rfl) (by kernel_rfl) (by kernel_rfl) (by kernel_rfl) ((conv (B := vc Pr r08_parser_atom_p0 (argT [(.pointer a0)]) (r08_parser_atom_q1 Q E) E H) (by kernel_rfl) (vc_seq (K := (r08_parser_atom_81_M Q E)) (conv (B := vc Pr r08_parser_atom_p51 (argT [(.pointer a0)]) (r08_parser_atom_q19 Q E) E H) (by kernel_rfl) h) (r08_parser_atom_83ok Q E))))

/-! jobmux/jobmuxref08.Not -/
@[reducible] noncomputable def r08_Not_q1 (Q : QT) (E : ET) : Exit → Tau → Heap → Prop := (retQ Pr (Try.f107).results.toList Q)

@[reducible] noncomputable def r08_Not_p0 : Code := bodyOf Try.f107

@[reducible] noncomputable def r08_Not_p1 : Code := sB r08_Not_p0

@[reducible] noncomputable def r08_Not_p2 : Code := sB r08_Not_p1

def r08_Not_1 (Q : QT) (E : ET) (x1 : OA) (x2 : OA) (H : Heap) : Prop :=
 ptr x1 fun q7 =>
 ∃ n8 n9 n10 n11 : Int, Heap.rd H q7 0 [(.int .u64 n8), (.int .u64 n9), (.int .u64 n10), (.int .u64 n11)] ∧ ptr x2 fun q13 =>
 wr q13 [(.int .u64 n8), (.int .u64 n9), (.int .u64 n10), (.int .u64 n11)] H fun H12 =>
 ptr x2 fun q14 =>
 ∃ n15 n16 n17 n18 : Int, Heap.rd H12 q14 0 [(.int .u64 n15), (.int .u64 n16), (.int .u64 n17), (.int .u64 n18)] ∧ Q (.agg #[(.int .u64 n15), (.int .u64 n16), (.int .u64 n17), (.int .u64 n18)]) H12

def r08_Not_1_M (Q : QT) (E : ET) (τ : Tau) (H : Heap) : Prop := mP (τ 1) fun x1 => mP (τ 2) fun x2 => r08_Not_1 Q E x1 x2 H

theorem r08_Not_2ok (Q : QT) (E : ET) (τ : Tau) (H : Heap) (h : r08_Not_1_M Q E τ H) : vc Pr r08_Not_p2 τ (r08_Not_q1 Q E) E H :=
  vP (i := 1) h (fun x1 h => vP (i := 2) h (fun x2 h => (conv (by kernel_rfl) h)))

@[reducible] noncomputable def r08_Not_q2 (Q : QT) (E : ET) : Exit → Tau → Heap → Prop := (xthen (r08_Not_1_M Q E) (r08_Not_q1 Q E))

@[reducible] noncomputable def r08_Not_p3 : Code := sA r08_Not_p1

@[reducible] noncomputable def r08_Not_p4 : Code := sB r08_Not_p3

@[reducible] noncomputable def r08_Not_q3 (Q : QT) (E : ET) : Exit → Tau → Heap → Prop := (xblock 0 (r08_Not_q2 Q E))

@[reducible] noncomputable def r08_Not_p5 : Code := sI r08_Not_p4

@[reducible] noncomputable def r08_Not_q4 (nx19 : Int → HP) (Q : QT) (E : ET) : Exit → Tau → Heap → Prop := (xthen (fun τ H => mI .i64 (τ 3) fun x3' => nx19 x3' H) (r08_Not_q3 Q E))

@[reducible] noncomputable def r08_Not_p6 : Code := sI r08_Not_p5

@[reducible] noncomputable def r08_Not_p7 : Code := sB r08_Not_p6

def r08_Not_3 (nx19 : Int → HP) (Q : QT) (E : ET) (x1 : OA) (x2 : OA) (x3 : Int) (H : Heap) : Prop :=
 ptr x1 fun q20 =>
 (0 ≤ (x3 : Int) ∧ (x3 : Int) < ((4 : Nat) : Int)) ∧ ldI .u64 (Addr.add q20 ((x3 : Int).toNat * 1)) H fun n21 =>
 ptr x1 fun q22 =>
 (0 ≤ (x3 : Int) ∧ (x3 : Int) < ((4 : Nat) : Int)) ∧ wr (Addr.add q22 ((x3 : Int).toNat * 1)) [(.int .u64 (IntKind.wrap .u64 (BitVec.ofInt (IntKind.bits .u64) (if IntKind.signed .u64 then -1 else IntKind.max .u64) ^^^ BitVec.ofInt (IntKind.bits .u64) n21).toNat))] H fun H23 =>
 nx19 (IntKind.wrap .i64 (x3 + 1)) H23

def r08_Not_3_M (nx19 : Int → HP) (Q : QT) (E : ET) (τ : Tau) (H : Heap) : Prop := mP (τ 1) fun x1 => mP (τ 2) fun x2 => mI .i64 (τ 3) fun x3 => r08_Not_3 nx19 Q E x1 x2 x3 H

theorem r08_Not_4ok (nx19 : Int → HP) (Q : QT) (E : ET) (τ : Tau) (H : Heap) (h : r08_Not_3_M nx19 Q E τ H) : vc Pr r08_Not_p7 τ (r08_Not_q4 nx19 Q E) E H :=
  vP (i := 1) h (fun x1 h => vP (i := 2) h (fun x2 h => vI (i := 3) h (fun x3 h => (conv (by kernel_rfl) h))))

@[reducible] noncomputable def r08_Not_q5 (nx19 : Int → HP) (Q : QT) (E : ET) : Exit → Tau → Heap → Prop := (xthen (r08_Not_3_M nx19 Q E) (r08_Not_q4 nx19 Q E))

@[reducible] noncomputable def r08_Not_p8 : Code := sA r08_Not_p6

def r08_Not_5 (nx19 : Int → HP) (Q : QT) (E : ET) (x1 : OA) (x2 : OA) (x3 : Int) (H : Heap) : Prop :=
 sel (decide ((x3 : Int) < 4))
 (r08_Not_3 nx19 Q E x1 x2 x3 H)
 (r08_Not_1 Q E x1 x2 H)

def r08_Not_5_M (nx19 : Int → HP) (Q : QT) (E : ET) (τ : Tau) (H : Heap) : Prop := mP (τ 1) fun x1 => mP (τ 2) fun x2 => mI .i64 (τ 3) fun x3 => r08_Not_5 nx19 Q E x1 x2 x3 H

theorem r08_Not_6ok (nx19 : Int → HP) (Q : QT) (E : ET) (τ : Tau) (H : Heap) (h : r08_Not_5_M nx19 Q E τ H) : vc Pr r08_Not_p8 τ (r08_Not_q5 nx19 Q E) E H :=
  vP (i := 1) h (fun x1 h => vP (i := 2) h (fun x2 h => vI (i := 3) h (fun x3 h => (conv (by kernel_rfl) h))))

theorem r08_Not_7ok (nx19 : Int → HP) (Q : QT) (E : ET) (τ : Tau) (H : Heap) (h : r08_Not_5_M nx19 Q E τ H) : vc Pr r08_Not_p6 τ (r08_Not_q4 nx19 Q E) E H :=
  (conv (B := vc Pr r08_Not_p6 τ (r08_Not_q4 nx19 Q E) E H) (by kernel_rfl) (vc_seq (K := (r08_Not_3_M nx19 Q E)) (r08_Not_6ok nx19 Q E τ H h) (r08_Not_4ok nx19 Q E)))

def r08_Not_8 (Q : QT) (E : ET) (x1 : OA) (x2 : OA) (x3 : Int) (H : Heap) : Prop :=
 ∃ (I : Int → HP) (μ : Int → Heap → Nat), I x3 H ∧ ∀ (x3 : Int) (H : Heap), I x3 H →
 r08_Not_5 (fun x3' H1 => I x3' H1 ∧ μ x3' H1 < μ x3 H) Q E x1 x2 x3 H

def r08_Not_8_M (Q : QT) (E : ET) (τ : Tau) (H : Heap) : Prop := mP (τ 1) fun x1 => mP (τ 2) fun x2 => mI .i64 (τ 3) fun x3 => r08_Not_8 Q E x1 x2 x3 H

theorem r08_Not_9ok (Q : QT) (E : ET) (τ : Tau) (H : Heap) (h : r08_Not_8_M Q E τ H) : vc Pr r08_Not_p5 τ (r08_Not_q3 Q E) E H :=
  vP (i := 1) h (fun x1 h => vP (i := 2) h (fun x2 h => vI (i := 3) h (fun x3 h => match h with | ⟨I, μ, h0, hr⟩ => (conv (B := vc Pr r08_Not_p5 (Tau.upd (Tau.upd (Tau.upd τ 1 (.pointer x1)) 2 (.pointer x2)) 3 (.int .i64 x3)) (r08_Not_q3 Q E) E H) (by kernel_rfl) (vc_loop (c := sI r08_Not_p5) (τ := (Tau.upd (Tau.upd (Tau.upd τ 1 (.pointer x1)) 2 (.pointer x2)) 3 (.int .i64 x3))) [1, 2] (fun τ H => mI .i64 (τ 3) fun x3' => I x3' H) (fun τ H => μ (gI (τ 3)) H) (by kernel_rfl) h0 (fun τ1 H1 hf hI => fix_elim (τ := τ1) (i := 1) (v := (.pointer x1)) (G := fun τ => vc Pr (sI r08_Not_p5) τ (xthen (fun τ2 H2 => (mI .i64 (τ2 3) fun x3' => I x3' H2) ∧ μ (gI (τ2 3)) H2 < μ (gI (τ 3)) H1) (r08_Not_q3 Q E)) E H1) (hf 1 (by simp)) (fix_elim (τ := (Tau.upd τ1 1 (.pointer x1))) (i := 2) (v := (.pointer x2)) (G := fun τ => vc Pr (sI r08_Not_p5) τ (xthen (fun τ2 H2 => (mI .i64 (τ2 3) fun x3' => I x3' H2) ∧ μ (gI (τ2 3)) H2 < μ (gI (τ 3)) H1) (r08_Not_q3 Q E)) E H1) (hf 2 (by simp)) (mI_elim (i := 3) (G := fun τ => vc Pr (sI r08_Not_p5) τ (xthen (fun τ2 H2 => (mI .i64 (τ2 3) fun x3' => I x3' H2) ∧ μ (gI (τ2 3)) H2 < μ (gI (τ 3)) H1) (r08_Not_q3 Q E)) E H1) hI (fun x3r h => (conv (B := vc Pr (sI r08_Not_p5) (Tau.upd (Tau.upd (Tau.upd τ1 1 (.pointer x1)) 2 (.pointer x2)) 3 (.int .i64 x3r)) (xthen (fun τ2 H2 => (mI .i64 (τ2 3) fun x3' => I x3' H2) ∧ μ (gI (τ2 3)) H2 < μ (gI ((Tau.upd (Tau.upd (Tau.upd τ1 1 (.pointer x1)) 2 (.pointer x2)) 3 (.int .i64 x3r)) 3)) H1) (r08_Not_q3 Q E)) E H1) (by kernel_rfl) (vc_xthen (r08_Not_7ok (fun x3' H2 => I x3' H2 ∧ μ x3' H2 < μ x3r H1) Q E (Tau.upd (Tau.upd (Tau.upd τ1 1 (.pointer x1)) 2 (.pointer x2)) 3 (.int .i64 x3r)) H1 (conv (B := r08_Not_5_M (fun x3' H2 => I x3' H2 ∧ μ x3' H2 < μ x3r H1) Q E (Tau.upd (Tau.upd (Tau.upd τ1 1 (.pointer x1)) 2 (.pointer x2)) 3 (.int .i64 x3r)) H1) (by kernel_rfl) (hr x3r H1 h))) (fun τ2 H2 hk => mI_elim (i := 3) (G := fun τ => (mI .i64 (τ 3) fun x3' => I x3' H2) ∧ μ (gI (τ 3)) H2 < μ x3r H1) hk (fun x3' h => h)))))))))))))

theorem r08_Not_10ok (Q : QT) (E : ET) (τ : Tau) (H : Heap) (h : r08_Not_8_M Q E τ H) : vc Pr r08_Not_p4 τ (r08_Not_q2 Q E) E H :=
  (conv (B := vc Pr r08_Not_p4 τ (r08_Not_q2 Q E) E H) (by kernel_rfl) (r08_Not_9ok Q E τ H h))

@[reducible] noncomputable def r08_Not_q6 (Q : QT) (E : ET) : Exit → Tau → Heap → Prop := (xthen (r08_Not_8_M Q E) (r08_Not_q2 Q E))

@[reducible] noncomputable def r08_Not_p9 : Code := sA r08_Not_p3

def r08_Not_11 (Q : QT) (E : ET) (x1 : OA) (x2 : OA) (H : Heap) : Prop :=
 r08_Not_8 Q E x1 x2 0 H

def r08_Not_11_M (Q : QT) (E : ET) (τ : Tau) (H : Heap) : Prop := mP (τ 1) fun x1 => mP (τ 2) fun x2 => r08_Not_11 Q E x1 x2 H

theorem r08_Not_12ok (Q : QT) (E : ET) (τ : Tau) (H : Heap) (h : r08_Not_11_M Q E τ H) : vc Pr r08_Not_p9 τ (r08_Not_q6 Q E) E H :=
  vP (i := 1) h (fun x1 h => vP (i := 2) h (fun x2 h => (conv (by kernel_rfl) h)))

theorem r08_Not_13ok (Q : QT) (E : ET) (τ : Tau) (H : Heap) (h : r08_Not_11_M Q E τ H) : vc Pr r08_Not_p3 τ (r08_Not_q2 Q E) E H :=
  (conv (B := vc Pr r08_Not_p3 τ (r08_Not_q2 Q E) E H) (by kernel_rfl) (vc_seq (K := (r08_Not_8_M Q E)) (r08_Not_12ok Q E τ H h) (r08_Not_10ok Q E)))

theorem r08_Not_14ok (Q : QT) (E : ET) (τ : Tau) (H : Heap) (h : r08_Not_11_M Q E τ H) : vc Pr r08_Not_p1 τ (r08_Not_q1 Q E) E H :=
  (conv (B := vc Pr r08_Not_p1 τ (r08_Not_q1 Q E) E H) (by kernel_rfl) (vc_seq (K := (r08_Not_1_M Q E)) (r08_Not_13ok Q E τ H h) (r08_Not_2ok Q E)))

@[reducible] noncomputable def r08_Not_q7 (Q : QT) (E : ET) : Exit → Tau → Heap → Prop := (xthen (r08_Not_11_M Q E) (r08_Not_q1 Q E))

@[reducible] noncomputable def r08_Not_p10 : Code := sA r08_Not_p0

def r08_Not (Q : QT) (E : ET) (a0_0 : Int) (a0_1 : Int) (a0_2 : Int) (a0_3 : Int) (H : Heap) : Prop :=
 nw (.cells #[(.int .u64 a0_0), (.int .u64 a0_1), (.int .u64 a0_2), (.int .u64 a0_3)] 46 (0, 0)) H fun i24 H25 =>
 nw (.cells #[(.int .u64 0), (.int .u64 0), (.int .u64 0), (.int .u64 0)] 46 (0, 0)) H25 fun i26 H27 =>
 r08_Not_11 Q E (some ⟨i24, 0, none⟩) (some ⟨i26, 0, none⟩) H27

theorem r08_Not_fn (a0_0 : Int) (a0_1 : Int) (a0_2 : Int) (a0_3 : Int) (Q : QT) (E : ET) (H : Heap) (h : r08_Not Q E a0_0 a0_1 a0_2 a0_3 H)   : Does Pr 107 #[(.agg #[(.int .u64 a0_0), (.int .u64 a0_1), (.int .u64 a0_2), (.int .u64 a0_3)])] H Q E :=
  Fn_of_vc (fn := Try.f107) (c := r08_Not_p0) (args := [(.agg #[(.int .u64 a0_0), (.int .u64 a0_1), (.int .u64 a0_2), (.int .u64 a0_3)])]) mixed (by kernel_rfl) (by kernel_rfl) (by kernel_rfl) (by kernel_rfl) (by kernel_rfl) ((conv (B := vc Pr r08_Not_p0 (argT [(.agg #[(.int .u64 a0_0), (.int .u64 a0_1), (.int .u64 a0_2), (.int .u64 a0_3)])]) (r08_Not_q1 Q E) E H) (by kernel_rfl) (vc_seq (K := (r08_Not_11_M Q E)) (conv (B := vc Pr r08_Not_p10 (argT [(.agg #[(.int .u64 a0_0), (.int .u64 a0_1), (.int .u64 a0_2), (.int .u64 a0_3)])]) (r08_Not_q7 Q E) E H) (by kernel_rfl) h) (r08_Not_14ok Q E))))

/-! jobmux/jobmuxref08.With -/
@[reducible] noncomputable def r08_With_q1 (Q : QT) (E : ET) : Exit → Tau → Heap → Prop := (retQ Pr (Try.f108).results.toList Q)

@[reducible] noncomputable def r08_With_p0 : Code := bodyOf Try.f108

def r08_With (Q : QT) (E : ET) (a0_0 : Int) (a0_1 : Int) (a0_2 : Int) (a0_3 : Int) (a1 : Int) (H : Heap) : Prop :=
 nw (.cells #[(.int .u64 a0_0), (.int .u64 a0_1), (.int .u64 a0_2), (.int .u64 a0_3)] 46 (0, 0)) H fun i1 H2 =>
 nw (.cells #[(.int .u64 0), (.int .u64 0), (.int .u64 0), (.int .u64 0)] 46 (0, 0)) H2 fun i3 H4 =>
 (64 : Int) ≠ 0 ∧ (64 : Int) ≠ 0 ∧ (0 ≤ ((IntKind.wrap .u8 (Int.tdiv a1 64)) : Int) ∧ ((IntKind.wrap .u8 (Int.tdiv a1 64)) : Int) < ((4 : Nat) : Int)) ∧ ldI .u64 (Addr.add ⟨i1, 0, none⟩ (((IntKind.wrap .u8 (Int.tdiv a1 64)) : Int).toNat * 1)) H4 fun n5 =>
 (64 : Int) ≠ 0 ∧ 0 ≤ ((Int.tmod a1 64) : Int) ∧ (0 ≤ ((IntKind.wrap .u8 (Int.tdiv a1 64)) : Int) ∧ ((IntKind.wrap .u8 (Int.tdiv a1 64)) : Int) < ((4 : Nat) : Int)) ∧ wr (Addr.add ⟨i1, 0, none⟩ (((IntKind.wrap .u8 (Int.tdiv a1 64)) : Int).toNat * 1)) [(.int .u64 (IntKind.wrap .u64 (BitVec.ofInt (IntKind.bits .u64) n5 ||| BitVec.ofInt (IntKind.bits .u64) (IntKind.wrap .u64 (1 * 2 ^ min ((Int.tmod a1 64) : Int).toNat (IntKind.bits .u64)))).toNat))] H4 fun H6 =>
 ∃ n7 n8 n9 n10 : Int, Heap.rd H6 ⟨i1, 0, none⟩ 0 [(.int .u64 n7), (.int .u64 n8), (.int .u64 n9), (.int .u64 n10)] ∧ wr ⟨i3, 0, none⟩ [(.int .u64 n7), (.int .u64 n8), (.int .u64 n9), (.int .u64 n10)] H6 fun H11 =>
 ∃ n12 n13 n14 n15 : Int, Heap.rd H11 ⟨i3, 0, none⟩ 0 [(.int .u64 n12), (.int .u64 n13), (.int .u64 n14), (.int .u64 n15)] ∧ Q (.agg #[(.int .u64 n12), (.int .u64 n13), (.int .u64 n14), (.int .u64 n15)]) H11

theorem r08_With_fn (a0_0 : Int) (a0_1 : Int) (a0_2 : Int) (a0_3 : Int) (a1 : Int) (Q : QT) (E : ET) (H : Heap) (h : r08_With Q E a0_0 a0_1 a0_2 a0_3 a1 H)   : Does Pr 108 #[(.agg #[(.int .u64 a0_0), (.int .u64 a0_1), (.int .u64 a0_2), (.int .u64 a0_3)]), (.int .u8 a1)] H Q E :=
  Fn_of_vc (fn := Try.f108) (c := r08_With_p0) (args := [(.agg #[(.int .u64 a0_0), (.int .u64 a0_1), (.int .u64 a0_2), (.int .u64 a0_3)]), (.int .u8 a1)]) mixed (by kernel_rfl) (by kernel_rfl) (by kernel_rfl) (by kernel_rfl) (by kernel_rfl) ((conv (B := vc Pr r08_With_p0 (argT [(.agg #[(.int .u64 a0_0), (.int .u64 a0_1), (.int .u64 a0_2), (.int .u64 a0_3)]), (.int .u8 a1)]) (r08_With_q1 Q E) E H) (by kernel_rfl) h))

/-! (*jobmux/jobmuxref08.parser).escape -/
@[reducible] noncomputable def r08_parser_escape_q1 (Q : QT) (E : ET) : Exit → Tau → Heap → Prop := (retQ Pr (Try.f109).results.toList Q)

@[reducible] noncomputable def r08_parser_escape_p0 : Code := bodyOf Try.f109

@[reducible] noncomputable def r08_parser_escape_p1 : Code := sB r08_parser_escape_p0

@[reducible] noncomputable def r08_parser_escape_p2 : Code := sB r08_parser_escape_p1

@[reducible] noncomputable def r08_parser_escape_p3 : Code := sB r08_parser_escape_p2

@[reducible] noncomputable def r08_parser_escape_p4 : Code := sB r08_parser_escape_p3

def r08_parser_escape_1 (Q : QT) (E : ET) (x0 : OA) (x2 : OA) (x4 : OA) (x5 : Bool) (H : Heap) : Prop :=
 ptr x0 fun q27 =>
 ldI .i64 (Addr.add q27 1) H fun n28 =>
 ptr x0 fun q29 =>
 wr (Addr.add q29 1) [(.int .i64 (IntKind.wrap .i64 (n28 + 1)))] H fun H30 =>
 ptr x4 fun q31 =>
 ∃ n32 n33 n34 n35 : Int, Heap.rd H30 q31 0 [(.int .u64 n32), (.int .u64 n33), (.int .u64 n34), (.int .u64 n35)] ∧ ptr x2 fun q37 =>
 wr q37 [(.int .u64 n32), (.int .u64 n33), (.int .u64 n34), (.int .u64 n35)] H30 fun H36 =>
 ptr x2 fun q38 =>
 ∃ n39 n40 n41 n42 : Int, Heap.rd H36 q38 0 [(.int .u64 n39), (.int .u64 n40), (.int .u64 n41), (.int .u64 n42)] ∧ Q (.tuple #[(.agg #[(.int .u64 n39), (.int .u64 n40), (.int .u64 n41), (.int .u64 n42)]), (.bool x5)]) H36

def r08_parser_escape_1_M (Q : QT) (E : ET) (τ : Tau) (H : Heap) : Prop := mP (τ 0) fun x0 => mP (τ 2) fun x2 => mP (τ 4) fun x4 => mB (τ 5) fun x5 => r08_parser_escape_1 Q E x0 x2 x4 x5 H

theorem r08_parser_escape_2ok (Q : QT) (E : ET) (τ : Tau) (H : Heap) (h : r08_parser_escape_1_M Q E τ H) : vc Pr r08_parser_escape_p4 τ (r08_parser_escape_q1 Q E) E H :=
  vP (i := 0) h (fun x0 h => vP (i := 2) h (fun x2 h => vP (i := 4) h (fun x4 h => vB (i := 5) h (fun x5 h => (conv (by kernel_rfl) h)))))

@[reducible] noncomputable def r08_parser_escape_q2 (Q : QT) (E : ET) : Exit → Tau → Heap → Prop := (xthen (r08_parser_escape_1_M Q E) (r08_parser_escape_q1 Q E))

@[reducible] noncomputable def r08_parser_escape_p5 : Code := sA r08_parser_escape_p3

def r08_parser_escape_3 (Q : QT) (E : ET) (x0 : OA) (x2 : OA) (x4 : OA) (x5 : Bool) (x6 : Bool) (H : Heap) : Prop :=
 sel (!x6)
 (Does Pr 57 #[(.pointer x0), (.int .i64 82)] H (fun v43 H44 =>
 r08_parser_escape_1 Q E x0 x2 x4 x5 H44) E)
 (r08_parser_escape_1 Q E x0 x2 x4 x5 H)

def r08_parser_escape_3_M (Q : QT) (E : ET) (τ : Tau) (H : Heap) : Prop := mP (τ 0) fun x0 => mP (τ 2) fun x2 => mP (τ 4) fun x4 => mB (τ 5) fun x5 => mB (τ 6) fun x6 => r08_parser_escape_3 Q E x0 x2 x4 x5 x6 H

theorem r08_parser_escape_4ok (Q : QT) (E : ET) (τ : Tau) (H : Heap) (h : r08_parser_escape_3_M Q E τ H) : vc Pr r08_parser_escape_p5 τ (r08_parser_escape_q2 Q E) E H :=
  vP (i := 0) h (fun x0 h => vP (i := 2) h (fun x2 h => vP (i := 4) h (fun x4 h => vB (i := 5) h (fun x5 h => vB (i := 6) h (fun x6 h => (conv (by kernel_rfl) h))))))

theorem r08_parser_escape_5ok (Q : QT) (E : ET) (τ : Tau) (H : Heap) (h : r08_parser_escape_3_M Q E τ H) : vc Pr r08_parser_escape_p3 τ (r08_parser_escape_q1 Q E) E H :=
  (conv (B := vc Pr r08_parser_escape_p3 τ (r08_parser_escape_q1 Q E) E H) (by kernel_rfl) (vc_seq (K := (r08_parser_escape_1_M Q E)) (r08_parser_escape_4ok Q E τ H h) (r08_parser_escape_2ok Q E)))

@[reducible] noncomputable def r08_parser_escape_q3 (Q : QT) (E : ET) : Exit → Tau → Heap → Prop := (xthen (r08_parser_escape_3_M Q E) (r08_parser_escape_q1 Q E))

@[reducible] noncomputable def r08_parser_escape_p6 : Code := sA r08_parser_escape_p2

def r08_parser_escape_6 (Q : QT) (E : ET) (x0 : OA) (x2 : OA) (H : Heap) : Prop :=
 ptr x0 fun q45 =>
 ldS q45 H fun s46 =>
 ptr x0 fun q47 =>
 ldI .i64 (Addr.add q47 1) H fun n48 =>
 (0 ≤ (n48 : Int) ∧ (n48 : Int) < ((ByteArray.size s46 : Nat) : Int)) ∧ Does Pr 116 #[(.int .u8 (sAt s46 n48))] H (fun v49 H50 =>
 ∃ n51 n52 n53 n54 : Int, ∃ b55 : Bool, ∃ b56 : Bool, v49 = (.tuple #[(.agg #[(.int .u64 n51), (.int .u64 n52), (.int .u64 n53), (.int .u64 n54)]), (.bool b55), (.bool b56)]) ∧ nw (.cells #[(.int .u64 0), (.int .u64 0), (.int .u64 0), (.int .u64 0)] 46 (0, 0)) H50 fun i57 H58 =>
 wr ⟨i57, 0, none⟩ [(.int .u64 n51), (.int .u64 n52), (.int .u64 n53), (.int .u64 n54)] H58 fun H59 =>
 r08_parser_escape_3 Q E x0 x2 (some ⟨i57, 0, none⟩) b55 b56 H59) (fun _ _ => False)

def r08_parser_escape_6_M (Q : QT) (E : ET) (τ : Tau) (H : Heap) : Prop := mP (τ 0) fun x0 => mP (τ 2) fun x2 => r08_parser_escape_6 Q E x0 x2 H

theorem r08_parser_escape_7ok (Q : QT) (E : ET) (τ : Tau) (H : Heap) (h : r08_parser_escape_6_M Q E τ H) : vc Pr r08_parser_escape_p6 τ (r08_parser_escape_q3 Q E) E H :=
  vP (i := 0) h (fun x0 h => vP (i := 2) h (fun x2 h => (conv (by kernel_rfl) h)))

theorem r08_parser_escape_8ok (Q : QT) (E : ET) (τ : Tau) (H : Heap) (h : r08_parser_escape_6_M Q E τ H) : vc Pr r08_parser_escape_p2 τ (r08_parser_escape_q1 Q E) E H :=
  (conv (B := vc Pr r08_parser_escape_p2 τ (r08_parser_escape_q1 Q E) E H) (by kernel_rfl) (vc_seq (K := (r08_parser_escape_3_M Q E)) (r08_parser_escape_7ok Q E τ H h) (r08_parser_escape_5ok Q E)))

@[reducible] noncomputable def r08_parser_escape_q4 (Q : QT) (E : ET) : Exit → Tau → Heap → Prop := (xthen (r08_parser_escape_6_M Q E) (r08_parser_escape_q1 Q E))

@[reducible] noncomputable def r08_parser_escape_p7 : Code := sA r08_parser_escape_p1

def r08_parser_escape_9 (Q : QT) (E : ET) (x0 : OA) (x2 : OA) (H : Heap) : Prop :=
 ptr x0 fun q60 =>
 ldI .i64 (Addr.add q60 1) H fun n61 =>
 ptr x0 fun q62 =>
 ldS q62 H fun s63 =>
 sel (decide ((n61 : Int) ≥ ((ByteArray.size s63 : Nat) : Int)))
 (Does Pr 57 #[(.pointer x0), (.int .i64 82)] H (fun v64 H65 =>
 ptr x2 fun q67 =>
 wr q67 [(.int .u64 0), (.int .u64 0), (.int .u64 0), (.int .u64 0)] H65 fun H66 =>
 ptr x2 fun q68 =>
 ∃ n69 n70 n71 n72 : Int, Heap.rd H66 q68 0 [(.int .u64 n69), (.int .u64 n70), (.int .u64 n71), (.int .u64 n72)] ∧ Q (.tuple #[(.agg #[(.int .u64 n69), (.int .u64 n70), (.int .u64 n71), (.int .u64 n72)]), (.bool false)]) H66) E)
 (r08_parser_escape_6 Q E x0 x2 H)

def r08_parser_escape_9_M (Q : QT) (E : ET) (τ : Tau) (H : Heap) : Prop := mP (τ 0) fun x0 => mP (τ 2) fun x2 => r08_parser_escape_9 Q E x0 x2 H

theorem r08_parser_escape_10ok (Q : QT) (E : ET) (τ : Tau) (H : Heap) (h : r08_parser_escape_9_M Q E τ H) : vc Pr r08_parser_escape_p7 τ (r08_parser_escape_q4 Q E) E H :=
  vP (i := 0) h (fun x0 h => vP (i := 2) h (fun x2 h => (conv (by kernel_rfl) h)))

theorem r08_parser_escape_11ok (Q : QT) (E : ET) (τ : Tau) (H : Heap) (h : r08_parser_escape_9_M Q E τ H) : vc Pr r08_parser_escape_p1 τ (r08_parser_escape_q1 Q E) E H :=
  (conv (B := vc Pr r08_parser_escape_p1 τ (r08_parser_escape_q1 Q E) E H) (by kernel_rfl) (vc_seq (K := (r08_parser_escape_6_M Q E)) (r08_parser_escape_10ok Q E τ H h) (r08_parser_escape_8ok Q E)))

@[reducible] noncomputable def r08_parser_escape_q5 (Q : QT) (E : ET) : Exit → Tau → Heap → Prop := (xthen (r08_parser_escape_9_M Q E) (r08_parser_escape_q1 Q E))

@[reducible] noncomputable def r08_parser_escape_p8 : Code := sA r08_parser_escape_p0

def r08_parser_escape (Q : QT) (E : ET) (a0 : OA) (H : Heap) : Prop :=
 nw (.cells #[(.int .u64 0), (.int .u64 0), (.int .u64 0), (.int .u64 0)] 46 (0, 0)) H fun i73 H74 =>
 r08_parser_escape_9 Q E a0 (some ⟨i73, 0, none⟩) H74

theorem r08_parser_escape_fn (a0 : OA) (Q : QT) (E : ET) (H : Heap) (h : r08_parser_escape Q E a0 H)   : Does Pr 109 #[(.pointer a0)] H Q E :=
  Fn_of_vc (fn := Try.f109) (c := r08_parser_escape_p0) (args := [(.pointer a0)]) mixed (by kernel_rfl) (by kernel_rfl) (by kernel_rfl) (by kernel_rfl) (by kernel_rfl) ((conv (B := vc Pr r08_parser_escape_p0 (argT [(.pointer a0)]) (r08_parser_escape_q1 Q E) E H) (by kernel_rfl) (vc_seq (K := (r08_parser_escape_9_M Q E)) (conv (B := vc Pr r08_parser_escape_p8 (argT [(.pointer a0)]) (r08_parser_escape_q5 Q E) E H) (by kernel_rfl) h) (r08_parser_escape_11ok Q E))))

end Go.Proofs.Ytaffcoiomggpfaa
