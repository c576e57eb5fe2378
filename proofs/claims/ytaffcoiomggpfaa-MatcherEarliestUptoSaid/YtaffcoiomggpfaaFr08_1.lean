import Derived.Test.YtaffcoiomggpfaaVPr
/- Printed by gen.py: the Go functions of package r08 over a heap view, and that the model does so. -/
namespace Go.Proofs.Ytaffcoiomggpfaa
open Go.V
set_option linter.unusedVariables false
set_option maxRecDepth 100000
/-! jobmux/jobmuxref08.Parse -/
@[reducible] noncomputable def ua_q1 (Q : QT) (E : ET) : Exit → Tau → Heap → Prop := (retQ Pr (Try.f23).results.toList Q)

@[reducible] noncomputable def ua_p0 : Code := bodyOf Try.f23

@[reducible] noncomputable def ua_p1 : Code := sB ua_p0

@[reducible] noncomputable def ua_p2 : Code := sB ua_p1

@[reducible] noncomputable def ua_p3 : Code := sB ua_p2

@[reducible] noncomputable def ua_p4 : Code := sB ua_p3

@[reducible] noncomputable def ua_p5 : Code := sB ua_p4

@[reducible] noncomputable def ua_p6 : Code := sB ua_p5

@[reducible] noncomputable def ua_p7 : Code := sB ua_p6

def ua_1 (Q : QT) (E : ET) (x5 : OA) (l5 : Nat) (c5 : Nat) (H : Heap) : Prop :=
 Q (.tuple #[(.slice x5 l5 c5), (.int .i64 0)]) H

def ua_1_M (Q : QT) (E : ET) (τ : Tau) (H : Heap) : Prop := mSl (τ 5) fun x5 l5 c5 => ua_1 Q E x5 l5 c5 H

theorem ua_2ok (Q : QT) (E : ET) (τ : Tau) (H : Heap) (h : ua_1_M Q E τ H) : vc Pr ua_p7 τ (ua_q1 Q E) E H :=
  vSl (i := 5) h (fun x5 l5 c5 h => (conv (by kernel_rfl) h))

@[reducible] noncomputable def ua_q2 (Q : QT) (E : ET) : Exit → Tau → Heap → Prop := (xthen (ua_1_M Q E) (ua_q1 Q E))

@[reducible] noncomputable def ua_p8 : Code := sA ua_p6

def ua_3 (Q : QT) (E : ET) (x4 : OA) (x5 : OA) (l5 : Nat) (c5 : Nat) (H : Heap) : Prop :=
 ptr x4 fun q17 =>
 ldI .i64 (Addr.add q17 3) H fun n18 =>
 sel ((n18 : Int) != 0)
 (ptr x4 fun q19 =>
 ldI .i64 (Addr.add q19 3) H fun n20 =>
 Q (.tuple #[(.slice none 0 0), (.int .i64 n20)]) H)
 (ua_1 Q E x5 l5 c5 H)

def ua_3_M (Q : QT) (E : ET) (τ : Tau) (H : Heap) : Prop := mP (τ 4) fun x4 => mSl (τ 5) fun x5 l5 c5 => ua_3 Q E x4 x5 l5 c5 H

theorem ua_4ok (Q : QT) (E : ET) (τ : Tau) (H : Heap) (h : ua_3_M Q E τ H) : vc Pr ua_p8 τ (ua_q2 Q E) E H :=
  vP (i := 4) h (fun x4 h => vSl (i := 5) h (fun x5 l5 c5 h => (conv (by kernel_rfl) h)))

theorem ua_5ok (Q : QT) (E : ET) (τ : Tau) (H : Heap) (h : ua_3_M Q E τ H) : vc Pr ua_p6 τ (ua_q1 Q E) E H :=
  (conv (B := vc Pr ua_p6 τ (ua_q1 Q E) E H) (by kernel_rfl) (vc_seq (K := (ua_1_M Q E)) (ua_4ok Q E τ H h) (ua_2ok Q E)))

@[reducible] noncomputable def ua_q3 (Q : QT) (E : ET) : Exit → Tau → Heap → Prop := (xthen (ua_3_M Q E) (ua_q1 Q E))

@[reducible] noncomputable def ua_p9 : Code := sA ua_p5

@[reducible] noncomputable def ua_p10 : Code := sB ua_p9

def ua_6 (Q : QT) (E : ET) (x4 : OA) (x5 : OA) (l5 : Nat) (c5 : Nat) (x39 : Bool) (H : Heap) : Prop :=
 sel x39
 (Does Pr 57 #[(.pointer x4), (.int .i64 1)] H (fun v22 H23 =>
 ua_3 Q E x4 x5 l5 c5 H23) E)
 (ua_3 Q E x4 x5 l5 c5 H)

def ua_6_M (Q : QT) (E : ET) (τ : Tau) (H : Heap) : Prop := mP (τ 4) fun x4 => mSl (τ 5) fun x5 l5 c5 => mB (τ 39) fun x39 => ua_6 Q E x4 x5 l5 c5 x39 H

theorem ua_7ok (Q : QT) (E : ET) (τ : Tau) (H : Heap) (h : ua_6_M Q E τ H) : vc Pr ua_p10 τ (ua_q3 Q E) E H :=
  vP (i := 4) h (fun x4 h => vSl (i := 5) h (fun x5 l5 c5 h => vB (i := 39) h (fun x39 h => (conv (by kernel_rfl) h))))

@[reducible] noncomputable def ua_q4 (Q : QT) (E : ET) : Exit → Tau → Heap → Prop := (xthen (ua_6_M Q E) (ua_q3 Q E))

@[reducible] noncomputable def ua_p11 : Code := sA ua_p9

def ua_8 (Q : QT) (E : ET) (x4 : OA) (x5 : OA) (l5 : Nat) (c5 : Nat) (H : Heap) : Prop :=
 ptr x4 fun q24 =>
 ldI .i64 (Addr.add q24 3) H fun n25 =>
 sel ((n25 : Int) == 0)
 (ua_6 Q E x4 x5 l5 c5 (decide ((((l5 : Nat) : Int) : Int) > 256)) H)
 (ua_6 Q E x4 x5 l5 c5 false H)

def ua_8_M (Q : QT) (E : ET) (τ : Tau) (H : Heap) : Prop := mP (τ 4) fun x4 => mSl (τ 5) fun x5 l5 c5 => ua_8 Q E x4 x5 l5 c5 H

theorem ua_9ok (Q : QT) (E : ET) (τ : Tau) (H : Heap) (h : ua_8_M Q E τ H) : vc Pr ua_p11 τ (ua_q4 Q E) E H :=
  vP (i := 4) h (fun x4 h => vSl (i := 5) h (fun x5 l5 c5 h => (conv (by kernel_rfl) h)))

theorem ua_10ok (Q : QT) (E : ET) (τ : Tau) (H : Heap) (h : ua_8_M Q E τ H) : vc Pr ua_p9 τ (ua_q3 Q E) E H :=
  (conv (B := vc Pr ua_p9 τ (ua_q3 Q E) E H) (by kernel_rfl) (vc_seq (K := (ua_6_M Q E)) (ua_9ok Q E τ H h) (ua_7ok Q E)))

theorem ua_11ok (Q : QT) (E : ET) (τ : Tau) (H : Heap) (h : ua_8_M Q E τ H) : vc Pr ua_p5 τ (ua_q1 Q E) E H :=
  (conv (B := vc Pr ua_p5 τ (ua_q1 Q E) E H) (by kernel_rfl) (vc_seq (K := (ua_3_M Q E)) (ua_10ok Q E τ H h) (ua_5ok Q E)))

@[reducible] noncomputable def ua_q5 (Q : QT) (E : ET) : Exit → Tau → Heap → Prop := (xthen (ua_8_M Q E) (ua_q1 Q E))

@[reducible] noncomputable def ua_p12 : Code := sA ua_p4

@[reducible] noncomputable def ua_p13 : Code := sB ua_p12

def ua_12 (Q : QT) (E : ET) (x4 : OA) (x5 : OA) (l5 : Nat) (c5 : Nat) (x27 : Bool) (H : Heap) : Prop :=
 sel x27
 (Does Pr 57 #[(.pointer x4), (.int .i64 83)] H (fun v28 H29 =>
 ua_8 Q E x4 x5 l5 c5 H29) E)
 (ua_8 Q E x4 x5 l5 c5 H)

def ua_12_M (Q : QT) (E : ET) (τ : Tau) (H : Heap) : Prop := mP (τ 4) fun x4 => mSl (τ 5) fun x5 l5 c5 => mB (τ 27) fun x27 => ua_12 Q E x4 x5 l5 c5 x27 H

theorem ua_13ok (Q : QT) (E : ET) (τ : Tau) (H : Heap) (h : ua_12_M Q E τ H) : vc Pr ua_p13 τ (ua_q5 Q E) E H :=
  vP (i := 4) h (fun x4 h => vSl (i := 5) h (fun x5 l5 c5 h => vB (i := 27) h (fun x27 h => (conv (by kernel_rfl) h))))

@[reducible] noncomputable def ua_q6 (Q : QT) (E : ET) : Exit → Tau → Heap → Prop := (xthen (ua_12_M Q E) (ua_q5 Q E))

@[reducible] noncomputable def ua_p14 : Code := sA ua_p12

def ua_14 (Q : QT) (E : ET) (x0 : ByteArray) (x4 : OA) (x5 : OA) (l5 : Nat) (c5 : Nat) (H : Heap) : Prop :=
 ptr x4 fun q30 =>
 ldI .i64 (Addr.add q30 3) H fun n31 =>
 sel ((n31 : Int) == 0)
 (ptr x4 fun q32 =>
 ldI .i64 (Addr.add q32 1) H fun n33 =>
 ua_12 Q E x4 x5 l5 c5 (decide ((n33 : Int) < ((ByteArray.size x0 : Nat) : Int))) H)
 (ua_12 Q E x4 x5 l5 c5 false H)

def ua_14_M (Q : QT) (E : ET) (τ : Tau) (H : Heap) : Prop := mS (τ 0) fun x0 => mP (τ 4) fun x4 => mSl (τ 5) fun x5 l5 c5 => ua_14 Q E x0 x4 x5 l5 c5 H

theorem ua_15ok (Q : QT) (E : ET) (τ : Tau) (H : Heap) (h : ua_14_M Q E τ H) : vc Pr ua_p14 τ (ua_q6 Q E) E H :=
  vS (i := 0) h (fun x0 h => vP (i := 4) h (fun x4 h => vSl (i := 5) h (fun x5 l5 c5 h => (conv (by kernel_rfl) h))))

theorem ua_16ok (Q : QT) (E : ET) (τ : Tau) (H : Heap) (h : ua_14_M Q E τ H) : vc Pr ua_p12 τ (ua_q5 Q E) E H :=
  (conv (B := vc Pr ua_p12 τ (ua_q5 Q E) E H) (by kernel_rfl) (vc_seq (K := (ua_12_M Q E)) (ua_15ok Q E τ H h) (ua_13ok Q E)))

theorem ua_17ok (Q : QT) (E : ET) (τ : Tau) (H : Heap) (h : ua_14_M Q E τ H) : vc Pr ua_p4 τ (ua_q1 Q E) E H :=
  (conv (B := vc Pr ua_p4 τ (ua_q1 Q E) E H) (by kernel_rfl) (vc_seq (K := (ua_8_M Q E)) (ua_16ok Q E τ H h) (ua_11ok Q E)))

@[reducible] noncomputable def ua_q7 (Q : QT) (E : ET) : Exit → Tau → Heap → Prop := (xthen (ua_14_M Q E) (ua_q1 Q E))

@[reducible] noncomputable def ua_p15 : Code := sA ua_p3

def ua_18 (Q : QT) (E : ET) (x0 : ByteArray) (x4 : OA) (H : Heap) : Prop :=
 Does Pr 56 #[(.pointer x4)] H (fun v34 H35 =>
 ∃ (p36 : OA) (l37 c38 : Nat), v34 = (.slice p36 l37 c38) ∧ ua_14 Q E x0 x4 p36 l37 c38 H35) E

def ua_18_M (Q : QT) (E : ET) (τ : Tau) (H : Heap) : Prop := mS (τ 0) fun x0 => mP (τ 4) fun x4 => ua_18 Q E x0 x4 H

theorem ua_19ok (Q : QT) (E : ET) (τ : Tau) (H : Heap) (h : ua_18_M Q E τ H) : vc Pr ua_p15 τ (ua_q7 Q E) E H :=
  vS (i := 0) h (fun x0 h => vP (i := 4) h (fun x4 h => (conv (by kernel_rfl) h)))

theorem ua_20ok (Q : QT) (E : ET) (τ : Tau) (H : Heap) (h : ua_18_M Q E τ H) : vc Pr ua_p3 τ (ua_q1 Q E) E H :=
  (conv (B := vc Pr ua_p3 τ (ua_q1 Q E) E H) (by kernel_rfl) (vc_seq (K := (ua_14_M Q E)) (ua_19ok Q E τ H h) (ua_17ok Q E)))

@[reducible] noncomputable def ua_q8 (Q : QT) (E : ET) : Exit → Tau → Heap → Prop := (xthen (ua_18_M Q E) (ua_q1 Q E))

@[reducible] noncomputable def ua_p16 : Code := sA ua_p2

def ua_21 (Q : QT) (E : ET) (x0 : ByteArray) (H : Heap) : Prop :=
 nw (.cells #[(.string x0), (.int .i64 0), (.int .i64 0), (.int .i64 0)] 83 (0, 0)) H fun i39 H40 =>
 ua_18 Q E x0 (some ⟨i39, 0, none⟩) H40

def ua_21_M (Q : QT) (E : ET) (τ : Tau) (H : Heap) : Prop := mS (τ 0) fun x0 => ua_21 Q E x0 H

theorem ua_22ok (Q : QT) (E : ET) (τ : Tau) (H : Heap) (h : ua_21_M Q E τ H) : vc Pr ua_p16 τ (ua_q8 Q E) E H :=
  vS (i := 0) h (fun x0 h => (conv (by kernel_rfl) h))

theorem ua_23ok (Q : QT) (E : ET) (τ : Tau) (H : Heap) (h : ua_21_M Q E τ H) : vc Pr ua_p2 τ (ua_q1 Q E) E H :=
  (conv (B := vc Pr ua_p2 τ (ua_q1 Q E) E H) (by kernel_rfl) (vc_seq (K := (ua_18_M Q E)) (ua_22ok Q E τ H h) (ua_20ok Q E)))

@[reducible] noncomputable def ua_q9 (Q : QT) (E : ET) : Exit → Tau → Heap → Prop := (xthen (ua_21_M Q E) (ua_q1 Q E))

@[reducible] noncomputable def ua_p17 : Code := sA ua_p1

def ua_24 (Q : QT) (E : ET) (x0 : ByteArray) (H : Heap) : Prop :=
 sel (decide ((((ByteArray.size x0 : Nat) : Int) : Int) > 128))
 (Q (.tuple #[(.slice none 0 0), (.int .i64 1)]) H)
 (ua_21 Q E x0 H)

def ua_24_M (Q : QT) (E : ET) (τ : Tau) (H : Heap) : Prop := mS (τ 0) fun x0 => ua_24 Q E x0 H

theorem ua_25ok (Q : QT) (E : ET) (τ : Tau) (H : Heap) (h : ua_24_M Q E τ H) : vc Pr ua_p17 τ (ua_q9 Q E) E H :=
  vS (i := 0) h (fun x0 h => (conv (by kernel_rfl) h))

theorem ua_26ok (Q : QT) (E : ET) (τ : Tau) (H : Heap) (h : ua_24_M Q E τ H) : vc Pr ua_p1 τ (ua_q1 Q E) E H :=
  (conv (B := vc Pr ua_p1 τ (ua_q1 Q E) E H) (by kernel_rfl) (vc_seq (K := (ua_21_M Q E)) (ua_25ok Q E τ H h) (ua_23ok Q E)))

@[reducible] noncomputable def ua_q10 (Q : QT) (E : ET) : Exit → Tau → Heap → Prop := (xthen (ua_24_M Q E) (ua_q1 Q E))

@[reducible] noncomputable def ua_p18 : Code := sA ua_p0

def ua (Q : QT) (E : ET) (a0 : ByteArray) (H : Heap) : Prop :=
 ua_24 Q E a0 H

theorem ua_fn (a0 : ByteArray) (Q : QT) (E : ET) (H : Heap) (h : ua Q E a0 H)   : Does Pr 23 #[(.string a0)] H Q E :=
  Fn_of_vc (fn := Try.f23) (c := ua_p0) (args := [(.string a0)]) mixed (by kernel_rfl) (by kernel_rfl) (by kernel_rfl) (by kernel_rfl) (by kernel_rfl) ((conv (B := vc Pr ua_p0 (argT [(.string a0)]) (ua_q1 Q E) E H) (by kernel_rfl) (vc_seq (K := (ua_24_M Q E)) (conv (B := vc Pr ua_p18 (argT [(.string a0)]) (ua_q10 Q E) E H) (by kernel_rfl) h) (ua_26ok Q E))))

/-! jobmux/jobmuxref08.Kids -/
@[reducible] noncomputable def ub_q1 (Q : QT) (E : ET) : Exit → Tau → Heap → Prop := (retQ Pr (Try.f42).results.toList Q)

@[reducible] noncomputable def ub_p0 : Code := bodyOf Try.f42

@[reducible] noncomputable def ub_p1 : Code := sB ub_p0

@[reducible] noncomputable def ub_p2 : Code := sB ub_p1

def ub_1 (Q : QT) (E : ET)  (H : Heap) : Prop :=
 Q (.int .i64 0) H

def ub_1_M (Q : QT) (E : ET) (τ : Tau) (H : Heap) : Prop := ub_1 Q E  H

theorem ub_2ok (Q : QT) (E : ET) (τ : Tau) (H : Heap) (h : ub_1_M Q E τ H) : vc Pr ub_p2 τ (ub_q1 Q E) E H :=
  (conv (B := vc Pr ub_p2 τ (ub_q1 Q E) E H) (by kernel_rfl) h)

@[reducible] noncomputable def ub_q2 (Q : QT) (E : ET) : Exit → Tau → Heap → Prop := (xthen (ub_1_M Q E) (ub_q1 Q E))

@[reducible] noncomputable def ub_p3 : Code := sA ub_p1

@[reducible] noncomputable def ub_p4 : Code := sB ub_p3

@[reducible] noncomputable def ub_q3 (Q : QT) (E : ET) : Exit → Tau → Heap → Prop := (xblock 0 (ub_q2 Q E))

@[reducible] noncomputable def ub_p5 : Code := sI ub_p4

@[reducible] noncomputable def ub_p6 : Code := sB ub_p5

@[reducible] noncomputable def ub_p7 : Code := sT ub_p6

def ub_3 (Q : QT) (E : ET)  (H : Heap) : Prop :=
 Q (.int .i64 2) H

def ub_3_M (Q : QT) (E : ET) (τ : Tau) (H : Heap) : Prop := ub_3 Q E  H

theorem ub_4ok (Q : QT) (E : ET) (τ : Tau) (H : Heap) (h : ub_3_M Q E τ H) : vc Pr ub_p7 τ (ub_q3 Q E) E H :=
  (conv (B := vc Pr ub_p7 τ (ub_q3 Q E) E H) (by kernel_rfl) h)

@[reducible] noncomputable def ub_p8 : Code := sE ub_p6

@[reducible] noncomputable def ub_p9 : Code := sB ub_p8

def ub_5 (Q : QT) (E : ET) (x7 : Bool) (H : Heap) : Prop :=
 sel x7
 (Q (.int .i64 1) H)
 (ub_1 Q E  H)

def ub_5_M (Q : QT) (E : ET) (τ : Tau) (H : Heap) : Prop := mB (τ 7) fun x7 => ub_5 Q E x7 H

theorem ub_6ok (Q : QT) (E : ET) (τ : Tau) (H : Heap) (h : ub_5_M Q E τ H) : vc Pr ub_p9 τ (ub_q3 Q E) E H :=
  vB (i := 7) h (fun x7 h => (conv (by kernel_rfl) h))

@[reducible] noncomputable def ub_q4 (Q : QT) (E : ET) : Exit → Tau → Heap → Prop := (xthen (ub_5_M Q E) (ub_q3 Q E))

@[reducible] noncomputable def ub_p10 : Code := sA ub_p8

def ub_7 (Q : QT) (E : ET) (x3 : Int) (H : Heap) : Prop :=
 sel ((x3 : Int) == 5)
 (ub_5 Q E ((x3 : Int) == 5) H)
 (sel ((x3 : Int) == 6)
 (ub_5 Q E ((x3 : Int) == 6) H)
 (ub_5 Q E ((x3 : Int) == 7) H))

def ub_7_M (Q : QT) (E : ET) (τ : Tau) (H : Heap) : Prop := mI .i64 (τ 3) fun x3 => ub_7 Q E x3 H

theorem ub_8ok (Q : QT) (E : ET) (τ : Tau) (H : Heap) (h : ub_7_M Q E τ H) : vc Pr ub_p10 τ (ub_q4 Q E) E H :=
  vI (i := 3) h (fun x3 h => (conv (by kernel_rfl) h))

theorem ub_9ok (Q : QT) (E : ET) (τ : Tau) (H : Heap) (h : ub_7_M Q E τ H) : vc Pr ub_p8 τ (ub_q3 Q E) E H :=
  (conv (B := vc Pr ub_p8 τ (ub_q3 Q E) E H) (by kernel_rfl) (vc_seq (K := (ub_5_M Q E)) (ub_8ok Q E τ H h) (ub_6ok Q E)))

def ub_10 (Q : QT) (E : ET) (x3 : Int) (x4 : Bool) (H : Heap) : Prop :=
 sel x4
 (ub_3 Q E  H)
 (ub_7 Q E x3 H)

def ub_10_M (Q : QT) (E : ET) (τ : Tau) (H : Heap) : Prop := mI .i64 (τ 3) fun x3 => mB (τ 4) fun x4 => ub_10 Q E x3 x4 H

theorem ub_11ok (Q : QT) (E : ET) (τ : Tau) (H : Heap) (h : ub_10_M Q E τ H) : vc Pr ub_p6 τ (ub_q3 Q E) E H :=
  vI (i := 3) h (fun x3 h => vB (i := 4) h (fun x4 h => (conv (B := vc Pr ub_p6 (Tau.upd (Tau.upd τ 3 (.int .i64 x3)) 4 (.bool x4)) (ub_q3 Q E) E H) (by kernel_rfl) (sel_map (ub_4ok Q E (Tau.upd (Tau.upd τ 3 (.int .i64 x3)) 4 (.bool x4)) H) (ub_9ok Q E (Tau.upd (Tau.upd τ 3 (.int .i64 x3)) 4 (.bool x4)) H) (conv (B := sel x4 (ub_3_M Q E (Tau.upd (Tau.upd τ 3 (.int .i64 x3)) 4 (.bool x4)) H) (ub_7_M Q E (Tau.upd (Tau.upd τ 3 (.int .i64 x3)) 4 (.bool x4)) H)) (by kernel_rfl) h)))))

@[reducible] noncomputable def ub_q5 (Q : QT) (E : ET) : Exit → Tau → Heap → Prop := (xthen (ub_10_M Q E) (ub_q3 Q E))

@[reducible] noncomputable def ub_p11 : Code := sA ub_p5

def ub_12 (Q : QT) (E : ET) (x3 : Int) (H : Heap) : Prop :=
 sel ((x3 : Int) == 3)
 (ub_10 Q E x3 ((x3 : Int) == 3) H)
 (ub_10 Q E x3 ((x3 : Int) == 4) H)

def ub_12_M (Q : QT) (E : ET) (τ : Tau) (H : Heap) : Prop := mI .i64 (τ 3) fun x3 => ub_12 Q E x3 H

theorem ub_13ok (Q : QT) (E : ET) (τ : Tau) (H : Heap) (h : ub_12_M Q E τ H) : vc Pr ub_p11 τ (ub_q5 Q E) E H :=
  vI (i := 3) h (fun x3 h => (conv (by kernel_rfl) h))

theorem ub_14ok (Q : QT) (E : ET) (τ : Tau) (H : Heap) (h : ub_12_M Q E τ H) : vc Pr ub_p5 τ (ub_q3 Q E) E H :=
  (conv (B := vc Pr ub_p5 τ (ub_q3 Q E) E H) (by kernel_rfl) (vc_seq (K := (ub_10_M Q E)) (ub_13ok Q E τ H h) (ub_11ok Q E)))

theorem ub_15ok (Q : QT) (E : ET) (τ : Tau) (H : Heap) (h : ub_12_M Q E τ H) : vc Pr ub_p4 τ (ub_q2 Q E) E H :=
  (conv (B := vc Pr ub_p4 τ (ub_q2 Q E) E H) (by kernel_rfl) (ub_14ok Q E τ H h))

@[reducible] noncomputable def ub_q6 (Q : QT) (E : ET) : Exit → Tau → Heap → Prop := (xthen (ub_12_M Q E) (ub_q2 Q E))

@[reducible] noncomputable def ub_p12 : Code := sA ub_p3

def ub_16 (Q : QT) (E : ET) (x0 : Int) (H : Heap) : Prop :=
 ub_12 Q E x0 H

def ub_16_M (Q : QT) (E : ET) (τ : Tau) (H : Heap) : Prop := mI .i64 (τ 0) fun x0 => ub_16 Q E x0 H

theorem ub_17ok (Q : QT) (E : ET) (τ : Tau) (H : Heap) (h : ub_16_M Q E τ H) : vc Pr ub_p12 τ (ub_q6 Q E) E H :=
  vI (i := 0) h (fun x0 h => (conv (by kernel_rfl) h))

theorem ub_18ok (Q : QT) (E : ET) (τ : Tau) (H : Heap) (h : ub_16_M Q E τ H) : vc Pr ub_p3 τ (ub_q2 Q E) E H :=
  (conv (B := vc Pr ub_p3 τ (ub_q2 Q E) E H) (by kernel_rfl) (vc_seq (K := (ub_12_M Q E)) (ub_17ok Q E τ H h) (ub_15ok Q E)))

theorem ub_19ok (Q : QT) (E : ET) (τ : Tau) (H : Heap) (h : ub_16_M Q E τ H) : vc Pr ub_p1 τ (ub_q1 Q E) E H :=
  (conv (B := vc Pr ub_p1 τ (ub_q1 Q E) E H) (by kernel_rfl) (vc_seq (K := (ub_1_M Q E)) (ub_18ok Q E τ H h) (ub_2ok Q E)))

@[reducible] noncomputable def ub_q7 (Q : QT) (E : ET) : Exit → Tau → Heap → Prop := (xthen (ub_16_M Q E) (ub_q1 Q E))

@[reducible] noncomputable def ub_p13 : Code := sA ub_p0

def ub (Q : QT) (E : ET) (a0 : Int) (H : Heap) : Prop :=
 ub_16 Q E a0 H

theorem ub_fn (a0 : Int) (Q : QT) (E : ET) (H : Heap) (h : ub Q E a0 H)   : Does Pr 42 #[(.int .i64 a0)] H Q E :=
  Fn_of_vc (fn := Try.f42) (c := ub_p0) (args := [(.int .i64 a0)]) mixed (by kernel_rfl) (by kernel_rfl) (by kernel_rfl) (by kernel_rfl) (by kernel_rfl) ((conv (B := vc Pr ub_p0 (argT [(.int .i64 a0)]) (ub_q1 Q E) E H) (by kernel_rfl) (vc_seq (K := (ub_16_M Q E)) (conv (B := vc Pr ub_p13 (argT [(.int .i64 a0)]) (ub_q7 Q E) E H) (by kernel_rfl) h) (ub_19ok Q E))))

/-! (*jobmux/jobmuxref08.parser).alt -/
@[reducible] noncomputable def uc_q1 (Q : QT) (E : ET) : Exit → Tau → Heap → Prop := (retQ Pr (Try.f56).results.toList Q)

@[reducible] noncomputable def uc_p0 : Code := bodyOf Try.f56

@[reducible] noncomputable def uc_p1 : Code := sB uc_p0

@[reducible] noncomputable def uc_p2 : Code := sB uc_p1

@[reducible] noncomputable def uc_p3 : Code := sB uc_p2

def uc_1 (Q : QT) (E : ET) (x3 : OA) (l3 : Nat) (c3 : Nat) (H : Heap) : Prop :=
 Q (.slice x3 l3 c3) H

def uc_1_M (Q : QT) (E : ET) (τ : Tau) (H : Heap) : Prop := mSl (τ 3) fun x3 l3 c3 => uc_1 Q E x3 l3 c3 H

theorem uc_2ok (Q : QT) (E : ET) (τ : Tau) (H : Heap) (h : uc_1_M Q E τ H) : vc Pr uc_p3 τ (uc_q1 Q E) E H :=
  vSl (i := 3) h (fun x3 l3 c3 h => (conv (by kernel_rfl) h))

@[reducible] noncomputable def uc_q2 (Q : QT) (E : ET) : Exit → Tau → Heap → Prop := (xthen (uc_1_M Q E) (uc_q1 Q E))

@[reducible] noncomputable def uc_p4 : Code := sA uc_p2

@[reducible] noncomputable def uc_q3 (Q : QT) (E : ET) : Exit → Tau → Heap → Prop := (xblock 0 (uc_q2 Q E))

@[reducible] noncomputable def uc_p5 : Code := sI uc_p4

@[reducible] noncomputable def uc_q4 (nx29 : Option Addr → Nat → Nat → HP) (Q : QT) (E : ET) : Exit → Tau → Heap → Prop := (xthen (fun τ H => mSl (τ 3) fun x3' l3' c3' => nx29 x3' l3' c3' H) (uc_q3 Q E))

@[reducible] noncomputable def uc_p6 : Code := sI uc_p5

@[reducible] noncomputable def uc_p7 : Code := sB uc_p6

@[reducible] noncomputable def uc_q5 (nx29 : Option Addr → Nat → Nat → HP) (Q : QT) (E : ET) : Exit → Tau → Heap → Prop := (xblock 1 (uc_q4 nx29 Q E))

@[reducible] noncomputable def uc_p8 : Code := sI uc_p7

@[reducible] noncomputable def uc_p9 : Code := sB uc_p8

@[reducible] noncomputable def uc_p10 : Code := sB uc_p9

@[reducible] noncomputable def uc_p11 : Code := sB uc_p10

def uc_3 (nx29 : Option Addr → Nat → Nat → HP) (Q : QT) (E : ET) (x0 : OA) (x3 : OA) (l3 : Nat) (c3 : Nat) (x4 : OA) (l4 : Nat) (c4 : Nat) (H : Heap) : Prop :=
 Does Pr 91 #[(.int .i64 4), (.slice x3 l3 c3), (.slice x4 l4 c4)] H (fun v48 H49 =>
 ∃ (p50 : OA) (l51 c52 : Nat), v48 = (.slice p50 l51 c52) ∧ nx29 p50 l51 c52 H49) E

def uc_3_M (nx29 : Option Addr → Nat → Nat → HP) (Q : QT) (E : ET) (τ : Tau) (H : Heap) : Prop := mP (τ 0) fun x0 => mSl (τ 3) fun x3 l3 c3 => mSl (τ 4) fun x4 l4 c4 => uc_3 nx29 Q E x0 x3 l3 c3 x4 l4 c4 H

theorem uc_4ok (nx29 : Option Addr → Nat → Nat → HP) (Q : QT) (E : ET) (τ : Tau) (H : Heap) (h : uc_3_M nx29 Q E τ H) : vc Pr uc_p11 τ (uc_q5 nx29 Q E) E H :=
  vP (i := 0) h (fun x0 h => vSl (i := 3) h (fun x3 l3 c3 h => vSl (i := 4) h (fun x4 l4 c4 h => (conv (by kernel_rfl) h))))

@[reducible] noncomputable def uc_q6 (nx29 : Option Addr → Nat → Nat → HP) (Q : QT) (E : ET) : Exit → Tau → Heap → Prop := (xthen (uc_3_M nx29 Q E) (uc_q5 nx29 Q E))

@[reducible] noncomputable def uc_p12 : Code := sA uc_p10

def uc_5 (nx29 : Option Addr → Nat → Nat → HP) (Q : QT) (E : ET) (x0 : OA) (x3 : OA) (l3 : Nat) (c3 : Nat) (x4 : OA) (l4 : Nat) (c4 : Nat) (H : Heap) : Prop :=
 ptr x0 fun q53 =>
 ldI .i64 (Addr.add q53 3) H fun n54 =>
 sel ((n54 : Int) != 0)
 (Q (.slice none 0 0) H)
 (uc_3 nx29 Q E x0 x3 l3 c3 x4 l4 c4 H)

def uc_5_M (nx29 : Option Addr → Nat → Nat → HP) (Q : QT) (E : ET) (τ : Tau) (H : Heap) : Prop := mP (τ 0) fun x0 => mSl (τ 3) fun x3 l3 c3 => mSl (τ 4) fun x4 l4 c4 => uc_5 nx29 Q E x0 x3 l3 c3 x4 l4 c4 H

theorem uc_6ok (nx29 : Option Addr → Nat → Nat → HP) (Q : QT) (E : ET) (τ : Tau) (H : Heap) (h : uc_5_M nx29 Q E τ H) : vc Pr uc_p12 τ (uc_q6 nx29 Q E) E H :=
  vP (i := 0) h (fun x0 h => vSl (i := 3) h (fun x3 l3 c3 h => vSl (i := 4) h (fun x4 l4 c4 h => (conv (by kernel_rfl) h))))

theorem uc_7ok (nx29 : Option Addr → Nat → Nat → HP) (Q : QT) (E : ET) (τ : Tau) (H : Heap) (h : uc_5_M nx29 Q E τ H) : vc Pr uc_p10 τ (uc_q5 nx29 Q E) E H :=
  (conv (B := vc Pr uc_p10 τ (uc_q5 nx29 Q E) E H) (by kernel_rfl) (vc_seq (K := (uc_3_M nx29 Q E)) (uc_6ok nx29 Q E τ H h) (uc_4ok nx29 Q E)))

@[reducible] noncomputable def uc_q7 (nx29 : Option Addr → Nat → Nat → HP) (Q : QT) (E : ET) : Exit → Tau → Heap → Prop := (xthen (uc_5_M nx29 Q E) (uc_q5 nx29 Q E))

@[reducible] noncomputable def uc_p13 : Code := sA uc_p9

def uc_8 (nx29 : Option Addr → Nat → Nat → HP) (Q : QT) (E : ET) (x0 : OA) (x3 : OA) (l3 : Nat) (c3 : Nat) (H : Heap) : Prop :=
 Does Pr 89 #[(.pointer x0)] H (fun v55 H56 =>
 ∃ (p57 : OA) (l58 c59 : Nat), v55 = (.slice p57 l58 c59) ∧ uc_5 nx29 Q E x0 x3 l3 c3 p57 l58 c59 H56) E

def uc_8_M (nx29 : Option Addr → Nat → Nat → HP) (Q : QT) (E : ET) (τ : Tau) (H : Heap) : Prop := mP (τ 0) fun x0 => mSl (τ 3) fun x3 l3 c3 => uc_8 nx29 Q E x0 x3 l3 c3 H

theorem uc_9ok (nx29 : Option Addr → Nat → Nat → HP) (Q : QT) (E : ET) (τ : Tau) (H : Heap) (h : uc_8_M nx29 Q E τ H) : vc Pr uc_p13 τ (uc_q7 nx29 Q E) E H :=
  vP (i := 0) h (fun x0 h => vSl (i := 3) h (fun x3 l3 c3 h => (conv (by kernel_rfl) h)))

theorem uc_10ok (nx29 : Option Addr → Nat → Nat → HP) (Q : QT) (E : ET) (τ : Tau) (H : Heap) (h : uc_8_M nx29 Q E τ H) : vc Pr uc_p9 τ (uc_q5 nx29 Q E) E H :=
  (conv (B := vc Pr uc_p9 τ (uc_q5 nx29 Q E) E H) (by kernel_rfl) (vc_seq (K := (uc_5_M nx29 Q E)) (uc_9ok nx29 Q E τ H h) (uc_7ok nx29 Q E)))

@[reducible] noncomputable def uc_q8 (nx29 : Option Addr → Nat → Nat → HP) (Q : QT) (E : ET) : Exit → Tau → Heap → Prop := (xthen (uc_8_M nx29 Q E) (uc_q5 nx29 Q E))

@[reducible] noncomputable def uc_p14 : Code := sA uc_p8

def uc_11 (nx29 : Option Addr → Nat → Nat → HP) (Q : QT) (E : ET) (x0 : OA) (x3 : OA) (l3 : Nat) (c3 : Nat) (H : Heap) : Prop :=
 ptr x0 fun q60 =>
 ldI .i64 (Addr.add q60 1) H fun n61 =>
 ptr x0 fun q62 =>
 wr (Addr.add q62 1) [(.int .i64 (IntKind.wrap .i64 (n61 + 1)))] H fun H63 =>
 uc_8 nx29 Q E x0 x3 l3 c3 H63

def uc_11_M (nx29 : Option Addr → Nat → Nat → HP) (Q : QT) (E : ET) (τ : Tau) (H : Heap) : Prop := mP (τ 0) fun x0 => mSl (τ 3) fun x3 l3 c3 => uc_11 nx29 Q E x0 x3 l3 c3 H

theorem uc_12ok (nx29 : Option Addr → Nat → Nat → HP) (Q : QT) (E : ET) (τ : Tau) (H : Heap) (h : uc_11_M nx29 Q E τ H) : vc Pr uc_p14 τ (uc_q8 nx29 Q E) E H :=
  vP (i := 0) h (fun x0 h => vSl (i := 3) h (fun x3 l3 c3 h => (conv (by kernel_rfl) h)))

theorem uc_13ok (nx29 : Option Addr → Nat → Nat → HP) (Q : QT) (E : ET) (τ : Tau) (H : Heap) (h : uc_11_M nx29 Q E τ H) : vc Pr uc_p8 τ (uc_q5 nx29 Q E) E H :=
  (conv (B := vc Pr uc_p8 τ (uc_q5 nx29 Q E) E H) (by kernel_rfl) (vc_seq (K := (uc_8_M nx29 Q E)) (uc_12ok nx29 Q E τ H h) (uc_10ok nx29 Q E)))

theorem uc_14ok (nx29 : Option Addr → Nat → Nat → HP) (Q : QT) (E : ET) (τ : Tau) (H : Heap) (h : uc_11_M nx29 Q E τ H) : vc Pr uc_p7 τ (uc_q4 nx29 Q E) E H :=
  (conv (B := vc Pr uc_p7 τ (uc_q4 nx29 Q E) E H) (by kernel_rfl) (uc_13ok nx29 Q E τ H h))

@[reducible] noncomputable def uc_q9 (nx29 : Option Addr → Nat → Nat → HP) (Q : QT) (E : ET) : Exit → Tau → Heap → Prop := (xthen (uc_11_M nx29 Q E) (uc_q4 nx29 Q E))

@[reducible] noncomputable def uc_p15 : Code := sA uc_p6

@[reducible] noncomputable def uc_p16 : Code := sB uc_p15

def uc_15 (nx29 : Option Addr → Nat → Nat → HP) (Q : QT) (E : ET) (x0 : OA) (x3 : OA) (l3 : Nat) (c3 : Nat) (x20 : Bool) (H : Heap) : Prop :=
 sel x20
 (uc_11 nx29 Q E x0 x3 l3 c3 H)
 (uc_1 Q E x3 l3 c3 H)

def uc_15_M (nx29 : Option Addr → Nat → Nat → HP) (Q : QT) (E : ET) (τ : Tau) (H : Heap) : Prop := mP (τ 0) fun x0 => mSl (τ 3) fun x3 l3 c3 => mB (τ 20) fun x20 => uc_15 nx29 Q E x0 x3 l3 c3 x20 H

theorem uc_16ok (nx29 : Option Addr → Nat → Nat → HP) (Q : QT) (E : ET) (τ : Tau) (H : Heap) (h : uc_15_M nx29 Q E τ H) : vc Pr uc_p16 τ (uc_q9 nx29 Q E) E H :=
  vP (i := 0) h (fun x0 h => vSl (i := 3) h (fun x3 l3 c3 h => vB (i := 20) h (fun x20 h => (conv (by kernel_rfl) h))))

@[reducible] noncomputable def uc_q10 (nx29 : Option Addr → Nat → Nat → HP) (Q : QT) (E : ET) : Exit → Tau → Heap → Prop := (xthen (uc_15_M nx29 Q E) (uc_q9 nx29 Q E))

@[reducible] noncomputable def uc_p17 : Code := sA uc_p15

def uc_17 (nx29 : Option Addr → Nat → Nat → HP) (Q : QT) (E : ET) (x0 : OA) (x3 : OA) (l3 : Nat) (c3 : Nat) (H : Heap) : Prop :=
 Does Pr 90 #[(.pointer x0)] H (fun v71 H72 =>
 ∃ b73 : Bool, v71 = (.bool b73) ∧ sel b73
 (ptr x0 fun q74 =>
 ldS q74 H72 fun s75 =>
 ptr x0 fun q76 =>
 ldI .i64 (Addr.add q76 1) H72 fun n77 =>
 (0 ≤ (n77 : Int) ∧ (n77 : Int) < ((ByteArray.size s75 : Nat) : Int)) ∧ uc_15 nx29 Q E x0 x3 l3 c3 (((sAt s75 n77) : Int) == 124) H72)
 (uc_15 nx29 Q E x0 x3 l3 c3 false H72)) (fun _ _ => False)

def uc_17_M (nx29 : Option Addr → Nat → Nat → HP) (Q : QT) (E : ET) (τ : Tau) (H : Heap) : Prop := mP (τ 0) fun x0 => mSl (τ 3) fun x3 l3 c3 => uc_17 nx29 Q E x0 x3 l3 c3 H

theorem uc_18ok (nx29 : Option Addr → Nat → Nat → HP) (Q : QT) (E : ET) (τ : Tau) (H : Heap) (h : uc_17_M nx29 Q E τ H) : vc Pr uc_p17 τ (uc_q10 nx29 Q E) E H :=
  vP (i := 0) h (fun x0 h => vSl (i := 3) h (fun x3 l3 c3 h => (conv (by kernel_rfl) h)))

theorem uc_19ok (nx29 : Option Addr → Nat → Nat → HP) (Q : QT) (E : ET) (τ : Tau) (H : Heap) (h : uc_17_M nx29 Q E τ H) : vc Pr uc_p15 τ (uc_q9 nx29 Q E) E H :=
  (conv (B := vc Pr uc_p15 τ (uc_q9 nx29 Q E) E H) (by kernel_rfl) (vc_seq (K := (uc_15_M nx29 Q E)) (uc_18ok nx29 Q E τ H h) (uc_16ok nx29 Q E)))

theorem uc_20ok (nx29 : Option Addr → Nat → Nat → HP) (Q : QT) (E : ET) (τ : Tau) (H : Heap) (h : uc_17_M nx29 Q E τ H) : vc Pr uc_p6 τ (uc_q4 nx29 Q E) E H :=
  (conv (B := vc Pr uc_p6 τ (uc_q4 nx29 Q E) E H) (by kernel_rfl) (vc_seq (K := (uc_11_M nx29 Q E)) (uc_19ok nx29 Q E τ H h) (uc_14ok nx29 Q E)))

def uc_21 (Q : QT) (E : ET) (x0 : OA) (x3 : OA) (l3 : Nat) (c3 : Nat) (H : Heap) : Prop :=
 ∃ (I : Option Addr → Nat → Nat → HP) (μ : Option Addr → Nat → Nat → Heap → Nat), I x3 l3 c3 H ∧ ∀ (x3 : OA) (l3 : Nat) (c3 : Nat) (H : Heap), I x3 l3 c3 H →
 uc_17 (fun x3' l3' c3' H1 => I x3' l3' c3' H1 ∧ μ x3' l3' c3' H1 < μ x3 l3 c3 H) Q E x0 x3 l3 c3 H

def uc_21_M (Q : QT) (E : ET) (τ : Tau) (H : Heap) : Prop := mP (τ 0) fun x0 => mSl (τ 3) fun x3 l3 c3 => uc_21 Q E x0 x3 l3 c3 H

theorem uc_22ok (Q : QT) (E : ET) (τ : Tau) (H : Heap) (h : uc_21_M Q E τ H) : vc Pr uc_p5 τ (uc_q3 Q E) E H :=
  vP (i := 0) h (fun x0 h => vSl (i := 3) h (fun x3 l3 c3 h => match h with | ⟨I, μ, h0, hr⟩ => (conv (B := vc Pr uc_p5 (Tau.upd (Tau.upd τ 0 (.pointer x0)) 3 (.slice x3 l3 c3)) (uc_q3 Q E) E H) (by kernel_rfl) (vc_loop (c := sI uc_p5) (τ := (Tau.upd (Tau.upd τ 0 (.pointer x0)) 3 (.slice x3 l3 c3))) [0] (fun τ H => mSl (τ 3) fun x3' l3' c3' => I x3' l3' c3' H) (fun τ H => μ (gL1 (τ 3)) (gL2 (τ 3)) (gL3 (τ 3)) H) (by kernel_rfl) h0 (fun τ1 H1 hf hI => fix_elim (τ := τ1) (i := 0) (v := (.pointer x0)) (G := fun τ => vc Pr (sI uc_p5) τ (xthen (fun τ2 H2 => (mSl (τ2 3) fun x3' l3' c3' => I x3' l3' c3' H2) ∧ μ (gL1 (τ2 3)) (gL2 (τ2 3)) (gL3 (τ2 3)) H2 < μ (gL1 (τ 3)) (gL2 (τ 3)) (gL3 (τ 3)) H1) (uc_q3 Q E)) E H1) (hf 0 (by simp)) (mSl_elim (i := 3) (G := fun τ => vc Pr (sI uc_p5) τ (xthen (fun τ2 H2 => (mSl (τ2 3) fun x3' l3' c3' => I x3' l3' c3' H2) ∧ μ (gL1 (τ2 3)) (gL2 (τ2 3)) (gL3 (τ2 3)) H2 < μ (gL1 (τ 3)) (gL2 (τ 3)) (gL3 (τ 3)) H1) (uc_q3 Q E)) E H1) hI (fun x3r l3r c3r h => (conv (B := vc Pr (sI uc_p5) (Tau.upd (Tau.upd τ1 0 (.pointer x0)) 3 (.slice x3r l3r c3r)) (xthen (fun τ2 H2 => (mSl (τ2 3) fun x3' l3' c3' => I x3' l3' c3' H2) ∧ μ (gL1 (τ2 3)) (gL2 (τ2 3)) (gL3 (τ2 3)) H2 < μ (gL1 ((Tau.upd (Tau.upd τ1 0 (.pointer x0)) 3 (.slice x3r l3r c3r)) 3)) (gL2 ((Tau.upd (Tau.upd τ1 0 (.pointer x0)) 3 (.slice x3r l3r c3r)) 3)) (gL3 ((Tau.upd (Tau.upd τ1 0 (.pointer x0)) 3 (.slice x3r l3r c3r)) 3)) H1) (uc_q3 Q E)) E H1) (by kernel_rfl) (vc_xthen (uc_20ok (fun x3' l3' c3' H2 => I x3' l3' c3' H2 ∧ μ x3' l3' c3' H2 < μ x3r l3r c3r H1) Q E (Tau.upd (Tau.upd τ1 0 (.pointer x0)) 3 (.slice x3r l3r c3r)) H1 (conv (B := uc_17_M (fun x3' l3' c3' H2 => I x3' l3' c3' H2 ∧ μ x3' l3' c3' H2 < μ x3r l3r c3r H1) Q E (Tau.upd (Tau.upd τ1 0 (.pointer x0)) 3 (.slice x3r l3r c3r)) H1) (by kernel_rfl) (hr x3r l3r c3r H1 h))) (fun τ2 H2 hk => mSl_elim (i := 3) (G := fun τ => (mSl (τ 3) fun x3' l3' c3' => I x3' l3' c3' H2) ∧ μ (gL1 (τ 3)) (gL2 (τ 3)) (gL3 (τ 3)) H2 < μ x3r l3r c3r H1) hk (fun x3' l3' c3' h => h)))))))))))

theorem uc_23ok (Q : QT) (E : ET) (τ : Tau) (H : Heap) (h : uc_21_M Q E τ H) : vc Pr uc_p4 τ (uc_q2 Q E) E H :=
  (conv (B := vc Pr uc_p4 τ (uc_q2 Q E) E H) (by kernel_rfl) (uc_22ok Q E τ H h))

theorem uc_24ok (Q : QT) (E : ET) (τ : Tau) (H : Heap) (h : uc_21_M Q E τ H) : vc Pr uc_p2 τ (uc_q1 Q E) E H :=
  (conv (B := vc Pr uc_p2 τ (uc_q1 Q E) E H) (by kernel_rfl) (vc_seq (K := (uc_1_M Q E)) (uc_23ok Q E τ H h) (uc_2ok Q E)))

@[reducible] noncomputable def uc_q11 (Q : QT) (E : ET) : Exit → Tau → Heap → Prop := (xthen (uc_21_M Q E) (uc_q1 Q E))

@[reducible] noncomputable def uc_p18 : Code := sA uc_p1

def uc_25 (Q : QT) (E : ET) (x0 : OA) (H : Heap) : Prop :=
 Does Pr 89 #[(.pointer x0)] H (fun v78 H79 =>
 ∃ (p80 : OA) (l81 c82 : Nat), v78 = (.slice p80 l81 c82) ∧ uc_21 Q E x0 p80 l81 c82 H79) E

def uc_25_M (Q : QT) (E : ET) (τ : Tau) (H : Heap) : Prop := mP (τ 0) fun x0 => uc_25 Q E x0 H

theorem uc_26ok (Q : QT) (E : ET) (τ : Tau) (H : Heap) (h : uc_25_M Q E τ H) : vc Pr uc_p18 τ (uc_q11 Q E) E H :=
  vP (i := 0) h (fun x0 h => (conv (by kernel_rfl) h))

theorem uc_27ok (Q : QT) (E : ET) (τ : Tau) (H : Heap) (h : uc_25_M Q E τ H) : vc Pr uc_p1 τ (uc_q1 Q E) E H :=
  (conv (B := vc Pr uc_p1 τ (uc_q1 Q E) E H) (by kernel_rfl) (vc_seq (K := (uc_21_M Q E)) (uc_26ok Q E τ H h) (uc_24ok Q E)))

@[reducible] noncomputable def uc_q12 (Q : QT) (E : ET) : Exit → Tau → Heap → Prop := (xthen (uc_25_M Q E) (uc_q1 Q E))

@[reducible] noncomputable def uc_p19 : Code := sA uc_p0

def uc (Q : QT) (E : ET) (a0 : OA) (H : Heap) : Prop :=
 uc_25 Q E a0 H

theorem uc_fn (a0 : OA) (Q : QT) (E : ET) (H : Heap) (h : uc Q E a0 H)   : Does Pr 56 #[(.pointer a0)] H Q E :=
  Fn_of_vc (fn := Try.f56) (c := uc_p0) (args := [(.pointer a0)]) mixed (by kernel_rfl) (by kernel_rfl) (by kernel_rfl) (by kernel_rfl) (by kernel_rfl) ((conv (B := vc Pr uc_p0 (argT [(.pointer a0)]) (uc_q1 Q E) E H) (by kernel_rfl) (vc_seq (K := (uc_25_M Q E)) (conv (B := vc Pr uc_p19 (argT [(.pointer a0)]) (uc_q12 Q E) E H) (by kernel_rfl) h) (uc_27ok Q E))))

/-! (*jobmux/jobmuxref08.parser).fail -/
@[reducible] noncomputable def ud_q1 (Q : QT) (E : ET) : Exit → Tau → Heap → Prop := (retQ Pr (Try.f57).results.toList Q)

@[reducible] noncomputable def ud_p0 : Code := bodyOf Try.f57

def ud (Q : QT) (E : ET) (a0 : OA) (a1 : Int) (H : Heap) : Prop :=
 ptr a0 fun q1 =>
 ldI .i64 (Addr.add q1 3) H fun n2 =>
 sel ((n2 : Int) == 0)
 (ptr a0 fun q3 =>
 wr (Addr.add q3 3) [(.int .i64 a1)] H fun H4 =>
 Q (.tuple #[]) H4)
 (Q (.tuple #[]) H)

theorem ud_fn (a0 : OA) (a1 : Int) (Q : QT) (E : ET) (H : Heap) (h : ud Q E a0 a1 H)   : Does Pr 57 #[(.pointer a0), (.int .i64 a1)] H Q E :=
  Fn_of_vc (fn := Try.f57) (c := ud_p0) (args := [(.pointer a0), (.int .i64 a1)]) mixed (by kernel_rfl) (by kernel_rfl) (by kernel_rfl) (by kernel_rfl) (by kernel_rfl) ((conv (B := vc Pr ud_p0 (argT [(.pointer a0), (.int .i64 a1)]) (ud_q1 Q E) E H) (by kernel_rfl) h))

/-! jobmux/jobmuxref08.Has -/
@[reducible] noncomputable def ue_q1 (Q : QT) (E : ET) : Exit → Tau → Heap → Prop := (retQ Pr (Try.f73).results.toList Q)

@[reducible] noncomputable def ue_p0 : Code := bodyOf Try.f73

def ue (Q : QT) (E : ET) (a0_0 : Int) (a0_1 : Int) (a0_2 : Int) (a0_3 : Int) (a1 : Int) (H : Heap) : Prop :=
 nw (.cells #[(.int .u64 a0_0), (.int .u64 a0_1), (.int .u64 a0_2), (.int .u64 a0_3)] 46 (0, 0)) H fun i1 H2 =>
 (64 : Int) ≠ 0 ∧ (0 ≤ ((IntKind.wrap .u8 (Int.tdiv a1 64)) : Int) ∧ ((IntKind.wrap .u8 (Int.tdiv a1 64)) : Int) < ((4 : Nat) : Int)) ∧ ldI .u64 (Addr.add ⟨i1, 0, none⟩ (((IntKind.wrap .u8 (Int.tdiv a1 64)) : Int).toNat * 1)) H2 fun n3 =>
 (64 : Int) ≠ 0 ∧ 0 ≤ ((Int.tmod a1 64) : Int) ∧ Q (.bool (((IntKind.wrap .u64 (BitVec.ofInt (IntKind.bits .u64) (Int.fdiv n3 (2 ^ min ((Int.tmod a1 64) : Int).toNat (IntKind.bits .u64))) &&& BitVec.ofInt (IntKind.bits .u64) 1).toNat) : Int) == 1)) H2

theorem ue_fn (a0_0 : Int) (a0_1 : Int) (a0_2 : Int) (a0_3 : Int) (a1 : Int) (Q : QT) (E : ET) (H : Heap) (h : ue Q E a0_0 a0_1 a0_2 a0_3 a1 H)   : Does Pr 73 #[(.agg #[(.int .u64 a0_0), (.int .u64 a0_1), (.int .u64 a0_2), (.int .u64 a0_3)]), (.int .u8 a1)] H Q E :=
  Fn_of_vc (fn := Try.f73) (c := ue_p0) (args := [(.agg #[(.int .u64 a0_0), (.int .u64 a0_1), (.int .u64 a0_2), (.int .u64 a0_3)]), (.int .u8 a1)]) mixed (by kernel_rfl) (by kernel_rfl) (by kernel_rfl) (by kernel_rfl) (by kernel_rfl) ((conv (B := vc Pr ue_p0 (argT [(.agg #[(.int .u64 a0_0), (.int .u64 a0_1), (.int .u64 a0_2), (.int .u64 a0_3)]), (.int .u8 a1)]) (ue_q1 Q E) E H) (by kernel_rfl) h))

/-! (*jobmux/jobmuxref08.parser).cat -/
@[reducible] noncomputable def uf_q1 (Q : QT) (E : ET) : Exit → Tau → Heap → Prop := (retQ Pr (Try.f89).results.toList Q)

@[reducible] noncomputable def uf_p0 : Code := bodyOf Try.f89

@[reducible] noncomputable def uf_p1 : Code := sB uf_p0

@[reducible] noncomputable def uf_p2 : Code := sB uf_p1

@[reducible] noncomputable def uf_p3 : Code := sB uf_p2

@[reducible] noncomputable def uf_p4 : Code := sB uf_p3

def uf_1 (Q : QT) (E : ET) (x3 : OA) (l3 : Nat) (c3 : Nat) (H : Heap) : Prop :=
 Q (.slice x3 l3 c3) H

def uf_1_M (Q : QT) (E : ET) (τ : Tau) (H : Heap) : Prop := mSl (τ 3) fun x3 l3 c3 => uf_1 Q E x3 l3 c3 H

theorem uf_2ok (Q : QT) (E : ET) (τ : Tau) (H : Heap) (h : uf_1_M Q E τ H) : vc Pr uf_p4 τ (uf_q1 Q E) E H :=
  vSl (i := 3) h (fun x3 l3 c3 h => (conv (by kernel_rfl) h))

@[reducible] noncomputable def uf_q2 (Q : QT) (E : ET) : Exit → Tau → Heap → Prop := (xthen (uf_1_M Q E) (uf_q1 Q E))

@[reducible] noncomputable def uf_p5 : Code := sA uf_p3

def uf_3 (Q : QT) (E : ET) (x3 : OA) (l3 : Nat) (c3 : Nat) (H : Heap) : Prop :=
 sel ((((l3 : Nat) : Int) : Int) == 0)
 (Does Pr 101 #[(.int .i64 1), (.agg #[(.int .u64 0), (.int .u64 0), (.int .u64 0), (.int .u64 0)])] H (fun v29 H30 =>
 ∃ (p31 : OA) (l32 c33 : Nat), v29 = (.slice p31 l32 c33) ∧ Q (.slice p31 l32 c33) H30) E)
 (uf_1 Q E x3 l3 c3 H)

def uf_3_M (Q : QT) (E : ET) (τ : Tau) (H : Heap) : Prop := mSl (τ 3) fun x3 l3 c3 => uf_3 Q E x3 l3 c3 H

theorem uf_4ok (Q : QT) (E : ET) (τ : Tau) (H : Heap) (h : uf_3_M Q E τ H) : vc Pr uf_p5 τ (uf_q2 Q E) E H :=
  vSl (i := 3) h (fun x3 l3 c3 h => (conv (by kernel_rfl) h))

theorem uf_5ok (Q : QT) (E : ET) (τ : Tau) (H : Heap) (h : uf_3_M Q E τ H) : vc Pr uf_p3 τ (uf_q1 Q E) E H :=
  (conv (B := vc Pr uf_p3 τ (uf_q1 Q E) E H) (by kernel_rfl) (vc_seq (K := (uf_1_M Q E)) (uf_4ok Q E τ H h) (uf_2ok Q E)))

@[reducible] noncomputable def uf_q3 (Q : QT) (E : ET) : Exit → Tau → Heap → Prop := (xthen (uf_3_M Q E) (uf_q1 Q E))

@[reducible] noncomputable def uf_p6 : Code := sA uf_p2

@[reducible] noncomputable def uf_q4 (Q : QT) (E : ET) : Exit → Tau → Heap → Prop := (xblock 0 (uf_q3 Q E))

@[reducible] noncomputable def uf_p7 : Code := sI uf_p6

@[reducible] noncomputable def uf_q5 (nx34 : Option Addr → Nat → Nat → HP) (Q : QT) (E : ET) : Exit → Tau → Heap → Prop := (xthen (fun τ H => mSl (τ 3) fun x3' l3' c3' => nx34 x3' l3' c3' H) (uf_q4 Q E))

@[reducible] noncomputable def uf_p8 : Code := sI uf_p7

@[reducible] noncomputable def uf_p9 : Code := sB uf_p8

@[reducible] noncomputable def uf_q6 (nx34 : Option Addr → Nat → Nat → HP) (Q : QT) (E : ET) : Exit → Tau → Heap → Prop := (xblock 1 (uf_q5 nx34 Q E))

@[reducible] noncomputable def uf_p10 : Code := sI uf_p9

@[reducible] noncomputable def uf_p11 : Code := sB uf_p10

@[reducible] noncomputable def uf_p12 : Code := sB uf_p11

def uf_6 (nx34 : Option Addr → Nat → Nat → HP) (Q : QT) (E : ET) (x0 : OA) (x3 : OA) (l3 : Nat) (c3 : Nat) (x4 : OA) (l4 : Nat) (c4 : Nat) (H : Heap) : Prop :=
 sel ((((l3 : Nat) : Int) : Int) == 0)
 (nx34 x4 l4 c4 H)
 (Does Pr 91 #[(.int .i64 3), (.slice x3 l3 c3), (.slice x4 l4 c4)] H (fun v53 H54 =>
 ∃ (p55 : OA) (l56 c57 : Nat), v53 = (.slice p55 l56 c57) ∧ nx34 p55 l56 c57 H54) E)

def uf_6_M (nx34 : Option Addr → Nat → Nat → HP) (Q : QT) (E : ET) (τ : Tau) (H : Heap) : Prop := mP (τ 0) fun x0 => mSl (τ 3) fun x3 l3 c3 => mSl (τ 4) fun x4 l4 c4 => uf_6 nx34 Q E x0 x3 l3 c3 x4 l4 c4 H

theorem uf_7ok (nx34 : Option Addr → Nat → Nat → HP) (Q : QT) (E : ET) (τ : Tau) (H : Heap) (h : uf_6_M nx34 Q E τ H) : vc Pr uf_p12 τ (uf_q6 nx34 Q E) E H :=
  vP (i := 0) h (fun x0 h => vSl (i := 3) h (fun x3 l3 c3 h => vSl (i := 4) h (fun x4 l4 c4 h => (conv (by kernel_rfl) h))))

@[reducible] noncomputable def uf_q7 (nx34 : Option Addr → Nat → Nat → HP) (Q : QT) (E : ET) : Exit → Tau → Heap → Prop := (xthen (uf_6_M nx34 Q E) (uf_q6 nx34 Q E))

@[reducible] noncomputable def uf_p13 : Code := sA uf_p11

def uf_8 (nx34 : Option Addr → Nat → Nat → HP) (Q : QT) (E : ET) (x0 : OA) (x3 : OA) (l3 : Nat) (c3 : Nat) (x4 : OA) (l4 : Nat) (c4 : Nat) (H : Heap) : Prop :=
 ptr x0 fun q58 =>
 ldI .i64 (Addr.add q58 3) H fun n59 =>
 sel ((n59 : Int) != 0)
 (Q (.slice none 0 0) H)
 (uf_6 nx34 Q E x0 x3 l3 c3 x4 l4 c4 H)

def uf_8_M (nx34 : Option Addr → Nat → Nat → HP) (Q : QT) (E : ET) (τ : Tau) (H : Heap) : Prop := mP (τ 0) fun x0 => mSl (τ 3) fun x3 l3 c3 => mSl (τ 4) fun x4 l4 c4 => uf_8 nx34 Q E x0 x3 l3 c3 x4 l4 c4 H

theorem uf_9ok (nx34 : Option Addr → Nat → Nat → HP) (Q : QT) (E : ET) (τ : Tau) (H : Heap) (h : uf_8_M nx34 Q E τ H) : vc Pr uf_p13 τ (uf_q7 nx34 Q E) E H :=
  vP (i := 0) h (fun x0 h => vSl (i := 3) h (fun x3 l3 c3 h => vSl (i := 4) h (fun x4 l4 c4 h => (conv (by kernel_rfl) h))))

theorem uf_10ok (nx34 : Option Addr → Nat → Nat → HP) (Q : QT) (E : ET) (τ : Tau) (H : Heap) (h : uf_8_M nx34 Q E τ H) : vc Pr uf_p11 τ (uf_q6 nx34 Q E) E H :=
  (conv (B := vc Pr uf_p11 τ (uf_q6 nx34 Q E) E H) (by kernel_rfl) (vc_seq (K := (uf_6_M nx34 Q E)) (uf_9ok nx34 Q E τ H h) (uf_7ok nx34 Q E)))

@[reducible] noncomputable def uf_q8 (nx34 : Option Addr → Nat → Nat → HP) (Q : QT) (E : ET) : Exit → Tau → Heap → Prop := (xthen (uf_8_M nx34 Q E) (uf_q6 nx34 Q E))

@[reducible] noncomputable def uf_p14 : Code := sA uf_p10

def uf_11 (nx34 : Option Addr → Nat → Nat → HP) (Q : QT) (E : ET) (x0 : OA) (x3 : OA) (l3 : Nat) (c3 : Nat) (H : Heap) : Prop :=
 Does Pr 100 #[(.pointer x0)] H (fun v60 H61 =>
 ∃ (p62 : OA) (l63 c64 : Nat), v60 = (.slice p62 l63 c64) ∧ uf_8 nx34 Q E x0 x3 l3 c3 p62 l63 c64 H61) E

def uf_11_M (nx34 : Option Addr → Nat → Nat → HP) (Q : QT) (E : ET) (τ : Tau) (H : Heap) : Prop := mP (τ 0) fun x0 => mSl (τ 3) fun x3 l3 c3 => uf_11 nx34 Q E x0 x3 l3 c3 H

theorem uf_12ok (nx34 : Option Addr → Nat → Nat → HP) (Q : QT) (E : ET) (τ : Tau) (H : Heap) (h : uf_11_M nx34 Q E τ H) : vc Pr uf_p14 τ (uf_q8 nx34 Q E) E H :=
  vP (i := 0) h (fun x0 h => vSl (i := 3) h (fun x3 l3 c3 h => (conv (by kernel_rfl) h)))

theorem uf_13ok (nx34 : Option Addr → Nat → Nat → HP) (Q : QT) (E : ET) (τ : Tau) (H : Heap) (h : uf_11_M nx34 Q E τ H) : vc Pr uf_p10 τ (uf_q6 nx34 Q E) E H :=
  (conv (B := vc Pr uf_p10 τ (uf_q6 nx34 Q E) E H) (by kernel_rfl) (vc_seq (K := (uf_8_M nx34 Q E)) (uf_12ok nx34 Q E τ H h) (uf_10ok nx34 Q E)))

theorem uf_14ok (nx34 : Option Addr → Nat → Nat → HP) (Q : QT) (E : ET) (τ : Tau) (H : Heap) (h : uf_11_M nx34 Q E τ H) : vc Pr uf_p9 τ (uf_q5 nx34 Q E) E H :=
  (conv (B := vc Pr uf_p9 τ (uf_q5 nx34 Q E) E H) (by kernel_rfl) (uf_13ok nx34 Q E τ H h))

@[reducible] noncomputable def uf_q9 (nx34 : Option Addr → Nat → Nat → HP) (Q : QT) (E : ET) : Exit → Tau → Heap → Prop := (xthen (uf_11_M nx34 Q E) (uf_q5 nx34 Q E))

@[reducible] noncomputable def uf_p15 : Code := sA uf_p8

@[reducible] noncomputable def uf_p16 : Code := sB uf_p15

def uf_15 (nx34 : Option Addr → Nat → Nat → HP) (Q : QT) (E : ET) (x0 : OA) (x3 : OA) (l3 : Nat) (c3 : Nat) (x30 : Bool) (H : Heap) : Prop :=
 sel x30
 (uf_11 nx34 Q E x0 x3 l3 c3 H)
 (uf_3 Q E x3 l3 c3 H)

def uf_15_M (nx34 : Option Addr → Nat → Nat → HP) (Q : QT) (E : ET) (τ : Tau) (H : Heap) : Prop := mP (τ 0) fun x0 => mSl (τ 3) fun x3 l3 c3 => mB (τ 30) fun x30 => uf_15 nx34 Q E x0 x3 l3 c3 x30 H

theorem uf_16ok (nx34 : Option Addr → Nat → Nat → HP) (Q : QT) (E : ET) (τ : Tau) (H : Heap) (h : uf_15_M nx34 Q E τ H) : vc Pr uf_p16 τ (uf_q9 nx34 Q E) E H :=
  vP (i := 0) h (fun x0 h => vSl (i := 3) h (fun x3 l3 c3 h => vB (i := 30) h (fun x30 h => (conv (by kernel_rfl) h))))

@[reducible] noncomputable def uf_q10 (nx34 : Option Addr → Nat → Nat → HP) (Q : QT) (E : ET) : Exit → Tau → Heap → Prop := (xthen (uf_15_M nx34 Q E) (uf_q9 nx34 Q E))

@[reducible] noncomputable def uf_p17 : Code := sA uf_p15

def uf_17 (nx34 : Option Addr → Nat → Nat → HP) (Q : QT) (E : ET) (x0 : OA) (x3 : OA) (l3 : Nat) (c3 : Nat) (H : Heap) : Prop :=
 Does Pr 90 #[(.pointer x0)] H (fun v76 H77 =>
 ∃ b78 : Bool, v76 = (.bool b78) ∧ sel b78
 (ptr x0 fun q79 =>
 ldS q79 H77 fun s80 =>
 ptr x0 fun q81 =>
 ldI .i64 (Addr.add q81 1) H77 fun n82 =>
 (0 ≤ (n82 : Int) ∧ (n82 : Int) < ((ByteArray.size s80 : Nat) : Int)) ∧ sel (((sAt s80 n82) : Int) != 124)
 (ptr x0 fun q83 =>
 ldS q83 H77 fun s84 =>
 ptr x0 fun q85 =>
 ldI .i64 (Addr.add q85 1) H77 fun n86 =>
 (0 ≤ (n86 : Int) ∧ (n86 : Int) < ((ByteArray.size s84 : Nat) : Int)) ∧ uf_15 nx34 Q E x0 x3 l3 c3 (((sAt s84 n86) : Int) != 41) H77)
 (uf_15 nx34 Q E x0 x3 l3 c3 false H77))
 (uf_15 nx34 Q E x0 x3 l3 c3 false H77)) (fun _ _ => False)

def uf_17_M (nx34 : Option Addr → Nat → Nat → HP) (Q : QT) (E : ET) (τ : Tau) (H : Heap) : Prop := mP (τ 0) fun x0 => mSl (τ 3) fun x3 l3 c3 => uf_17 nx34 Q E x0 x3 l3 c3 H

theorem uf_18ok (nx34 : Option Addr → Nat → Nat → HP) (Q : QT) (E : ET) (τ : Tau) (H : Heap) (h : uf_17_M nx34 Q E τ H) : vc Pr uf_p17 τ (uf_q10 nx34 Q E) E H :=
  vP (i := 0) h (fun x0 h => vSl (i := 3) h (fun x3 l3 c3 h => (conv (by kernel_rfl) h)))

theorem uf_19ok (nx34 : Option Addr → Nat → Nat → HP) (Q : QT) (E : ET) (τ : Tau) (H : Heap) (h : uf_17_M nx34 Q E τ H) : vc Pr uf_p15 τ (uf_q9 nx34 Q E) E H :=
  (conv (B := vc Pr uf_p15 τ (uf_q9 nx34 Q E) E H) (by kernel_rfl) (vc_seq (K := (uf_15_M nx34 Q E)) (uf_18ok nx34 Q E τ H h) (uf_16ok nx34 Q E)))

theorem uf_20ok (nx34 : Option Addr → Nat → Nat → HP) (Q : QT) (E : ET) (τ : Tau) (H : Heap) (h : uf_17_M nx34 Q E τ H) : vc Pr uf_p8 τ (uf_q5 nx34 Q E) E H :=
  (conv (B := vc Pr uf_p8 τ (uf_q5 nx34 Q E) E H) (by kernel_rfl) (vc_seq (K := (uf_11_M nx34 Q E)) (uf_19ok nx34 Q E τ H h) (uf_14ok nx34 Q E)))

def uf_21 (Q : QT) (E : ET) (x0 : OA) (x3 : OA) (l3 : Nat) (c3 : Nat) (H : Heap) : Prop :=
 ∃ (I : Option Addr → Nat → Nat → HP) (μ : Option Addr → Nat → Nat → Heap → Nat), I x3 l3 c3 H ∧ ∀ (x3 : OA) (l3 : Nat) (c3 : Nat) (H : Heap), I x3 l3 c3 H →
 uf_17 (fun x3' l3' c3' H1 => I x3' l3' c3' H1 ∧ μ x3' l3' c3' H1 < μ x3 l3 c3 H) Q E x0 x3 l3 c3 H

def uf_21_M (Q : QT) (E : ET) (τ : Tau) (H : Heap) : Prop := mP (τ 0) fun x0 => mSl (τ 3) fun x3 l3 c3 => uf_21 Q E x0 x3 l3 c3 H

theorem uf_22ok (Q : QT) (E : ET) (τ : Tau) (H : Heap) (h : uf_21_M Q E τ H) : vc Pr uf_p7 τ (uf_q4 Q E) E H :=
  vP (i := 0) h (fun x0 h => vSl (i := 3) h (fun x3 l3 c3 h => match h with | ⟨I, μ, h0, hr⟩ => (conv (B := vc Pr uf_p7 (Tau.upd (Tau.upd τ 0 (.pointer x0)) 3 (.slice x3 l3 c3)) (uf_q4 Q E) E H) (by kernel_rfl) (vc_loop (c := sI uf_p7) (τ := (Tau.upd (Tau.upd τ 0 (.pointer x0)) 3 (.slice x3 l3 c3))) [0] (fun τ H => mSl (τ 3) fun x3' l3' c3' => I x3' l3' c3' H) (fun τ H => μ (gL1 (τ 3)) (gL2 (τ 3)) (gL3 (τ 3)) H) (by kernel_rfl) h0 (fun τ1 H1 hf hI => fix_elim (τ := τ1) (i := 0) (v := (.pointer x0)) (G := fun τ => vc Pr (sI uf_p7) τ (xthen (fun τ2 H2 => (mSl (τ2 3) fun x3' l3' c3' => I x3' l3' c3' H2) ∧ μ (gL1 (τ2 3)) (gL2 (τ2 3)) (gL3 (τ2 3)) H2 < μ (gL1 (τ 3)) (gL2 (τ 3)) (gL3 (τ 3)) H1) (uf_q4 Q E)) E H1) (hf 0 (by simp)) (mSl_elim (i := 3) (G := fun τ => vc Pr (sI uf_p7) τ (xthen (fun τ2 H2 => (mSl (τ2 3) fun x3' l3' c3' => I x3' l3' c3' H2) ∧ μ (gL1 (τ2 3)) (gL2 (τ2 3)) (gL3 (τ2 3)) H2 < μ (gL1 (τ 3)) (gL2 (τ 3)) (gL3 (τ 3)) H1) (uf_q4 Q E)) E H1) hI (fun x3r l3r c3r h => (conv (B := vc Pr (sI uf_p7) (Tau.upd (Tau.upd τ1 0 (.pointer x0)) 3 (.slice x3r l3r c3r)) (xthen (fun τ2 H2 => (mSl (τ2 3) fun x3' l3' c3' => I x3' l3' c3' H2) ∧ μ (gL1 (τ2 3)) (gL2 (τ2 3)) (gL3 (τ2 3)) H2 < μ (gL1 ((Tau.upd (Tau.upd τ1 0 (.pointer x0)) 3 (.slice x3r l3r c3r)) 3)) (gL2 ((Tau.upd (Tau.upd τ1 0 (.pointer x0)) 3 (.slice x3r l3r c3r)) 3)) (gL3 ((Tau.upd (Tau.upd τ1 0 (.pointer x0)) 3 (.slice x3r l3r c3r)) 3)) H1) (uf_q4 Q E)) E H1) (by kernel_rfl) (vc_xthen (uf_20ok (fun x3' l3' c3' H2 => I x3' l3' c3' H2 ∧ μ x3' l3' c3' H2 < μ x3r l3r c3r H1) Q E (Tau.upd (Tau.upd τ1 0 (.pointer x0)) 3 (.slice x3r l3r c3r)) H1 (conv (B := uf_17_M (fun x3' l3' c3' H2 => I x3' l3' c3' H2 ∧ μ x3' l3' c3' H2 < μ x3r l3r c3r H1) Q E (Tau.upd (Tau.upd τ1 0 (.pointer x0)) 3 (.slice x3r l3r c3r)) H1) (by kernel_rfl) (hr x3r l3r c3r H1 h))) (fun τ2 H2 hk => mSl_elim (i := 3) (G := fun τ => (mSl (τ 3) fun x3' l3' c3' => I x3' l3' c3' H2) ∧ μ (gL1 (τ 3)) (gL2 (τ 3)) (gL3 (τ 3)) H2 < μ x3r l3r c3r H1) hk (fun x3' l3' c3' h => h)))))))))))

theorem uf_23ok (Q : QT) (E : ET) (τ : Tau) (H : Heap) (h : uf_21_M Q E τ H) : vc Pr uf_p6 τ (uf_q3 Q E) E H :=
  (conv (B := vc Pr uf_p6 τ (uf_q3 Q E) E H) (by kernel_rfl) (uf_22ok Q E τ H h))

theorem uf_24ok (Q : QT) (E : ET) (τ : Tau) (H : Heap) (h : uf_21_M Q E τ H) : vc Pr uf_p2 τ (uf_q1 Q E) E H :=
  (conv (B := vc Pr uf_p2 τ (uf_q1 Q E) E H) (by kernel_rfl) (vc_seq (K := (uf_3_M Q E)) (uf_23ok Q E τ H h) (uf_5ok Q E)))

@[reducible] noncomputable def uf_q11 (Q : QT) (E : ET) : Exit → Tau → Heap → Prop := (xthen (uf_21_M Q E) (uf_q1 Q E))

@[reducible] noncomputable def uf_p18 : Code := sA uf_p1

def uf_25 (Q : QT) (E : ET) (x0 : OA) (H : Heap) : Prop :=
 uf_21 Q E x0 none 0 0 H

def uf_25_M (Q : QT) (E : ET) (τ : Tau) (H : Heap) : Prop := mP (τ 0) fun x0 => uf_25 Q E x0 H

theorem uf_26ok (Q : QT) (E : ET) (τ : Tau) (H : Heap) (h : uf_25_M Q E τ H) : vc Pr uf_p18 τ (uf_q11 Q E) E H :=
  vP (i := 0) h (fun x0 h => (conv (by kernel_rfl) h))

theorem uf_27ok (Q : QT) (E : ET) (τ : Tau) (H : Heap) (h : uf_25_M Q E τ H) : vc Pr uf_p1 τ (uf_q1 Q E) E H :=
  (conv (B := vc Pr uf_p1 τ (uf_q1 Q E) E H) (by kernel_rfl) (vc_seq (K := (uf_21_M Q E)) (uf_26ok Q E τ H h) (uf_24ok Q E)))

@[reducible] noncomputable def uf_q12 (Q : QT) (E : ET) : Exit → Tau → Heap → Prop := (xthen (uf_25_M Q E) (uf_q1 Q E))

@[reducible] noncomputable def uf_p19 : Code := sA uf_p0

def uf (Q : QT) (E : ET) (a0 : OA) (H : Heap) : Prop :=
 uf_25 Q E a0 H

theorem uf_fn (a0 : OA) (Q : QT) (E : ET) (H : Heap) (h : uf Q E a0 H)   : Does Pr 89 #[(.pointer a0)] H Q E :=
  Fn_of_vc (fn := Try.f89) (c := uf_p0) (args := [(.pointer a0)]) mixed (by kernel_rfl) (by kernel_rfl) (by kernel_rfl) (by kernel_rfl) (by kernel_rfl) ((conv (B := vc Pr uf_p0 (argT [(.pointer a0)]) (uf_q1 Q E) E H) (by kernel_rfl) (vc_seq (K := (uf_25_M Q E)) (conv (B := vc Pr uf_p19 (argT [(.pointer a0)]) (uf_q12 Q E) E H) (by kernel_rfl) h) (uf_27ok Q E))))

/-! (*jobmux/jobmuxref08.parser).more -/
@[reducible] noncomputable def ug_q1 (Q : QT) (E : ET) : Exit → Tau → Heap → Prop := (retQ Pr (Try.f90).results.toList Q)

@[reducible] noncomputable def ug_p0 : Code := bodyOf Try.f90

def ug (Q : QT) (E : ET) (a0 : OA) (H : Heap) : Prop :=
 ptr a0 fun q1 =>
 ldI .i64 (Addr.add q1 3) H fun n2 =>
 sel ((n2 : Int) == 0)
 (ptr a0 fun q3 =>
 ldI .i64 (Addr.add q3 1) H fun n4 =>
 ptr a0 fun q5 =>
 ldS q5 H fun s6 =>
 Q (.bool (decide ((n4 : Int) < ((ByteArray.size s6 : Nat) : Int)))) H)
 (Q (.bool false) H)

theorem ug_fn (a0 : OA) (Q : QT) (E : ET) (H : Heap) (h : ug Q E a0 H)   : Does Pr 90 #[(.pointer a0)] H Q E :=
  Fn_of_vc (fn := Try.f90) (c := ug_p0) (args := [(.pointer a0)]) mixed (by kernel_rfl) (by kernel_rfl) (by kernel_rfl) (by kernel_rfl) (by kernel_rfl) ((conv (B := vc Pr ug_p0 (argT [(.pointer a0)]) (ug_q1 Q E) E H) (by kernel_rfl) h))

/-! jobmux/jobmuxref08.join -/
@[reducible] noncomputable def uh_q1 (Q : QT) (E : ET) : Exit → Tau → Heap → Prop := (retQ Pr (Try.f91).results.toList Q)

@[reducible] noncomputable def uh_p0 : Code := bodyOf Try.f91

@[reducible] noncomputable def uh_p1 : Code := sB uh_p0

@[reducible] noncomputable def uh_p2 : Code := sB uh_p1

@[reducible] noncomputable def uh_p3 : Code := sB uh_p2

@[reducible] noncomputable def uh_p4 : Code := sB uh_p3

@[reducible] noncomputable def uh_p5 : Code := sB uh_p4

def uh_1 (Q : QT) (E : ET) (x7 : OA) (l7 : Nat) (c7 : Nat) (x10 : OA) (H : Heap) : Prop :=
 ptr x10 fun q48 =>
 ∃ n49 n50 n51 n52 n53 n54 n55 : Int, Heap.rd H q48 0 [(.int .i64 n49), (.int .i64 n50), (.int .i64 n51), (.int .u64 n52), (.int .u64 n53), (.int .u64 n54), (.int .u64 n55)] ∧ nw (.cells #[(.int .i64 n49), (.int .i64 n50), (.int .i64 n51), (.int .u64 n52), (.int .u64 n53), (.int .u64 n54), (.int .u64 n55)] 48 (0, 0)) H fun i56 H57 =>
 app Pr 23 x7 l7 c7 (.slice (some ⟨i56, 0, none⟩) 1 1) H57 fun p58 l59 c60 H61 =>
 Q (.slice p58 l59 c60) H61

def uh_1_M (Q : QT) (E : ET) (τ : Tau) (H : Heap) : Prop := mSl (τ 7) fun x7 l7 c7 => mP (τ 10) fun x10 => uh_1 Q E x7 l7 c7 x10 H

theorem uh_2ok (Q : QT) (E : ET) (τ : Tau) (H : Heap) (h : uh_1_M Q E τ H) : vc Pr uh_p5 τ (uh_q1 Q E) E H :=
  vSl (i := 7) h (fun x7 l7 c7 h => vP (i := 10) h (fun x10 h => (conv (by kernel_rfl) h)))

@[reducible] noncomputable def uh_q2 (Q : QT) (E : ET) : Exit → Tau → Heap → Prop := (xthen (uh_1_M Q E) (uh_q1 Q E))

@[reducible] noncomputable def uh_p6 : Code := sA uh_p4

def uh_3 (Q : QT) (E : ET) (x1 : OA) (l1 : Nat) (c1 : Nat) (x2 : OA) (l2 : Nat) (c2 : Nat) (x7 : OA) (l7 : Nat) (c7 : Nat) (x10 : OA) (H : Heap) : Prop :=
 sel (decide ((((l2 : Nat) : Int) : Int) > 0))
 (ptr x10 fun q62 =>
 wr (Addr.add q62 2) [(.int .i64 (IntKind.wrap .i64 ((IntKind.wrap .i64 (((l1 : Nat) : Int) + ((l2 : Nat) : Int))) - 1)))] H fun H63 =>
 uh_1 Q E x7 l7 c7 x10 H63)
 (uh_1 Q E x7 l7 c7 x10 H)

def uh_3_M (Q : QT) (E : ET) (τ : Tau) (H : Heap) : Prop := mSl (τ 1) fun x1 l1 c1 => mSl (τ 2) fun x2 l2 c2 => mSl (τ 7) fun x7 l7 c7 => mP (τ 10) fun x10 => uh_3 Q E x1 l1 c1 x2 l2 c2 x7 l7 c7 x10 H

theorem uh_4ok (Q : QT) (E : ET) (τ : Tau) (H : Heap) (h : uh_3_M Q E τ H) : vc Pr uh_p6 τ (uh_q2 Q E) E H :=
  vSl (i := 1) h (fun x1 l1 c1 h => vSl (i := 2) h (fun x2 l2 c2 h => vSl (i := 7) h (fun x7 l7 c7 h => vP (i := 10) h (fun x10 h => (conv (by kernel_rfl) h)))))

theorem uh_5ok (Q : QT) (E : ET) (τ : Tau) (H : Heap) (h : uh_3_M Q E τ H) : vc Pr uh_p4 τ (uh_q1 Q E) E H :=
  (conv (B := vc Pr uh_p4 τ (uh_q1 Q E) E H) (by kernel_rfl) (vc_seq (K := (uh_1_M Q E)) (uh_4ok Q E τ H h) (uh_2ok Q E)))

@[reducible] noncomputable def uh_q3 (Q : QT) (E : ET) : Exit → Tau → Heap → Prop := (xthen (uh_3_M Q E) (uh_q1 Q E))

@[reducible] noncomputable def uh_p7 : Code := sA uh_p3

def uh_6 (Q : QT) (E : ET) (x0 : Int) (x1 : OA) (l1 : Nat) (c1 : Nat) (x2 : OA) (l2 : Nat) (c2 : Nat) (x7 : OA) (l7 : Nat) (c7 : Nat) (H : Heap) : Prop :=
 nw (.cells #[(.int .i64 0), (.int .i64 0), (.int .i64 0), (.int .u64 0), (.int .u64 0), (.int .u64 0), (.int .u64 0)] 48 (0, 0)) H fun i64 H65 =>
 wr ⟨i64, 0, none⟩ [(.int .i64 x0), (.int .i64 (IntKind.wrap .i64 (((l1 : Nat) : Int) - 1))), (.int .i64 0), (.int .u64 0), (.int .u64 0), (.int .u64 0), (.int .u64 0)] H65 fun H66 =>
 uh_3 Q E x1 l1 c1 x2 l2 c2 x7 l7 c7 (some ⟨i64, 0, none⟩) H66

def uh_6_M (Q : QT) (E : ET) (τ : Tau) (H : Heap) : Prop := mI .i64 (τ 0) fun x0 => mSl (τ 1) fun x1 l1 c1 => mSl (τ 2) fun x2 l2 c2 => mSl (τ 7) fun x7 l7 c7 => uh_6 Q E x0 x1 l1 c1 x2 l2 c2 x7 l7 c7 H

theorem uh_7ok (Q : QT) (E : ET) (τ : Tau) (H : Heap) (h : uh_6_M Q E τ H) : vc Pr uh_p7 τ (uh_q3 Q E) E H :=
  vI (i := 0) h (fun x0 h => vSl (i := 1) h (fun x1 l1 c1 h => vSl (i := 2) h (fun x2 l2 c2 h => vSl (i := 7) h (fun x7 l7 c7 h => (conv (by kernel_rfl) h)))))

theorem uh_8ok (Q : QT) (E : ET) (τ : Tau) (H : Heap) (h : uh_6_M Q E τ H) : vc Pr uh_p3 τ (uh_q1 Q E) E H :=
  (conv (B := vc Pr uh_p3 τ (uh_q1 Q E) E H) (by kernel_rfl) (vc_seq (K := (uh_3_M Q E)) (uh_7ok Q E τ H h) (uh_5ok Q E)))

@[reducible] noncomputable def uh_q4 (Q : QT) (E : ET) : Exit → Tau → Heap → Prop := (xthen (uh_6_M Q E) (uh_q1 Q E))

@[reducible] noncomputable def uh_p8 : Code := sA uh_p2

@[reducible] noncomputable def uh_p9 : Code := sB uh_p8

@[reducible] noncomputable def uh_q5 (Q : QT) (E : ET) : Exit → Tau → Heap → Prop := (xblock 0 (uh_q4 Q E))

@[reducible] noncomputable def uh_p10 : Code := sI uh_p9

@[reducible] noncomputable def uh_q6 (nx67 : Option Addr → Nat → Nat → Int → HP) (Q : QT) (E : ET) : Exit → Tau → Heap → Prop := (xthen (fun τ H => mSl (τ 7) fun x7' l7' c7' => mI .i64 (τ 8) fun x8' => nx67 x7' l7' c7' x8' H) (uh_q5 Q E))

@[reducible] noncomputable def uh_p11 : Code := sI uh_p10

@[reducible] noncomputable def uh_p12 : Code := sB uh_p11

def uh_9 (nx67 : Option Addr → Nat → Nat → Int → HP) (Q : QT) (E : ET) (x0 : Int) (x1 : OA) (l1 : Nat) (c1 : Nat) (x2 : OA) (l2 : Nat) (c2 : Nat) (x7 : OA) (l7 : Nat) (c7 : Nat) (x8 : Int) (H : Heap) : Prop :=
 (0 ≤ (x8 : Int) ∧ (x8 : Int) < ((l2 : Nat) : Int)) ∧ ptr x2 fun q68 =>
 ∃ n69 n70 n71 n72 n73 n74 n75 : Int, Heap.rd H (Addr.add q68 ((x8 : Int).toNat * 7)) 0 [(.int .i64 n69), (.int .i64 n70), (.int .i64 n71), (.int .u64 n72), (.int .u64 n73), (.int .u64 n74), (.int .u64 n75)] ∧ nw (.cells #[(.int .i64 0), (.int .i64 0), (.int .i64 0), (.int .u64 0), (.int .u64 0), (.int .u64 0), (.int .u64 0)] 48 (0, 0)) H fun i76 H77 =>
 wr ⟨i76, 0, none⟩ [(.int .i64 n69), (.int .i64 n70), (.int .i64 n71), (.int .u64 n72), (.int .u64 n73), (.int .u64 n74), (.int .u64 n75)] H77 fun H78 =>
 ∃ Z79 : Nat → Prop,
 ldI .i64 ⟨i76, 0, none⟩ H78 fun n80 =>
 ldI .i64 ⟨i76, 1, none⟩ H78 fun n81 =>
 Z79 (Addr.block ⟨i76, 0, none⟩) ∧ ldI .i64 ⟨i76, 0, none⟩ H78 fun n82 =>
 Z79 (Addr.block ⟨i76, 2, none⟩) ∧ ldI .i64 ⟨i76, 2, none⟩ H78 fun n83 =>
 Does Pr 102 #[(.int .i64 n80), (.int .i64 0), (.int .i64 n81), (.int .i64 ((l1 : Nat) : Int))] H78 (fun v84 H85 =>
 ∃ n86 : Int, v84 = (.int .i64 n86) ∧ (∀ z, Z79 z → H85 z = H78 z) ∧ Does Pr 102 #[(.int .i64 n82), (.int .i64 1), (.int .i64 n83), (.int .i64 ((l1 : Nat) : Int))] H85 (fun v87 H88 =>
 ∃ n89 : Int, v87 = (.int .i64 n89) ∧ wr ⟨i76, 1, none⟩ [(.int .i64 n86)] H88 fun H90 =>
 wr ⟨i76, 2, none⟩ [(.int .i64 n89)] H90 fun H91 =>
 ∃ n92 n93 n94 n95 n96 n97 n98 : Int, Heap.rd H91 ⟨i76, 0, none⟩ 0 [(.int .i64 n92), (.int .i64 n93), (.int .i64 n94), (.int .u64 n95), (.int .u64 n96), (.int .u64 n97), (.int .u64 n98)] ∧ nw (.cells #[(.int .i64 n92), (.int .i64 n93), (.int .i64 n94), (.int .u64 n95), (.int .u64 n96), (.int .u64 n97), (.int .u64 n98)] 48 (0, 0)) H91 fun i99 H100 =>
 app Pr 23 x7 l7 c7 (.slice (some ⟨i99, 0, none⟩) 1 1) H100 fun p101 l102 c103 H104 =>
 nx67 p101 l102 c103 (IntKind.wrap .i64 (x8 + 1)) H104) (fun _ _ => False)) (fun _ _ => False)

def uh_9_M (nx67 : Option Addr → Nat → Nat → Int → HP) (Q : QT) (E : ET) (τ : Tau) (H : Heap) : Prop := mI .i64 (τ 0) fun x0 => mSl (τ 1) fun x1 l1 c1 => mSl (τ 2) fun x2 l2 c2 => mSl (τ 7) fun x7 l7 c7 => mI .i64 (τ 8) fun x8 => uh_9 nx67 Q E x0 x1 l1 c1 x2 l2 c2 x7 l7 c7 x8 H

theorem uh_10ok (nx67 : Option Addr → Nat → Nat → Int → HP) (Q : QT) (E : ET) (τ : Tau) (H : Heap) (h : uh_9_M nx67 Q E τ H) : vc Pr uh_p12 τ (uh_q6 nx67 Q E) E H :=
  vI (i := 0) h (fun x0 h => vSl (i := 1) h (fun x1 l1 c1 h => vSl (i := 2) h (fun x2 l2 c2 h => vSl (i := 7) h (fun x7 l7 c7 h => vI (i := 8) h (fun x8 h => (conv (by kernel_rfl) h))))))

@[reducible] noncomputable def uh_q7 (nx67 : Option Addr → Nat → Nat → Int → HP) (Q : QT) (E : ET) : Exit → Tau → Heap → Prop := (xthen (uh_9_M nx67 Q E) (uh_q6 nx67 Q E))

@[reducible] noncomputable def uh_p13 : Code := sA uh_p11

def uh_11 (nx67 : Option Addr → Nat → Nat → Int → HP) (Q : QT) (E : ET) (x0 : Int) (x1 : OA) (l1 : Nat) (c1 : Nat) (x2 : OA) (l2 : Nat) (c2 : Nat) (x7 : OA) (l7 : Nat) (c7 : Nat) (x8 : Int) (H : Heap) : Prop :=
 sel (decide ((x8 : Int) < ((l2 : Nat) : Int)))
 (uh_9 nx67 Q E x0 x1 l1 c1 x2 l2 c2 x7 l7 c7 x8 H)
 (uh_6 Q E x0 x1 l1 c1 x2 l2 c2 x7 l7 c7 H)

def uh_11_M (nx67 : Option Addr → Nat → Nat → Int → HP) (Q : QT) (E : ET) (τ : Tau) (H : Heap) : Prop := mI .i64 (τ 0) fun x0 => mSl (τ 1) fun x1 l1 c1 => mSl (τ 2) fun x2 l2 c2 => mSl (τ 7) fun x7 l7 c7 => mI .i64 (τ 8) fun x8 => uh_11 nx67 Q E x0 x1 l1 c1 x2 l2 c2 x7 l7 c7 x8 H

theorem uh_12ok (nx67 : Option Addr → Nat → Nat → Int → HP) (Q : QT) (E : ET) (τ : Tau) (H : Heap) (h : uh_11_M nx67 Q E τ H) : vc Pr uh_p13 τ (uh_q7 nx67 Q E) E H :=
  vI (i := 0) h (fun x0 h => vSl (i := 1) h (fun x1 l1 c1 h => vSl (i := 2) h (fun x2 l2 c2 h => vSl (i := 7) h (fun x7 l7 c7 h => vI (i := 8) h (fun x8 h => (conv (by kernel_rfl) h))))))

theorem uh_13ok (nx67 : Option Addr → Nat → Nat → Int → HP) (Q : QT) (E : ET) (τ : Tau) (H : Heap) (h : uh_11_M nx67 Q E τ H) : vc Pr uh_p11 τ (uh_q6 nx67 Q E) E H :=
  (conv (B := vc Pr uh_p11 τ (uh_q6 nx67 Q E) E H) (by kernel_rfl) (vc_seq (K := (uh_9_M nx67 Q E)) (uh_12ok nx67 Q E τ H h) (uh_10ok nx67 Q E)))

def uh_14 (Q : QT) (E : ET) (x0 : Int) (x1 : OA) (l1 : Nat) (c1 : Nat) (x2 : OA) (l2 : Nat) (c2 : Nat) (x7 : OA) (l7 : Nat) (c7 : Nat) (x8 : Int) (H : Heap) : Prop :=
 ∃ (I : Option Addr → Nat → Nat → Int → HP) (μ : Option Addr → Nat → Nat → Int → Heap → Nat), I x7 l7 c7 x8 H ∧ ∀ (x7 : OA) (l7 : Nat) (c7 : Nat) (x8 : Int) (H : Heap), I x7 l7 c7 x8 H →
 uh_11 (fun x7' l7' c7' x8' H1 => I x7' l7' c7' x8' H1 ∧ μ x7' l7' c7' x8' H1 < μ x7 l7 c7 x8 H) Q E x0 x1 l1 c1 x2 l2 c2 x7 l7 c7 x8 H

def uh_14_M (Q : QT) (E : ET) (τ : Tau) (H : Heap) : Prop := mI .i64 (τ 0) fun x0 => mSl (τ 1) fun x1 l1 c1 => mSl (τ 2) fun x2 l2 c2 => mSl (τ 7) fun x7 l7 c7 => mI .i64 (τ 8) fun x8 => uh_14 Q E x0 x1 l1 c1 x2 l2 c2 x7 l7 c7 x8 H

theorem uh_15ok (Q : QT) (E : ET) (τ : Tau) (H : Heap) (h : uh_14_M Q E τ H) : vc Pr uh_p10 τ (uh_q5 Q E) E H :=
  vI (i := 0) h (fun x0 h => vSl (i := 1) h (fun x1 l1 c1 h => vSl (i := 2) h (fun x2 l2 c2 h => vSl (i := 7) h (fun x7 l7 c7 h => vI (i := 8) h (fun x8 h => match h with | ⟨I, μ, h0, hr⟩ => (conv (B := vc Pr uh_p10 (Tau.upd (Tau.upd (Tau.upd (Tau.upd (Tau.upd τ 0 (.int .i64 x0)) 1 (.slice x1 l1 c1)) 2 (.slice x2 l2 c2)) 7 (.slice x7 l7 c7)) 8 (.int .i64 x8)) (uh_q5 Q E) E H) (by kernel_rfl) (vc_loop (c := sI uh_p10) (τ := (Tau.upd (Tau.upd (Tau.upd (Tau.upd (Tau.upd τ 0 (.int .i64 x0)) 1 (.slice x1 l1 c1)) 2 (.slice x2 l2 c2)) 7 (.slice x7 l7 c7)) 8 (.int .i64 x8))) [0, 1, 2] (fun τ H => mSl (τ 7) fun x7' l7' c7' => mI .i64 (τ 8) fun x8' => I x7' l7' c7' x8' H) (fun τ H => μ (gL1 (τ 7)) (gL2 (τ 7)) (gL3 (τ 7)) (gI (τ 8)) H) (by kernel_rfl) h0 (fun τ1 H1 hf hI => fix_elim (τ := τ1) (i := 0) (v := (.int .i64 x0)) (G := fun τ => vc Pr (sI uh_p10) τ (xthen (fun τ2 H2 => (mSl (τ2 7) fun x7' l7' c7' => mI .i64 (τ2 8) fun x8' => I x7' l7' c7' x8' H2) ∧ μ (gL1 (τ2 7)) (gL2 (τ2 7)) (gL3 (τ2 7)) (gI (τ2 8)) H2 < μ (gL1 (τ 7)) (gL2 (τ 7)) (gL3 (τ 7)) (gI (τ 8)) H1) (uh_q5 Q E)) E H1) (hf 0 (by simp)) (fix_elim (τ := (Tau.upd τ1 0 (.int .i64 x0))) (i := 1) (v := (.slice x1 l1 c1)) (G := fun τ => vc Pr (sI uh_p10) τ (xthen (fun τ2 H2 => (mSl (τ2 7) fun x7' l7' c7' => mI .i64 (τ2 8) fun x8' => I x7' l7' c7' x8' H2) ∧ μ (gL1 (τ2 7)) (gL2 (τ2 7)) (gL3 (τ2 7)) (gI (τ2 8)) H2 < μ (gL1 (τ 7)) (gL2 (τ 7)) (gL3 (τ 7)) (gI (τ 8)) H1) (uh_q5 Q E)) E H1) (hf 1 (by simp)) (fix_elim (τ := (Tau.upd (Tau.upd τ1 0 (.int .i64 x0)) 1 (.slice x1 l1 c1))) (i := 2) (v := (.slice x2 l2 c2)) (G := fun τ => vc Pr (sI uh_p10) τ (xthen (fun τ2 H2 => (mSl (τ2 7) fun x7' l7' c7' => mI .i64 (τ2 8) fun x8' => I x7' l7' c7' x8' H2) ∧ μ (gL1 (τ2 7)) (gL2 (τ2 7)) (gL3 (τ2 7)) (gI (τ2 8)) H2 < μ (gL1 (τ 7)) (gL2 (τ 7)) (gL3 (τ 7)) (gI (τ 8)) H1) (uh_q5 Q E)) E H1) (hf 2 (by simp)) (mSl_elim (i := 7) (G := fun τ => vc Pr (sI uh_p10) τ (xthen (fun τ2 H2 => (mSl (τ2 7) fun x7' l7' c7' => mI .i64 (τ2 8) fun x8' => I x7' l7' c7' x8' H2) ∧ μ (gL1 (τ2 7)) (gL2 (τ2 7)) (gL3 (τ2 7)) (gI (τ2 8)) H2 < μ (gL1 (τ 7)) (gL2 (τ 7)) (gL3 (τ 7)) (gI (τ 8)) H1) (uh_q5 Q E)) E H1) hI (fun x7r l7r c7r h => mI_elim (i := 8) (G := fun τ => vc Pr (sI uh_p10) τ (xthen (fun τ2 H2 => (mSl (τ2 7) fun x7' l7' c7' => mI .i64 (τ2 8) fun x8' => I x7' l7' c7' x8' H2) ∧ μ (gL1 (τ2 7)) (gL2 (τ2 7)) (gL3 (τ2 7)) (gI (τ2 8)) H2 < μ (gL1 (τ 7)) (gL2 (τ 7)) (gL3 (τ 7)) (gI (τ 8)) H1) (uh_q5 Q E)) E H1) h (fun x8r h => (conv (B := vc Pr (sI uh_p10) (Tau.upd (Tau.upd (Tau.upd (Tau.upd (Tau.upd τ1 0 (.int .i64 x0)) 1 (.slice x1 l1 c1)) 2 (.slice x2 l2 c2)) 7 (.slice x7r l7r c7r)) 8 (.int .i64 x8r)) (xthen (fun τ2 H2 => (mSl (τ2 7) fun x7' l7' c7' => mI .i64 (τ2 8) fun x8' => I x7' l7' c7' x8' H2) ∧ μ (gL1 (τ2 7)) (gL2 (τ2 7)) (gL3 (τ2 7)) (gI (τ2 8)) H2 < μ (gL1 ((Tau.upd (Tau.upd (Tau.upd (Tau.upd (Tau.upd τ1 0 (.int .i64 x0)) 1 (.slice x1 l1 c1)) 2 (.slice x2 l2 c2)) 7 (.slice x7r l7r c7r)) 8 (.int .i64 x8r)) 7)) (gL2 ((Tau.upd (Tau.upd (Tau.upd (Tau.upd (Tau.upd τ1 0 (.int .i64 x0)) 1 (.slice x1 l1 c1)) 2 (.slice x2 l2 c2)) 7 (.slice x7r l7r c7r)) 8 (.int .i64 x8r)) 7)) (gL3 ((Tau.upd (Tau.upd (Tau.upd (Tau.upd (Tau.upd τ1 0 (.int .i64 x0)) 1 (.slice x1 l1 c1)) 2 (.slice x2 l2 c2)) 7 (.slice x7r l7r c7r)) 8 (.int .i64 x8r)) 7)) (gI ((Tau.upd (Tau.upd (Tau.upd (Tau.upd (Tau.upd τ1 0 (.int .i64 x0)) 1 (.slice x1 l1 c1)) 2 (.slice x2 l2 c2)) 7 (.slice x7r l7r c7r)) 8 (.int .i64 x8r)) 8)) H1) (uh_q5 Q E)) E H1) (by kernel_rfl) (vc_xthen (uh_13ok (fun x7' l7' c7' x8' H2 => I x7' l7' c7' x8' H2 ∧ μ x7' l7' c7' x8' H2 < μ x7r l7r c7r x8r H1) Q E (Tau.upd (Tau.upd (Tau.upd (Tau.upd (Tau.upd τ1 0 (.int .i64 x0)) 1 (.slice x1 l1 c1)) 2 (.slice x2 l2 c2)) 7 (.slice x7r l7r c7r)) 8 (.int .i64 x8r)) H1 (conv (B := uh_11_M (fun x7' l7' c7' x8' H2 => I x7' l7' c7' x8' H2 ∧ μ x7' l7' c7' x8' H2 < μ x7r l7r c7r x8r H1) Q E (Tau.upd (Tau.upd (Tau.upd (Tau.upd (Tau.upd τ1 0 (.int .i64 x0)) 1 (.slice x1 l1 c1)) 2 (.slice x2 l2 c2)) 7 (.slice x7r l7r c7r)) 8 (.int .i64 x8r)) H1) (by kernel_rfl) (hr x7r l7r c7r x8r H1 h))) (fun τ2 H2 hk => mSl_elim (i := 7) (G := fun τ => (mSl (τ 7) fun x7' l7' c7' => mI .i64 (τ 8) fun x8' => I x7' l7' c7' x8' H2) ∧ μ (gL1 (τ 7)) (gL2 (τ 7)) (gL3 (τ 7)) (gI (τ 8)) H2 < μ x7r l7r c7r x8r H1) hk (fun x7' l7' c7' h => mI_elim (i := 8) (G := fun τ => (mSl (τ 7) fun x7' l7' c7' => mI .i64 (τ 8) fun x8' => I x7' l7' c7' x8' H2) ∧ μ (gL1 (τ 7)) (gL2 (τ 7)) (gL3 (τ 7)) (gI (τ 8)) H2 < μ x7r l7r c7r x8r H1) h (fun x8' h => h))))))))))))))))))

theorem uh_16ok (Q : QT) (E : ET) (τ : Tau) (H : Heap) (h : uh_14_M Q E τ H) : vc Pr uh_p9 τ (uh_q4 Q E) E H :=
  (conv (B := vc Pr uh_p9 τ (uh_q4 Q E) E H) (by kernel_rfl) (uh_15ok Q E τ H h))

@[reducible] noncomputable def uh_q8 (Q : QT) (E : ET) : Exit → Tau → Heap → Prop := (xthen (uh_14_M Q E) (uh_q4 Q E))

@[reducible] noncomputable def uh_p14 : Code := sA uh_p8

def uh_17 (Q : QT) (E : ET) (x0 : Int) (x1 : OA) (l1 : Nat) (c1 : Nat) (x2 : OA) (l2 : Nat) (c2 : Nat) (x7 : OA) (l7 : Nat) (c7 : Nat) (H : Heap) : Prop :=
 uh_14 Q E x0 x1 l1 c1 x2 l2 c2 x7 l7 c7 0 H

def uh_17_M (Q : QT) (E : ET) (τ : Tau) (H : Heap) : Prop := mI .i64 (τ 0) fun x0 => mSl (τ 1) fun x1 l1 c1 => mSl (τ 2) fun x2 l2 c2 => mSl (τ 7) fun x7 l7 c7 => uh_17 Q E x0 x1 l1 c1 x2 l2 c2 x7 l7 c7 H

theorem uh_18ok (Q : QT) (E : ET) (τ : Tau) (H : Heap) (h : uh_17_M Q E τ H) : vc Pr uh_p14 τ (uh_q8 Q E) E H :=
  vI (i := 0) h (fun x0 h => vSl (i := 1) h (fun x1 l1 c1 h => vSl (i := 2) h (fun x2 l2 c2 h => vSl (i := 7) h (fun x7 l7 c7 h => (conv (by kernel_rfl) h)))))

theorem uh_19ok (Q : QT) (E : ET) (τ : Tau) (H : Heap) (h : uh_17_M Q E τ H) : vc Pr uh_p8 τ (uh_q4 Q E) E H :=
  (conv (B := vc Pr uh_p8 τ (uh_q4 Q E) E H) (by kernel_rfl) (vc_seq (K := (uh_14_M Q E)) (uh_18ok Q E τ H h) (uh_16ok Q E)))

theorem uh_20ok (Q : QT) (E : ET) (τ : Tau) (H : Heap) (h : uh_17_M Q E τ H) : vc Pr uh_p2 τ (uh_q1 Q E) E H :=
  (conv (B := vc Pr uh_p2 τ (uh_q1 Q E) E H) (by kernel_rfl) (vc_seq (K := (uh_6_M Q E)) (uh_19ok Q E τ H h) (uh_8ok Q E)))

@[reducible] noncomputable def uh_q9 (Q : QT) (E : ET) : Exit → Tau → Heap → Prop := (xthen (uh_17_M Q E) (uh_q1 Q E))

@[reducible] noncomputable def uh_p15 : Code := sA uh_p1

def uh_21 (Q : QT) (E : ET) (x0 : Int) (x1 : OA) (l1 : Nat) (c1 : Nat) (x2 : OA) (l2 : Nat) (c2 : Nat) (H : Heap) : Prop :=
 nw (.cells #[] 48 (0, 0)) H fun i105 H106 =>
 app Pr 23 (some ⟨i105, 0, none⟩) 0 0 (.slice x1 l1 c1) H106 fun p107 l108 c109 H110 =>
 uh_17 Q E x0 x1 l1 c1 x2 l2 c2 p107 l108 c109 H110

def uh_21_M (Q : QT) (E : ET) (τ : Tau) (H : Heap) : Prop := mI .i64 (τ 0) fun x0 => mSl (τ 1) fun x1 l1 c1 => mSl (τ 2) fun x2 l2 c2 => uh_21 Q E x0 x1 l1 c1 x2 l2 c2 H

theorem uh_22ok (Q : QT) (E : ET) (τ : Tau) (H : Heap) (h : uh_21_M Q E τ H) : vc Pr uh_p15 τ (uh_q9 Q E) E H :=
  vI (i := 0) h (fun x0 h => vSl (i := 1) h (fun x1 l1 c1 h => vSl (i := 2) h (fun x2 l2 c2 h => (conv (by kernel_rfl) h))))

theorem uh_23ok (Q : QT) (E : ET) (τ : Tau) (H : Heap) (h : uh_21_M Q E τ H) : vc Pr uh_p1 τ (uh_q1 Q E) E H :=
  (conv (B := vc Pr uh_p1 τ (uh_q1 Q E) E H) (by kernel_rfl) (vc_seq (K := (uh_17_M Q E)) (uh_22ok Q E τ H h) (uh_20ok Q E)))

@[reducible] noncomputable def uh_q10 (Q : QT) (E : ET) : Exit → Tau → Heap → Prop := (xthen (uh_21_M Q E) (uh_q1 Q E))

@[reducible] noncomputable def uh_p16 : Code := sA uh_p0

def uh (Q : QT) (E : ET) (a0 : Int) (a1 : OA) (a1l : Nat) (a1c : Nat) (a2 : OA) (a2l : Nat) (a2c : Nat) (H : Heap) : Prop :=
 uh_21 Q E a0 a1 a1l a1c a2 a2l a2c H

theorem uh_fn (a0 : Int) (a1 : OA) (a1l : Nat) (a1c : Nat) (a2 : OA) (a2l : Nat) (a2c : Nat) (Q : QT) (E : ET) (H : Heap) (h : uh Q E a0 a1 a1l a1c a2 a2l a2c H)   : Does Pr 91 #[(.int .i64 a0), (.slice a1 a1l a1c), (.slice a2 a2l a2c)] H Q E :=
  Fn_of_vc (fn := Try.f91) (c := uh_p0) (args := [(.int .i64 a0), (.slice a1 a1l a1c), (.slice a2 a2l a2c)]) mixed (by kernel_rfl) (by kernel_rfl) (by kernel_rfl) (by kernel_rfl) (by kernel_rfl) ((conv (B := vc Pr uh_p0 (argT [(.int .i64 a0), (.slice a1 a1l a1c), (.slice a2 a2l a2c)]) (uh_q1 Q E) E H) (by kernel_rfl) (vc_seq (K := (uh_21_M Q E)) (conv (B := vc Pr uh_p16 (argT [(.int .i64 a0), (.slice a1 a1l a1c), (.slice a2 a2l a2c)]) (uh_q10 Q E) E H) (by kernel_rfl) h) (uh_23ok Q E))))

/-! (*jobmux/jobmuxref08.parser).part -/
@[reducible] noncomputable def ui_q1 (Q : QT) (E : ET) : Exit → Tau → Heap → Prop := (retQ Pr (Try.f100).results.toList Q)

@[reducible] noncomputable def ui_p0 : Code := bodyOf Try.f100

@[reducible] noncomputable def ui_p1 : Code := sB ui_p0

@[reducible] noncomputable def ui_p2 : Code := sB ui_p1

@[reducible] noncomputable def ui_p3 : Code := sB ui_p2

def ui_1 (Q : QT) (E : ET) (x3 : OA) (l3 : Nat) (c3 : Nat) (H : Heap) : Prop :=
 Q (.slice x3 l3 c3) H

def ui_1_M (Q : QT) (E : ET) (τ : Tau) (H : Heap) : Prop := mSl (τ 3) fun x3 l3 c3 => ui_1 Q E x3 l3 c3 H

theorem ui_2ok (Q : QT) (E : ET) (τ : Tau) (H : Heap) (h : ui_1_M Q E τ H) : vc Pr ui_p3 τ (ui_q1 Q E) E H :=
  vSl (i := 3) h (fun x3 l3 c3 h => (conv (by kernel_rfl) h))

@[reducible] noncomputable def ui_q2 (Q : QT) (E : ET) : Exit → Tau → Heap → Prop := (xthen (ui_1_M Q E) (ui_q1 Q E))

@[reducible] noncomputable def ui_p4 : Code := sA ui_p2

@[reducible] noncomputable def ui_q3 (Q : QT) (E : ET) : Exit → Tau → Heap → Prop := (xblock 0 (ui_q2 Q E))

@[reducible] noncomputable def ui_p5 : Code := sI ui_p4

@[reducible] noncomputable def ui_q4 (nx32 : Option Addr → Nat → Nat → HP) (Q : QT) (E : ET) : Exit → Tau → Heap → Prop := (xthen (fun τ H => mSl (τ 3) fun x3' l3' c3' => nx32 x3' l3' c3' H) (ui_q3 Q E))

@[reducible] noncomputable def ui_p6 : Code := sI ui_p5

@[reducible] noncomputable def ui_p7 : Code := sB ui_p6

@[reducible] noncomputable def ui_q5 (nx32 : Option Addr → Nat → Nat → HP) (Q : QT) (E : ET) : Exit → Tau → Heap → Prop := (xblock 1 (ui_q4 nx32 Q E))

@[reducible] noncomputable def ui_p8 : Code := sI ui_p7

@[reducible] noncomputable def ui_p9 : Code := sB ui_p8

def ui_3 (nx32 : Option Addr → Nat → Nat → HP) (Q : QT) (E : ET) (x0 : OA) (x3 : OA) (l3 : Nat) (c3 : Nat) (H : Heap) : Prop :=
 ptr x0 fun q55 =>
 ldI .i64 (Addr.add q55 1) H fun n56 =>
 ptr x0 fun q57 =>
 wr (Addr.add q57 1) [(.int .i64 (IntKind.wrap .i64 (n56 + 1)))] H fun H58 =>
 nx32 x3 l3 c3 H58

def ui_3_M (nx32 : Option Addr → Nat → Nat → HP) (Q : QT) (E : ET) (τ : Tau) (H : Heap) : Prop := mP (τ 0) fun x0 => mSl (τ 3) fun x3 l3 c3 => ui_3 nx32 Q E x0 x3 l3 c3 H

theorem ui_4ok (nx32 : Option Addr → Nat → Nat → HP) (Q : QT) (E : ET) (τ : Tau) (H : Heap) (h : ui_3_M nx32 Q E τ H) : vc Pr ui_p9 τ (ui_q5 nx32 Q E) E H :=
  vP (i := 0) h (fun x0 h => vSl (i := 3) h (fun x3 l3 c3 h => (conv (by kernel_rfl) h)))

@[reducible] noncomputable def ui_q6 (nx32 : Option Addr → Nat → Nat → HP) (Q : QT) (E : ET) : Exit → Tau → Heap → Prop := (xthen (ui_3_M nx32 Q E) (ui_q5 nx32 Q E))

@[reducible] noncomputable def ui_p10 : Code := sA ui_p8

def ui_5 (nx32 : Option Addr → Nat → Nat → HP) (Q : QT) (E : ET) (x0 : OA) (x3 : OA) (l3 : Nat) (c3 : Nat) (H : Heap) : Prop :=
 ptr x0 fun q59 =>
 ldS q59 H fun s60 =>
 ptr x0 fun q61 =>
 ldI .i64 (Addr.add q61 1) H fun n62 =>
 (0 ≤ (n62 : Int) ∧ (n62 : Int) < ((ByteArray.size s60 : Nat) : Int)) ∧ sel (((sAt s60 n62) : Int) == 42)
 (Does Pr 91 #[(.int .i64 5), (.slice x3 l3 c3), (.slice none 0 0)] H (fun v63 H64 =>
 ∃ (p65 : OA) (l66 c67 : Nat), v63 = (.slice p65 l66 c67) ∧ ui_3 nx32 Q E x0 p65 l66 c67 H64) E)
 (sel (((sAt s60 n62) : Int) == 43)
 (Does Pr 91 #[(.int .i64 6), (.slice x3 l3 c3), (.slice none 0 0)] H (fun v68 H69 =>
 ∃ (p70 : OA) (l71 c72 : Nat), v68 = (.slice p70 l71 c72) ∧ ui_3 nx32 Q E x0 p70 l71 c72 H69) E)
 (sel (((sAt s60 n62) : Int) == 63)
 (Does Pr 91 #[(.int .i64 7), (.slice x3 l3 c3), (.slice none 0 0)] H (fun v73 H74 =>
 ∃ (p75 : OA) (l76 c77 : Nat), v73 = (.slice p75 l76 c77) ∧ ui_3 nx32 Q E x0 p75 l76 c77 H74) E)
 (Q (.slice x3 l3 c3) H)))

def ui_5_M (nx32 : Option Addr → Nat → Nat → HP) (Q : QT) (E : ET) (τ : Tau) (H : Heap) : Prop := mP (τ 0) fun x0 => mSl (τ 3) fun x3 l3 c3 => ui_5 nx32 Q E x0 x3 l3 c3 H

theorem ui_6ok (nx32 : Option Addr → Nat → Nat → HP) (Q : QT) (E : ET) (τ : Tau) (H : Heap) (h : ui_5_M nx32 Q E τ H) : vc Pr ui_p10 τ (ui_q6 nx32 Q E) E H :=
  vP (i := 0) h (fun x0 h => vSl (i := 3) h (fun x3 l3 c3 h => (conv (by kernel_rfl) h)))

theorem ui_7ok (nx32 : Option Addr → Nat → Nat → HP) (Q : QT) (E : ET) (τ : Tau) (H : Heap) (h : ui_5_M nx32 Q E τ H) : vc Pr ui_p8 τ (ui_q5 nx32 Q E) E H :=
  (conv (B := vc Pr ui_p8 τ (ui_q5 nx32 Q E) E H) (by kernel_rfl) (vc_seq (K := (ui_3_M nx32 Q E)) (ui_6ok nx32 Q E τ H h) (ui_4ok nx32 Q E)))

theorem ui_8ok (nx32 : Option Addr → Nat → Nat → HP) (Q : QT) (E : ET) (τ : Tau) (H : Heap) (h : ui_5_M nx32 Q E τ H) : vc Pr ui_p7 τ (ui_q4 nx32 Q E) E H :=
  (conv (B := vc Pr ui_p7 τ (ui_q4 nx32 Q E) E H) (by kernel_rfl) (ui_7ok nx32 Q E τ H h))

@[reducible] noncomputable def ui_q7 (nx32 : Option Addr → Nat → Nat → HP) (Q : QT) (E : ET) : Exit → Tau → Heap → Prop := (xthen (ui_5_M nx32 Q E) (ui_q4 nx32 Q E))

@[reducible] noncomputable def ui_p11 : Code := sA ui_p6

def ui_9 (nx32 : Option Addr → Nat → Nat → HP) (Q : QT) (E : ET) (x0 : OA) (x3 : OA) (l3 : Nat) (c3 : Nat) (H : Heap) : Prop :=
 Does Pr 90 #[(.pointer x0)] H (fun v78 H79 =>
 ∃ b80 : Bool, v78 = (.bool b80) ∧ sel b80
 (ui_5 nx32 Q E x0 x3 l3 c3 H79)
 (ui_1 Q E x3 l3 c3 H79)) E

def ui_9_M (nx32 : Option Addr → Nat → Nat → HP) (Q : QT) (E : ET) (τ : Tau) (H : Heap) : Prop := mP (τ 0) fun x0 => mSl (τ 3) fun x3 l3 c3 => ui_9 nx32 Q E x0 x3 l3 c3 H

theorem ui_10ok (nx32 : Option Addr → Nat → Nat → HP) (Q : QT) (E : ET) (τ : Tau) (H : Heap) (h : ui_9_M nx32 Q E τ H) : vc Pr ui_p11 τ (ui_q7 nx32 Q E) E H :=
  vP (i := 0) h (fun x0 h => vSl (i := 3) h (fun x3 l3 c3 h => (conv (by kernel_rfl) h)))

theorem ui_11ok (nx32 : Option Addr → Nat → Nat → HP) (Q : QT) (E : ET) (τ : Tau) (H : Heap) (h : ui_9_M nx32 Q E τ H) : vc Pr ui_p6 τ (ui_q4 nx32 Q E) E H :=
  (conv (B := vc Pr ui_p6 τ (ui_q4 nx32 Q E) E H) (by kernel_rfl) (vc_seq (K := (ui_5_M nx32 Q E)) (ui_10ok nx32 Q E τ H h) (ui_8ok nx32 Q E)))

def ui_12 (Q : QT) (E : ET) (x0 : OA) (x3 : OA) (l3 : Nat) (c3 : Nat) (H : Heap) : Prop :=
 ∃ (I : Option Addr → Nat → Nat → HP) (μ : Option Addr → Nat → Nat → Heap → Nat), I x3 l3 c3 H ∧ ∀ (x3 : OA) (l3 : Nat) (c3 : Nat) (H : Heap), I x3 l3 c3 H →
 ui_9 (fun x3' l3' c3' H1 => I x3' l3' c3' H1 ∧ μ x3' l3' c3' H1 < μ x3 l3 c3 H) Q E x0 x3 l3 c3 H

def ui_12_M (Q : QT) (E : ET) (τ : Tau) (H : Heap) : Prop := mP (τ 0) fun x0 => mSl (τ 3) fun x3 l3 c3 => ui_12 Q E x0 x3 l3 c3 H

theorem ui_13ok (Q : QT) (E : ET) (τ : Tau) (H : Heap) (h : ui_12_M Q E τ H) : vc Pr ui_p5 τ (ui_q3 Q E) E H :=
  vP (i := 0) h (fun x0 h => vSl (i := 3) h (fun x3 l3 c3 h => match h with | ⟨I, μ, h0, hr⟩ => (conv (B := vc Pr ui_p5 (Tau.upd (Tau.upd τ 0 (.pointer x0)) 3 (.slice x3 l3 c3)) (ui_q3 Q E) E H) (by kernel_rfl) (vc_loop (c := sI ui_p5) (τ := (Tau.upd (Tau.upd τ 0 (.pointer x0)) 3 (.slice x3 l3 c3))) [0] (fun τ H => mSl (τ 3) fun x3' l3' c3' => I x3' l3' c3' H) (fun τ H => μ (gL1 (τ 3)) (gL2 (τ 3)) (gL3 (τ 3)) H) (by kernel_rfl) h0 (fun τ1 H1 hf hI => fix_elim (τ := τ1) (i := 0) (v := (.pointer x0)) (G := fun τ => vc Pr (sI ui_p5) τ (xthen (fun τ2 H2 => (mSl (τ2 3) fun x3' l3' c3' => I x3' l3' c3' H2) ∧ μ (gL1 (τ2 3)) (gL2 (τ2 3)) (gL3 (τ2 3)) H2 < μ (gL1 (τ 3)) (gL2 (τ 3)) (gL3 (τ 3)) H1) (ui_q3 Q E)) E H1) (hf 0 (by simp)) (mSl_elim (i := 3) (G := fun τ => vc Pr (sI ui_p5) τ (xthen (fun τ2 H2 => (mSl (τ2 3) fun x3' l3' c3' => I x3' l3' c3' H2) ∧ μ (gL1 (τ2 3)) (gL2 (τ2 3)) (gL3 (τ2 3)) H2 < μ (gL1 (τ 3)) (gL2 (τ 3)) (gL3 (τ 3)) H1) (ui_q3 Q E)) E H1) hI (fun x3r l3r c3r h => (conv (B := vc Pr (sI ui_p5) (Tau.upd (Tau.upd τ1 0 (.pointer x0)) 3 (.slice x3r l3r c3r)) (xthen (fun τ2 H2 => (mSl (τ2 3) fun x3' l3' c3' => I x3' l3' c3' H2) ∧ μ (gL1 (τ2 3)) (gL2 (τ2 3)) (gL3 (τ2 3)) H2 < μ (gL1 ((Tau.upd (Tau.upd τ1 0 (.pointer x0)) 3 (.slice x3r l3r c3r)) 3)) (gL2 ((Tau.upd (Tau.upd τ1 0 (.pointer x0)) 3 (.slice x3r l3r c3r)) 3)) (gL3 ((Tau.upd (Tau.upd τ1 0 (.pointer x0)) 3 (.slice x3r l3r c3r)) 3)) H1) (ui_q3 Q E)) E H1) (by kernel_rfl) (vc_xthen (ui_11ok (fun x3' l3' c3' H2 => I x3' l3' c3' H2 ∧ μ x3' l3' c3' H2 < μ x3r l3r c3r H1) Q E (Tau.upd (Tau.upd τ1 0 (.pointer x0)) 3 (.slice x3r l3r c3r)) H1 (conv (B := ui_9_M (fun x3' l3' c3' H2 => I x3' l3' c3' H2 ∧ μ x3' l3' c3' H2 < μ x3r l3r c3r H1) Q E (Tau.upd (Tau.upd τ1 0 (.pointer x0)) 3 (.slice x3r l3r c3r)) H1) (by kernel_rfl) (hr x3r l3r c3r H1 h))) (fun τ2 H2 hk => mSl_elim (i := 3) (G := fun τ => (mSl (τ 3) fun x3' l3' c3' => I x3' l3' c3' H2) ∧ μ (gL1 (τ 3)) (gL2 (τ 3)) (gL3 (τ 3)) H2 < μ x3r l3r c3r H1) hk (fun x3' l3' c3' h => h)))))))))))

theorem ui_14ok (Q : QT) (E : ET) (τ : Tau) (H : Heap) (h : ui_12_M Q E τ H) : vc Pr ui_p4 τ (ui_q2 Q E) E H :=
  (conv (B := vc Pr ui_p4 τ (ui_q2 Q E) E H) (by kernel_rfl) (ui_13ok Q E τ H h))

theorem ui_15ok (Q : QT) (E : ET) (τ : Tau) (H : Heap) (h : ui_12_M Q E τ H) : vc Pr ui_p2 τ (ui_q1 Q E) E H :=
  (conv (B := vc Pr ui_p2 τ (ui_q1 Q E) E H) (by kernel_rfl) (vc_seq (K := (ui_1_M Q E)) (ui_14ok Q E τ H h) (ui_2ok Q E)))

@[reducible] noncomputable def ui_q8 (Q : QT) (E : ET) : Exit → Tau → Heap → Prop := (xthen (ui_12_M Q E) (ui_q1 Q E))

@[reducible] noncomputable def ui_p12 : Code := sA ui_p1

def ui_16 (Q : QT) (E : ET) (x0 : OA) (H : Heap) : Prop :=
 Does Pr 105 #[(.pointer x0)] H (fun v81 H82 =>
 ∃ (p83 : OA) (l84 c85 : Nat), v81 = (.slice p83 l84 c85) ∧ ui_12 Q E x0 p83 l84 c85 H82) E

def ui_16_M (Q : QT) (E : ET) (τ : Tau) (H : Heap) : Prop := mP (τ 0) fun x0 => ui_16 Q E x0 H

theorem ui_17ok (Q : QT) (E : ET) (τ : Tau) (H : Heap) (h : ui_16_M Q E τ H) : vc Pr ui_p12 τ (ui_q8 Q E) E H :=
  vP (i := 0) h (fun x0 h => (conv (by kernel_rfl) h))

theorem ui_18ok (Q : QT) (E : ET) (τ : Tau) (H : Heap) (h : ui_16_M Q E τ H) : vc Pr ui_p1 τ (ui_q1 Q E) E H :=
  (conv (B := vc Pr ui_p1 τ (ui_q1 Q E) E H) (by kernel_rfl) (vc_seq (K := (ui_12_M Q E)) (ui_17ok Q E τ H h) (ui_15ok Q E)))

@[reducible] noncomputable def ui_q9 (Q : QT) (E : ET) : Exit → Tau → Heap → Prop := (xthen (ui_16_M Q E) (ui_q1 Q E))

@[reducible] noncomputable def ui_p13 : Code := sA ui_p0

def ui (Q : QT) (E : ET) (a0 : OA) (H : Heap) : Prop :=
 ui_16 Q E a0 H

theorem ui_fn (a0 : OA) (Q : QT) (E : ET) (H : Heap) (h : ui Q E a0 H)   : Does Pr 100 #[(.pointer a0)] H Q E :=
  Fn_of_vc (fn := Try.f100) (c := ui_p0) (args := [(.pointer a0)]) mixed (by kernel_rfl) (by kernel_rfl) (by kernel_rfl) (by kernel_rfl) (by kernel_rfl) ((conv (B := vc Pr ui_p0 (argT [(.pointer a0)]) (ui_q1 Q E) E H) (by kernel_rfl) (vc_seq (K := (ui_16_M Q E)) (conv (B := vc Pr ui_p13 (argT [(.pointer a0)]) (ui_q9 Q E) E H) (by kernel_rfl) h) (ui_18ok Q E))))

/-! jobmux/jobmuxref08.leaf -/
@[reducible] noncomputable def uj_q1 (Q : QT) (E : ET) : Exit → Tau → Heap → Prop := (retQ Pr (Try.f101).results.toList Q)

@[reducible] noncomputable def uj_p0 : Code := bodyOf Try.f101

def uj (Q : QT) (E : ET) (a0 : Int) (a1_0 : Int) (a1_1 : Int) (a1_2 : Int) (a1_3 : Int) (H : Heap) : Prop :=
 nw (.cells #[(.int .u64 a1_0), (.int .u64 a1_1), (.int .u64 a1_2), (.int .u64 a1_3)] 46 (0, 0)) H fun i1 H2 =>
 ∃ n3 n4 n5 n6 : Int, Heap.rd H2 ⟨i1, 0, none⟩ 0 [(.int .u64 n3), (.int .u64 n4), (.int .u64 n5), (.int .u64 n6)] ∧ nw (.cells #[(.int .i64 a0), (.int .i64 0), (.int .i64 0), (.int .u64 n3), (.int .u64 n4), (.int .u64 n5), (.int .u64 n6)] 48 (0, 0)) H2 fun i7 H8 =>
 Q (.slice (some ⟨i7, 0, none⟩) 1 1) H8

theorem uj_fn (a0 : Int) (a1_0 : Int) (a1_1 : Int) (a1_2 : Int) (a1_3 : Int) (Q : QT) (E : ET) (H : Heap) (h : uj Q E a0 a1_0 a1_1 a1_2 a1_3 H)   : Does Pr 101 #[(.int .i64 a0), (.agg #[(.int .u64 a1_0), (.int .u64 a1_1), (.int .u64 a1_2), (.int .u64 a1_3)])] H Q E :=
  Fn_of_vc (fn := Try.f101) (c := uj_p0) (args := [(.int .i64 a0), (.agg #[(.int .u64 a1_0), (.int .u64 a1_1), (.int .u64 a1_2), (.int .u64 a1_3)])]) mixed (by kernel_rfl) (by kernel_rfl) (by kernel_rfl) (by kernel_rfl) (by kernel_rfl) ((conv (B := vc Pr uj_p0 (argT [(.int .i64 a0), (.agg #[(.int .u64 a1_0), (.int .u64 a1_1), (.int .u64 a1_2), (.int .u64 a1_3)])]) (uj_q1 Q E) E H) (by kernel_rfl) h))

/-! jobmux/jobmuxref08.shifted -/
@[reducible] noncomputable def uk_q1 (Q : QT) (E : ET) : Exit → Tau → Heap → Prop := (retQ Pr (Try.f102).results.toList Q)

@[reducible] noncomputable def uk_p0 : Code := bodyOf Try.f102

@[reducible] noncomputable def uk_p1 : Code := sB uk_p0

@[reducible] noncomputable def uk_p2 : Code := sB uk_p1

def uk_1 (Q : QT) (E : ET)  (H : Heap) : Prop :=
 Q (.int .i64 0) H

def uk_1_M (Q : QT) (E : ET) (τ : Tau) (H : Heap) : Prop := uk_1 Q E  H

theorem uk_2ok (Q : QT) (E : ET) (τ : Tau) (H : Heap) (h : uk_1_M Q E τ H) : vc Pr uk_p2 τ (uk_q1 Q E) E H :=
  (conv (B := vc Pr uk_p2 τ (uk_q1 Q E) E H) (by kernel_rfl) h)

@[reducible] noncomputable def uk_q2 (Q : QT) (E : ET) : Exit → Tau → Heap → Prop := (xthen (uk_1_M Q E) (uk_q1 Q E))

@[reducible] noncomputable def uk_p3 : Code := sA uk_p1

def uk_3 (Q : QT) (E : ET) (x0 : Int) (x1 : Int) (x2 : Int) (x3 : Int) (H : Heap) : Prop :=
 Does Pr 42 #[(.int .i64 x0)] H (fun v4 H5 =>
 ∃ n6 : Int, v4 = (.int .i64 n6) ∧ sel (decide ((x1 : Int) < n6))
 (Q (.int .i64 (IntKind.wrap .i64 (x2 + x3))) H5)
 (uk_1 Q E  H5)) E

def uk_3_M (Q : QT) (E : ET) (τ : Tau) (H : Heap) : Prop := mI .i64 (τ 0) fun x0 => mI .i64 (τ 1) fun x1 => mI .i64 (τ 2) fun x2 => mI .i64 (τ 3) fun x3 => uk_3 Q E x0 x1 x2 x3 H

theorem uk_4ok (Q : QT) (E : ET) (τ : Tau) (H : Heap) (h : uk_3_M Q E τ H) : vc Pr uk_p3 τ (uk_q2 Q E) E H :=
  vI (i := 0) h (fun x0 h => vI (i := 1) h (fun x1 h => vI (i := 2) h (fun x2 h => vI (i := 3) h (fun x3 h => (conv (by kernel_rfl) h)))))

theorem uk_5ok (Q : QT) (E : ET) (τ : Tau) (H : Heap) (h : uk_3_M Q E τ H) : vc Pr uk_p1 τ (uk_q1 Q E) E H :=
  (conv (B := vc Pr uk_p1 τ (uk_q1 Q E) E H) (by kernel_rfl) (vc_seq (K := (uk_1_M Q E)) (uk_4ok Q E τ H h) (uk_2ok Q E)))

@[reducible] noncomputable def uk_q3 (Q : QT) (E : ET) : Exit → Tau → Heap → Prop := (xthen (uk_3_M Q E) (uk_q1 Q E))

@[reducible] noncomputable def uk_p4 : Code := sA uk_p0

def uk (Q : QT) (E : ET) (a0 : Int) (a1 : Int) (a2 : Int) (a3 : Int) (H : Heap) : Prop :=
 uk_3 Q E a0 a1 a2 a3 H

theorem uk_fn (a0 : Int) (a1 : Int) (a2 : Int) (a3 : Int) (Q : QT) (E : ET) (H : Heap) (h : uk Q E a0 a1 a2 a3 H)   : Does Pr 102 #[(.int .i64 a0), (.int .i64 a1), (.int .i64 a2), (.int .i64 a3)] H Q E :=
  Fn_of_vc (fn := Try.f102) (c := uk_p0) (args := [(.int .i64 a0), (.int .i64 a1), (.int .i64 a2), (.int .i64 a3)]) mixed (by kernel_rfl) (by kernel_rfl) (by kernel_rfl) (by kernel_rfl) (by kernel_rfl) ((conv (B := vc Pr uk_p0 (argT [(.int .i64 a0), (.int .i64 a1), (.int .i64 a2), (.int .i64 a3)]) (uk_q1 Q E) E H) (by kernel_rfl) (vc_seq (K := (uk_3_M Q E)) (conv (B := vc Pr uk_p4 (argT [(.int .i64 a0), (.int .i64 a1), (.int .i64 a2), (.int .i64 a3)]) (uk_q3 Q E) E H) (by kernel_rfl) h) (uk_5ok Q E))))

/-! (*jobmux/jobmuxref08.parser).atom -/
@[reducible] noncomputable def ul_q1 (Q : QT) (E : ET) : Exit → Tau → Heap → Prop := (retQ Pr (Try.f105).results.toList Q)

@[reducible] noncomputable def ul_p0 : Code := bodyOf Try.f105

@[reducible] noncomputable def ul_p1 : Code := sB ul_p0

@[reducible] noncomputable def ul_p2 : Code := sB ul_p1

@[reducible] noncomputable def ul_p3 : Code := sB ul_p2

@[reducible] noncomputable def ul_p4 : Code := sB ul_p3

def ul_1 (Q : QT) (E : ET) (x3 : Int) (H : Heap) : Prop :=
 Does Pr 108 #[(.agg #[(.int .u64 0), (.int .u64 0), (.int .u64 0), (.int .u64 0)]), (.int .u8 x3)] H (fun v99 H100 =>
 ∃ n101 n102 n103 n104 : Int, v99 = (.agg #[(.int .u64 n101), (.int .u64 n102), (.int .u64 n103), (.int .u64 n104)]) ∧ Does Pr 101 #[(.int .i64 2), (.agg #[(.int .u64 n101), (.int .u64 n102), (.int .u64 n103), (.int .u64 n104)])] H100 (fun v105 H106 =>
 ∃ (p107 : OA) (l108 c109 : Nat), v105 = (.slice p107 l108 c109) ∧ Q (.slice p107 l108 c109) H106) E) E

def ul_1_M (Q : QT) (E : ET) (τ : Tau) (H : Heap) : Prop := mI .u8 (τ 3) fun x3 => ul_1 Q E x3 H

theorem ul_2ok (Q : QT) (E : ET) (τ : Tau) (H : Heap) (h : ul_1_M Q E τ H) : vc Pr ul_p4 τ (ul_q1 Q E) E H :=
  vI (i := 3) h (fun x3 h => (conv (by kernel_rfl) h))

@[reducible] noncomputable def ul_q2 (Q : QT) (E : ET) : Exit → Tau → Heap → Prop := (xthen (ul_1_M Q E) (ul_q1 Q E))

@[reducible] noncomputable def ul_p5 : Code := sA ul_p3

@[reducible] noncomputable def ul_p6 : Code := sB ul_p5

@[reducible] noncomputable def ul_q3 (Q : QT) (E : ET) : Exit → Tau → Heap → Prop := (xblock 0 (ul_q2 Q E))

@[reducible] noncomputable def ul_p7 : Code := sI ul_p6

@[reducible] noncomputable def ul_p8 : Code := sB ul_p7

@[reducible] noncomputable def ul_p9 : Code := sT ul_p8

def ul_3 (Q : QT) (E : ET)  (H : Heap) : Prop :=
 Does Pr 108 #[(.agg #[(.int .u64 0), (.int .u64 0), (.int .u64 0), (.int .u64 0)]), (.int .u8 10)] H (fun v110 H111 =>
 ∃ n112 n113 n114 n115 : Int, v110 = (.agg #[(.int .u64 n112), (.int .u64 n113), (.int .u64 n114), (.int .u64 n115)]) ∧ Does Pr 107 #[(.agg #[(.int .u64 n112), (.int .u64 n113), (.int .u64 n114), (.int .u64 n115)])] H111 (fun v116 H117 =>
 ∃ n118 n119 n120 n121 : Int, v116 = (.agg #[(.int .u64 n118), (.int .u64 n119), (.int .u64 n120), (.int .u64 n121)]) ∧ Does Pr 101 #[(.int .i64 2), (.agg #[(.int .u64 n118), (.int .u64 n119), (.int .u64 n120), (.int .u64 n121)])] H117 (fun v122 H123 =>
 ∃ (p124 : OA) (l125 c126 : Nat), v122 = (.slice p124 l125 c126) ∧ Q (.slice p124 l125 c126) H123) E) E) E

def ul_3_M (Q : QT) (E : ET) (τ : Tau) (H : Heap) : Prop := ul_3 Q E  H

theorem ul_4ok (Q : QT) (E : ET) (τ : Tau) (H : Heap) (h : ul_3_M Q E τ H) : vc Pr ul_p9 τ (ul_q3 Q E) E H :=
  (conv (B := vc Pr ul_p9 τ (ul_q3 Q E) E H) (by kernel_rfl) h)

@[reducible] noncomputable def ul_p10 : Code := sE ul_p8

@[reducible] noncomputable def ul_p11 : Code := sB ul_p10

@[reducible] noncomputable def ul_p12 : Code := sT ul_p11

def ul_5 (Q : QT) (E : ET)  (H : Heap) : Prop :=
 Does Pr 101 #[(.int .i64 8), (.agg #[(.int .u64 0), (.int .u64 0), (.int .u64 0), (.int .u64 0)])] H (fun v127 H128 =>
 ∃ (p129 : OA) (l130 c131 : Nat), v127 = (.slice p129 l130 c131) ∧ Q (.slice p129 l130 c131) H128) E

def ul_5_M (Q : QT) (E : ET) (τ : Tau) (H : Heap) : Prop := ul_5 Q E  H

theorem ul_6ok (Q : QT) (E : ET) (τ : Tau) (H : Heap) (h : ul_5_M Q E τ H) : vc Pr ul_p12 τ (ul_q3 Q E) E H :=
  (conv (B := vc Pr ul_p12 τ (ul_q3 Q E) E H) (by kernel_rfl) h)

@[reducible] noncomputable def ul_p13 : Code := sE ul_p11

@[reducible] noncomputable def ul_p14 : Code := sB ul_p13

@[reducible] noncomputable def ul_p15 : Code := sT ul_p14

def ul_7 (Q : QT) (E : ET)  (H : Heap) : Prop :=
 Does Pr 101 #[(.int .i64 9), (.agg #[(.int .u64 0), (.int .u64 0), (.int .u64 0), (.int .u64 0)])] H (fun v132 H133 =>
 ∃ (p134 : OA) (l135 c136 : Nat), v132 = (.slice p134 l135 c136) ∧ Q (.slice p134 l135 c136) H133) E

def ul_7_M (Q : QT) (E : ET) (τ : Tau) (H : Heap) : Prop := ul_7 Q E  H

theorem ul_8ok (Q : QT) (E : ET) (τ : Tau) (H : Heap) (h : ul_7_M Q E τ H) : vc Pr ul_p15 τ (ul_q3 Q E) E H :=
  (conv (B := vc Pr ul_p15 τ (ul_q3 Q E) E H) (by kernel_rfl) h)

@[reducible] noncomputable def ul_p16 : Code := sE ul_p14

@[reducible] noncomputable def ul_p17 : Code := sB ul_p16

@[reducible] noncomputable def ul_p18 : Code := sT ul_p17

def ul_9 (Q : QT) (E : ET) (x0 : OA) (H : Heap) : Prop :=
 Does Pr 109 #[(.pointer x0)] H (fun v137 H138 =>
 ∃ n139 n140 n141 n142 : Int, ∃ b143 : Bool, v137 = (.tuple #[(.agg #[(.int .u64 n139), (.int .u64 n140), (.int .u64 n141), (.int .u64 n142)]), (.bool b143)]) ∧ nw (.cells #[(.int .u64 0), (.int .u64 0), (.int .u64 0), (.int .u64 0)] 46 (0, 0)) H138 fun i144 H145 =>
 wr ⟨i144, 0, none⟩ [(.int .u64 n139), (.int .u64 n140), (.int .u64 n141), (.int .u64 n142)] H145 fun H146 =>
 ∃ n147 n148 n149 n150 : Int, Heap.rd H146 ⟨i144, 0, none⟩ 0 [(.int .u64 n147), (.int .u64 n148), (.int .u64 n149), (.int .u64 n150)] ∧ Does Pr 101 #[(.int .i64 2), (.agg #[(.int .u64 n147), (.int .u64 n148), (.int .u64 n149), (.int .u64 n150)])] H146 (fun v151 H152 =>
 ∃ (p153 : OA) (l154 c155 : Nat), v151 = (.slice p153 l154 c155) ∧ Q (.slice p153 l154 c155) H152) E) E

def ul_9_M (Q : QT) (E : ET) (τ : Tau) (H : Heap) : Prop := mP (τ 0) fun x0 => ul_9 Q E x0 H

theorem ul_10ok (Q : QT) (E : ET) (τ : Tau) (H : Heap) (h : ul_9_M Q E τ H) : vc Pr ul_p18 τ (ul_q3 Q E) E H :=
  vP (i := 0) h (fun x0 h => (conv (by kernel_rfl) h))

@[reducible] noncomputable def ul_p19 : Code := sE ul_p17

@[reducible] noncomputable def ul_p20 : Code := sB ul_p19

@[reducible] noncomputable def ul_p21 : Code := sT ul_p20

def ul_11 (Q : QT) (E : ET) (x0 : OA) (H : Heap) : Prop :=
 Does Pr 110 #[(.pointer x0)] H (fun v156 H157 =>
 ∃ n158 n159 n160 n161 : Int, v156 = (.agg #[(.int .u64 n158), (.int .u64 n159), (.int .u64 n160), (.int .u64 n161)]) ∧ Does Pr 101 #[(.int .i64 2), (.agg #[(.int .u64 n158), (.int .u64 n159), (.int .u64 n160), (.int .u64 n161)])] H157 (fun v162 H163 =>
 ∃ (p164 : OA) (l165 c166 : Nat), v162 = (.slice p164 l165 c166) ∧ Q (.slice p164 l165 c166) H163) E) E

def ul_11_M (Q : QT) (E : ET) (τ : Tau) (H : Heap) : Prop := mP (τ 0) fun x0 => ul_11 Q E x0 H

theorem ul_12ok (Q : QT) (E : ET) (τ : Tau) (H : Heap) (h : ul_11_M Q E τ H) : vc Pr ul_p21 τ (ul_q3 Q E) E H :=
  vP (i := 0) h (fun x0 h => (conv (by kernel_rfl) h))

@[reducible] noncomputable def ul_p22 : Code := sE ul_p20

@[reducible] noncomputable def ul_p23 : Code := sB ul_p22

@[reducible] noncomputable def ul_p24 : Code := sT ul_p23

def ul_13 (Q : QT) (E : ET) (x0 : OA) (x3 : Int) (H : Heap) : Prop :=
 Does Pr 57 #[(.pointer x0), (.int .i64 80)] H (fun v167 H168 =>
 ul_1 Q E x3 H168) E

def ul_13_M (Q : QT) (E : ET) (τ : Tau) (H : Heap) : Prop := mP (τ 0) fun x0 => mI .u8 (τ 3) fun x3 => ul_13 Q E x0 x3 H

theorem ul_14ok (Q : QT) (E : ET) (τ : Tau) (H : Heap) (h : ul_13_M Q E τ H) : vc Pr ul_p24 τ (ul_q3 Q E) E H :=
  vP (i := 0) h (fun x0 h => vI (i := 3) h (fun x3 h => (conv (by kernel_rfl) h)))

@[reducible] noncomputable def ul_p25 : Code := sE ul_p23

@[reducible] noncomputable def ul_p26 : Code := sB ul_p25

@[reducible] noncomputable def ul_p27 : Code := sT ul_p26

def ul_15 (Q : QT) (E : ET) (x0 : OA) (x3 : Int) (H : Heap) : Prop :=
 Does Pr 57 #[(.pointer x0), (.int .i64 81)] H (fun v169 H170 =>
 ul_1 Q E x3 H170) E

def ul_15_M (Q : QT) (E : ET) (τ : Tau) (H : Heap) : Prop := mP (τ 0) fun x0 => mI .u8 (τ 3) fun x3 => ul_15 Q E x0 x3 H

theorem ul_16ok (Q : QT) (E : ET) (τ : Tau) (H : Heap) (h : ul_15_M Q E τ H) : vc Pr ul_p27 τ (ul_q3 Q E) E H :=
  vP (i := 0) h (fun x0 h => vI (i := 3) h (fun x3 h => (conv (by kernel_rfl) h)))

@[reducible] noncomputable def ul_p28 : Code := sE ul_p26

@[reducible] noncomputable def ul_p29 : Code := sB ul_p28

@[reducible] noncomputable def ul_p30 : Code := sT ul_p29

@[reducible] noncomputable def ul_p31 : Code := sB ul_p30

@[reducible] noncomputable def ul_p32 : Code := sB ul_p31

@[reducible] noncomputable def ul_p33 : Code := sB ul_p32

def ul_17 (Q : QT) (E : ET) (x0 : OA) (x6 : OA) (l6 : Nat) (c6 : Nat) (H : Heap) : Prop :=
 ptr x0 fun q192 =>
 ldI .i64 (Addr.add q192 1) H fun n193 =>
 ptr x0 fun q194 =>
 wr (Addr.add q194 1) [(.int .i64 (IntKind.wrap .i64 (n193 + 1)))] H fun H195 =>
 ptr x0 fun q196 =>
 ldI .i64 (Addr.add q196 2) H195 fun n197 =>
 ptr x0 fun q198 =>
 wr (Addr.add q198 2) [(.int .i64 (IntKind.wrap .i64 (n197 - 1)))] H195 fun H199 =>
 Q (.slice x6 l6 c6) H199

def ul_17_M (Q : QT) (E : ET) (τ : Tau) (H : Heap) : Prop := mP (τ 0) fun x0 => mSl (τ 6) fun x6 l6 c6 => ul_17 Q E x0 x6 l6 c6 H

theorem ul_18ok (Q : QT) (E : ET) (τ : Tau) (H : Heap) (h : ul_17_M Q E τ H) : vc Pr ul_p33 τ (ul_q3 Q E) E H :=
  vP (i := 0) h (fun x0 h => vSl (i := 6) h (fun x6 l6 c6 h => (conv (by kernel_rfl) h)))

@[reducible] noncomputable def ul_q4 (Q : QT) (E : ET) : Exit → Tau → Heap → Prop := (xthen (ul_17_M Q E) (ul_q3 Q E))

@[reducible] noncomputable def ul_p34 : Code := sA ul_p32

@[reducible] noncomputable def ul_p35 : Code := sB ul_p34

def ul_19 (Q : QT) (E : ET) (x0 : OA) (x6 : OA) (l6 : Nat) (c6 : Nat) (x96 : Bool) (H : Heap) : Prop :=
 sel x96
 (Does Pr 57 #[(.pointer x0), (.int .i64 83)] H (fun v206 H207 =>
 ul_17 Q E x0 x6 l6 c6 H207) E)
 (ul_17 Q E x0 x6 l6 c6 H)

def ul_19_M (Q : QT) (E : ET) (τ : Tau) (H : Heap) : Prop := mP (τ 0) fun x0 => mSl (τ 6) fun x6 l6 c6 => mB (τ 96) fun x96 => ul_19 Q E x0 x6 l6 c6 x96 H

theorem ul_20ok (Q : QT) (E : ET) (τ : Tau) (H : Heap) (h : ul_19_M Q E τ H) : vc Pr ul_p35 τ (ul_q4 Q E) E H :=
  vP (i := 0) h (fun x0 h => vSl (i := 6) h (fun x6 l6 c6 h => vB (i := 96) h (fun x96 h => (conv (by kernel_rfl) h))))

@[reducible] noncomputable def ul_q5 (Q : QT) (E : ET) : Exit → Tau → Heap → Prop := (xthen (ul_19_M Q E) (ul_q4 Q E))

@[reducible] noncomputable def ul_p36 : Code := sA ul_p34

def ul_21 (Q : QT) (E : ET) (x0 : OA) (x6 : OA) (l6 : Nat) (c6 : Nat) (H : Heap) : Prop :=
 ptr x0 fun q208 =>
 ldI .i64 (Addr.add q208 3) H fun n209 =>
 sel ((n209 : Int) == 0)
 (ptr x0 fun q210 =>
 ldI .i64 (Addr.add q210 1) H fun n211 =>
 ptr x0 fun q212 =>
 ldS q212 H fun s213 =>
 ul_19 Q E x0 x6 l6 c6 (decide ((n211 : Int) ≥ ((ByteArray.size s213 : Nat) : Int))) H)
 (ul_19 Q E x0 x6 l6 c6 false H)

def ul_21_M (Q : QT) (E : ET) (τ : Tau) (H : Heap) : Prop := mP (τ 0) fun x0 => mSl (τ 6) fun x6 l6 c6 => ul_21 Q E x0 x6 l6 c6 H

theorem ul_22ok (Q : QT) (E : ET) (τ : Tau) (H : Heap) (h : ul_21_M Q E τ H) : vc Pr ul_p36 τ (ul_q5 Q E) E H :=
  vP (i := 0) h (fun x0 h => vSl (i := 6) h (fun x6 l6 c6 h => (conv (by kernel_rfl) h)))

theorem ul_23ok (Q : QT) (E : ET) (τ : Tau) (H : Heap) (h : ul_21_M Q E τ H) : vc Pr ul_p34 τ (ul_q4 Q E) E H :=
  (conv (B := vc Pr ul_p34 τ (ul_q4 Q E) E H) (by kernel_rfl) (vc_seq (K := (ul_19_M Q E)) (ul_22ok Q E τ H h) (ul_20ok Q E)))

theorem ul_24ok (Q : QT) (E : ET) (τ : Tau) (H : Heap) (h : ul_21_M Q E τ H) : vc Pr ul_p32 τ (ul_q3 Q E) E H :=
  (conv (B := vc Pr ul_p32 τ (ul_q3 Q E) E H) (by kernel_rfl) (vc_seq (K := (ul_17_M Q E)) (ul_23ok Q E τ H h) (ul_18ok Q E)))

@[reducible] noncomputable def ul_q6 (Q : QT) (E : ET) : Exit → Tau → Heap → Prop := (xthen (ul_21_M Q E) (ul_q3 Q E))

@[reducible] noncomputable def ul_p37 : Code := sA ul_p31

def ul_25 (Q : QT) (E : ET) (x0 : OA) (H : Heap) : Prop :=
 Does Pr 56 #[(.pointer x0)] H (fun v214 H215 =>
 ∃ (p216 : OA) (l217 c218 : Nat), v214 = (.slice p216 l217 c218) ∧ ul_21 Q E x0 p216 l217 c218 H215) E

def ul_25_M (Q : QT) (E : ET) (τ : Tau) (H : Heap) : Prop := mP (τ 0) fun x0 => ul_25 Q E x0 H

theorem ul_26ok (Q : QT) (E : ET) (τ : Tau) (H : Heap) (h : ul_25_M Q E τ H) : vc Pr ul_p37 τ (ul_q6 Q E) E H :=
  vP (i := 0) h (fun x0 h => (conv (by kernel_rfl) h))

theorem ul_27ok (Q : QT) (E : ET) (τ : Tau) (H : Heap) (h : ul_25_M Q E τ H) : vc Pr ul_p31 τ (ul_q3 Q E) E H :=
  (conv (B := vc Pr ul_p31 τ (ul_q3 Q E) E H) (by kernel_rfl) (vc_seq (K := (ul_21_M Q E)) (ul_26ok Q E τ H h) (ul_24ok Q E)))

@[reducible] noncomputable def ul_q7 (Q : QT) (E : ET) : Exit → Tau → Heap → Prop := (xthen (ul_25_M Q E) (ul_q3 Q E))

@[reducible] noncomputable def ul_p38 : Code := sA ul_p30

def ul_28 (Q : QT) (E : ET) (x0 : OA) (H : Heap) : Prop :=
 ptr x0 fun q219 =>
 ldI .i64 (Addr.add q219 2) H fun n220 =>
 ptr x0 fun q221 =>
 wr (Addr.add q221 2) [(.int .i64 (IntKind.wrap .i64 (n220 + 1)))] H fun H222 =>
 ptr x0 fun q223 =>
 ldI .i64 (Addr.add q223 2) H222 fun n224 =>
 sel (decide ((n224 : Int) > 24))
 (Does Pr 57 #[(.pointer x0), (.int .i64 84)] H222 (fun v225 H226 =>
 Q (.slice none 0 0) H226) E)
 (ul_25 Q E x0 H222)

def ul_28_M (Q : QT) (E : ET) (τ : Tau) (H : Heap) : Prop := mP (τ 0) fun x0 => ul_28 Q E x0 H

theorem ul_29ok (Q : QT) (E : ET) (τ : Tau) (H : Heap) (h : ul_28_M Q E τ H) : vc Pr ul_p38 τ (ul_q7 Q E) E H :=
  vP (i := 0) h (fun x0 h => (conv (by kernel_rfl) h))

theorem ul_30ok (Q : QT) (E : ET) (τ : Tau) (H : Heap) (h : ul_28_M Q E τ H) : vc Pr ul_p30 τ (ul_q3 Q E) E H :=
  (conv (B := vc Pr ul_p30 τ (ul_q3 Q E) E H) (by kernel_rfl) (vc_seq (K := (ul_25_M Q E)) (ul_29ok Q E τ H h) (ul_27ok Q E)))

@[reducible] noncomputable def ul_p39 : Code := sE ul_p29

def ul_31 (Q : QT) (E : ET) (x3 : Int) (H : Heap) : Prop :=
 ul_1 Q E x3 H

def ul_31_M (Q : QT) (E : ET) (τ : Tau) (H : Heap) : Prop := mI .u8 (τ 3) fun x3 => ul_31 Q E x3 H

theorem ul_32ok (Q : QT) (E : ET) (τ : Tau) (H : Heap) (h : ul_31_M Q E τ H) : vc Pr ul_p39 τ (ul_q3 Q E) E H :=
  vI (i := 3) h (fun x3 h => (conv (by kernel_rfl) h))

def ul_33 (Q : QT) (E : ET) (x0 : OA) (x3 : Int) (x62 : Bool) (H : Heap) : Prop :=
 sel x62
 (ul_28 Q E x0 H)
 (ul_31 Q E x3 H)

def ul_33_M (Q : QT) (E : ET) (τ : Tau) (H : Heap) : Prop := mP (τ 0) fun x0 => mI .u8 (τ 3) fun x3 => mB (τ 62) fun x62 => ul_33 Q E x0 x3 x62 H

theorem ul_34ok (Q : QT) (E : ET) (τ : Tau) (H : Heap) (h : ul_33_M Q E τ H) : vc Pr ul_p29 τ (ul_q3 Q E) E H :=
  vP (i := 0) h (fun x0 h => vI (i := 3) h (fun x3 h => vB (i := 62) h (fun x62 h => (conv (B := vc Pr ul_p29 (Tau.upd (Tau.upd (Tau.upd τ 0 (.pointer x0)) 3 (.int .u8 x3)) 62 (.bool x62)) (ul_q3 Q E) E H) (by kernel_rfl) (sel_map (ul_30ok Q E (Tau.upd (Tau.upd (Tau.upd τ 0 (.pointer x0)) 3 (.int .u8 x3)) 62 (.bool x62)) H) (ul_32ok Q E (Tau.upd (Tau.upd (Tau.upd τ 0 (.pointer x0)) 3 (.int .u8 x3)) 62 (.bool x62)) H) (conv (B := sel x62 (ul_28_M Q E (Tau.upd (Tau.upd (Tau.upd τ 0 (.pointer x0)) 3 (.int .u8 x3)) 62 (.bool x62)) H) (ul_31_M Q E (Tau.upd (Tau.upd (Tau.upd τ 0 (.pointer x0)) 3 (.int .u8 x3)) 62 (.bool x62)) H)) (by kernel_rfl) h))))))

@[reducible] noncomputable def ul_q8 (Q : QT) (E : ET) : Exit → Tau → Heap → Prop := (xthen (ul_33_M Q E) (ul_q3 Q E))

@[reducible] noncomputable def ul_p40 : Code := sA ul_p28

def ul_35 (Q : QT) (E : ET) (x0 : OA) (x3 : Int) (x23 : Int) (H : Heap) : Prop :=
 ul_33 Q E x0 x3 ((x23 : Int) == 40) H

def ul_35_M (Q : QT) (E : ET) (τ : Tau) (H : Heap) : Prop := mP (τ 0) fun x0 => mI .u8 (τ 3) fun x3 => mI .u8 (τ 23) fun x23 => ul_35 Q E x0 x3 x23 H

theorem ul_36ok (Q : QT) (E : ET) (τ : Tau) (H : Heap) (h : ul_35_M Q E τ H) : vc Pr ul_p40 τ (ul_q8 Q E) E H :=
  vP (i := 0) h (fun x0 h => vI (i := 3) h (fun x3 h => vI (i := 23) h (fun x23 h => (conv (by kernel_rfl) h))))

theorem ul_37ok (Q : QT) (E : ET) (τ : Tau) (H : Heap) (h : ul_35_M Q E τ H) : vc Pr ul_p28 τ (ul_q3 Q E) E H :=
  (conv (B := vc Pr ul_p28 τ (ul_q3 Q E) E H) (by kernel_rfl) (vc_seq (K := (ul_33_M Q E)) (ul_36ok Q E τ H h) (ul_34ok Q E)))

def ul_38 (Q : QT) (E : ET) (x0 : OA) (x3 : Int) (x23 : Int) (x56 : Bool) (H : Heap) : Prop :=
 sel x56
 (ul_15 Q E x0 x3 H)
 (ul_35 Q E x0 x3 x23 H)

def ul_38_M (Q : QT) (E : ET) (τ : Tau) (H : Heap) : Prop := mP (τ 0) fun x0 => mI .u8 (τ 3) fun x3 => mI .u8 (τ 23) fun x23 => mB (τ 56) fun x56 => ul_38 Q E x0 x3 x23 x56 H

theorem ul_39ok (Q : QT) (E : ET) (τ : Tau) (H : Heap) (h : ul_38_M Q E τ H) : vc Pr ul_p26 τ (ul_q3 Q E) E H :=
  vP (i := 0) h (fun x0 h => vI (i := 3) h (fun x3 h => vI (i := 23) h (fun x23 h => vB (i := 56) h (fun x56 h => (conv (B := vc Pr ul_p26 (Tau.upd (Tau.upd (Tau.upd (Tau.upd τ 0 (.pointer x0)) 3 (.int .u8 x3)) 23 (.int .u8 x23)) 56 (.bool x56)) (ul_q3 Q E) E H) (by kernel_rfl) (sel_map (ul_16ok Q E (Tau.upd (Tau.upd (Tau.upd (Tau.upd τ 0 (.pointer x0)) 3 (.int .u8 x3)) 23 (.int .u8 x23)) 56 (.bool x56)) H) (ul_37ok Q E (Tau.upd (Tau.upd (Tau.upd (Tau.upd τ 0 (.pointer x0)) 3 (.int .u8 x3)) 23 (.int .u8 x23)) 56 (.bool x56)) H) (conv (B := sel x56 (ul_15_M Q E (Tau.upd (Tau.upd (Tau.upd (Tau.upd τ 0 (.pointer x0)) 3 (.int .u8 x3)) 23 (.int .u8 x23)) 56 (.bool x56)) H) (ul_35_M Q E (Tau.upd (Tau.upd (Tau.upd (Tau.upd τ 0 (.pointer x0)) 3 (.int .u8 x3)) 23 (.int .u8 x23)) 56 (.bool x56)) H)) (by kernel_rfl) h)))))))

@[reducible] noncomputable def ul_q9 (Q : QT) (E : ET) : Exit → Tau → Heap → Prop := (xthen (ul_38_M Q E) (ul_q3 Q E))

@[reducible] noncomputable def ul_p41 : Code := sA ul_p25

def ul_40 (Q : QT) (E : ET) (x0 : OA) (x3 : Int) (x23 : Int) (H : Heap) : Prop :=
 sel ((x23 : Int) == 42)
 (ul_38 Q E x0 x3 x23 ((x23 : Int) == 42) H)
 (sel ((x23 : Int) == 43)
 (ul_38 Q E x0 x3 x23 ((x23 : Int) == 43) H)
 (ul_38 Q E x0 x3 x23 ((x23 : Int) == 63) H))

def ul_40_M (Q : QT) (E : ET) (τ : Tau) (H : Heap) : Prop := mP (τ 0) fun x0 => mI .u8 (τ 3) fun x3 => mI .u8 (τ 23) fun x23 => ul_40 Q E x0 x3 x23 H

theorem ul_41ok (Q : QT) (E : ET) (τ : Tau) (H : Heap) (h : ul_40_M Q E τ H) : vc Pr ul_p41 τ (ul_q9 Q E) E H :=
  vP (i := 0) h (fun x0 h => vI (i := 3) h (fun x3 h => vI (i := 23) h (fun x23 h => (conv (by kernel_rfl) h))))

theorem ul_42ok (Q : QT) (E : ET) (τ : Tau) (H : Heap) (h : ul_40_M Q E τ H) : vc Pr ul_p25 τ (ul_q3 Q E) E H :=
  (conv (B := vc Pr ul_p25 τ (ul_q3 Q E) E H) (by kernel_rfl) (vc_seq (K := (ul_38_M Q E)) (ul_41ok Q E τ H h) (ul_39ok Q E)))

def ul_43 (Q : QT) (E : ET) (x0 : OA) (x3 : Int) (x23 : Int) (x52 : Bool) (H : Heap) : Prop :=
 sel x52
 (ul_13 Q E x0 x3 H)
 (ul_40 Q E x0 x3 x23 H)

def ul_43_M (Q : QT) (E : ET) (τ : Tau) (H : Heap) : Prop := mP (τ 0) fun x0 => mI .u8 (τ 3) fun x3 => mI .u8 (τ 23) fun x23 => mB (τ 52) fun x52 => ul_43 Q E x0 x3 x23 x52 H

theorem ul_44ok (Q : QT) (E : ET) (τ : Tau) (H : Heap) (h : ul_43_M Q E τ H) : vc Pr ul_p23 τ (ul_q3 Q E) E H :=
  vP (i := 0) h (fun x0 h => vI (i := 3) h (fun x3 h => vI (i := 23) h (fun x23 h => vB (i := 52) h (fun x52 h => (conv (B := vc Pr ul_p23 (Tau.upd (Tau.upd (Tau.upd (Tau.upd τ 0 (.pointer x0)) 3 (.int .u8 x3)) 23 (.int .u8 x23)) 52 (.bool x52)) (ul_q3 Q E) E H) (by kernel_rfl) (sel_map (ul_14ok Q E (Tau.upd (Tau.upd (Tau.upd (Tau.upd τ 0 (.pointer x0)) 3 (.int .u8 x3)) 23 (.int .u8 x23)) 52 (.bool x52)) H) (ul_42ok Q E (Tau.upd (Tau.upd (Tau.upd (Tau.upd τ 0 (.pointer x0)) 3 (.int .u8 x3)) 23 (.int .u8 x23)) 52 (.bool x52)) H) (conv (B := sel x52 (ul_13_M Q E (Tau.upd (Tau.upd (Tau.upd (Tau.upd τ 0 (.pointer x0)) 3 (.int .u8 x3)) 23 (.int .u8 x23)) 52 (.bool x52)) H) (ul_40_M Q E (Tau.upd (Tau.upd (Tau.upd (Tau.upd τ 0 (.pointer x0)) 3 (.int .u8 x3)) 23 (.int .u8 x23)) 52 (.bool x52)) H)) (by kernel_rfl) h)))))))

@[reducible] noncomputable def ul_q10 (Q : QT) (E : ET) : Exit → Tau → Heap → Prop := (xthen (ul_43_M Q E) (ul_q3 Q E))

@[reducible] noncomputable def ul_p42 : Code := sA ul_p22

def ul_45 (Q : QT) (E : ET) (x0 : OA) (x3 : Int) (x23 : Int) (H : Heap) : Prop :=
 ul_43 Q E x0 x3 x23 ((x23 : Int) == 93) H

def ul_45_M (Q : QT) (E : ET) (τ : Tau) (H : Heap) : Prop := mP (τ 0) fun x0 => mI .u8 (τ 3) fun x3 => mI .u8 (τ 23) fun x23 => ul_45 Q E x0 x3 x23 H

theorem ul_46ok (Q : QT) (E : ET) (τ : Tau) (H : Heap) (h : ul_45_M Q E τ H) : vc Pr ul_p42 τ (ul_q10 Q E) E H :=
  vP (i := 0) h (fun x0 h => vI (i := 3) h (fun x3 h => vI (i := 23) h (fun x23 h => (conv (by kernel_rfl) h))))

theorem ul_47ok (Q : QT) (E : ET) (τ : Tau) (H : Heap) (h : ul_45_M Q E τ H) : vc Pr ul_p22 τ (ul_q3 Q E) E H :=
  (conv (B := vc Pr ul_p22 τ (ul_q3 Q E) E H) (by kernel_rfl) (vc_seq (K := (ul_43_M Q E)) (ul_46ok Q E τ H h) (ul_44ok Q E)))

def ul_48 (Q : QT) (E : ET) (x0 : OA) (x3 : Int) (x23 : Int) (x47 : Bool) (H : Heap) : Prop :=
 sel x47
 (ul_11 Q E x0 H)
 (ul_45 Q E x0 x3 x23 H)

def ul_48_M (Q : QT) (E : ET) (τ : Tau) (H : Heap) : Prop := mP (τ 0) fun x0 => mI .u8 (τ 3) fun x3 => mI .u8 (τ 23) fun x23 => mB (τ 47) fun x47 => ul_48 Q E x0 x3 x23 x47 H

theorem ul_49ok (Q : QT) (E : ET) (τ : Tau) (H : Heap) (h : ul_48_M Q E τ H) : vc Pr ul_p20 τ (ul_q3 Q E) E H :=
  vP (i := 0) h (fun x0 h => vI (i := 3) h (fun x3 h => vI (i := 23) h (fun x23 h => vB (i := 47) h (fun x47 h => (conv (B := vc Pr ul_p20 (Tau.upd (Tau.upd (Tau.upd (Tau.upd τ 0 (.pointer x0)) 3 (.int .u8 x3)) 23 (.int .u8 x23)) 47 (.bool x47)) (ul_q3 Q E) E H) (by kernel_rfl) (sel_map (ul_12ok Q E (Tau.upd (Tau.upd (Tau.upd (Tau.upd τ 0 (.pointer x0)) 3 (.int .u8 x3)) 23 (.int .u8 x23)) 47 (.bool x47)) H) (ul_47ok Q E (Tau.upd (Tau.upd (Tau.upd (Tau.upd τ 0 (.pointer x0)) 3 (.int .u8 x3)) 23 (.int .u8 x23)) 47 (.bool x47)) H) (conv (B := sel x47 (ul_11_M Q E (Tau.upd (Tau.upd (Tau.upd (Tau.upd τ 0 (.pointer x0)) 3 (.int .u8 x3)) 23 (.int .u8 x23)) 47 (.bool x47)) H) (ul_45_M Q E (Tau.upd (Tau.upd (Tau.upd (Tau.upd τ 0 (.pointer x0)) 3 (.int .u8 x3)) 23 (.int .u8 x23)) 47 (.bool x47)) H)) (by kernel_rfl) h)))))))

@[reducible] noncomputable def ul_q11 (Q : QT) (E : ET) : Exit → Tau → Heap → Prop := (xthen (ul_48_M Q E) (ul_q3 Q E))

@[reducible] noncomputable def ul_p43 : Code := sA ul_p19

def ul_50 (Q : QT) (E : ET) (x0 : OA) (x3 : Int) (x23 : Int) (H : Heap) : Prop :=
 ul_48 Q E x0 x3 x23 ((x23 : Int) == 91) H

def ul_50_M (Q : QT) (E : ET) (τ : Tau) (H : Heap) : Prop := mP (τ 0) fun x0 => mI .u8 (τ 3) fun x3 => mI .u8 (τ 23) fun x23 => ul_50 Q E x0 x3 x23 H

theorem ul_51ok (Q : QT) (E : ET) (τ : Tau) (H : Heap) (h : ul_50_M Q E τ H) : vc Pr ul_p43 τ (ul_q11 Q E) E H :=
  vP (i := 0) h (fun x0 h => vI (i := 3) h (fun x3 h => vI (i := 23) h (fun x23 h => (conv (by kernel_rfl) h))))

theorem ul_52ok (Q : QT) (E : ET) (τ : Tau) (H : Heap) (h : ul_50_M Q E τ H) : vc Pr ul_p19 τ (ul_q3 Q E) E H :=
  (conv (B := vc Pr ul_p19 τ (ul_q3 Q E) E H) (by kernel_rfl) (vc_seq (K := (ul_48_M Q E)) (ul_51ok Q E τ H h) (ul_49ok Q E)))

def ul_53 (Q : QT) (E : ET) (x0 : OA) (x3 : Int) (x23 : Int) (x38 : Bool) (H : Heap) : Prop :=
 sel x38
 (ul_9 Q E x0 H)
 (ul_50 Q E x0 x3 x23 H)

def ul_53_M (Q : QT) (E : ET) (τ : Tau) (H : Heap) : Prop := mP (τ 0) fun x0 => mI .u8 (τ 3) fun x3 => mI .u8 (τ 23) fun x23 => mB (τ 38) fun x38 => ul_53 Q E x0 x3 x23 x38 H

theorem ul_54ok (Q : QT) (E : ET) (τ : Tau) (H : Heap) (h : ul_53_M Q E τ H) : vc Pr ul_p17 τ (ul_q3 Q E) E H :=
  vP (i := 0) h (fun x0 h => vI (i := 3) h (fun x3 h => vI (i := 23) h (fun x23 h => vB (i := 38) h (fun x38 h => (conv (B := vc Pr ul_p17 (Tau.upd (Tau.upd (Tau.upd (Tau.upd τ 0 (.pointer x0)) 3 (.int .u8 x3)) 23 (.int .u8 x23)) 38 (.bool x38)) (ul_q3 Q E) E H) (by kernel_rfl) (sel_map (ul_10ok Q E (Tau.upd (Tau.upd (Tau.upd (Tau.upd τ 0 (.pointer x0)) 3 (.int .u8 x3)) 23 (.int .u8 x23)) 38 (.bool x38)) H) (ul_52ok Q E (Tau.upd (Tau.upd (Tau.upd (Tau.upd τ 0 (.pointer x0)) 3 (.int .u8 x3)) 23 (.int .u8 x23)) 38 (.bool x38)) H) (conv (B := sel x38 (ul_9_M Q E (Tau.upd (Tau.upd (Tau.upd (Tau.upd τ 0 (.pointer x0)) 3 (.int .u8 x3)) 23 (.int .u8 x23)) 38 (.bool x38)) H) (ul_50_M Q E (Tau.upd (Tau.upd (Tau.upd (Tau.upd τ 0 (.pointer x0)) 3 (.int .u8 x3)) 23 (.int .u8 x23)) 38 (.bool x38)) H)) (by kernel_rfl) h)))))))

@[reducible] noncomputable def ul_q12 (Q : QT) (E : ET) : Exit → Tau → Heap → Prop := (xthen (ul_53_M Q E) (ul_q3 Q E))

@[reducible] noncomputable def ul_p44 : Code := sA ul_p16

def ul_55 (Q : QT) (E : ET) (x0 : OA) (x3 : Int) (x23 : Int) (H : Heap) : Prop :=
 ul_53 Q E x0 x3 x23 ((x23 : Int) == 92) H

def ul_55_M (Q : QT) (E : ET) (τ : Tau) (H : Heap) : Prop := mP (τ 0) fun x0 => mI .u8 (τ 3) fun x3 => mI .u8 (τ 23) fun x23 => ul_55 Q E x0 x3 x23 H

theorem ul_56ok (Q : QT) (E : ET) (τ : Tau) (H : Heap) (h : ul_55_M Q E τ H) : vc Pr ul_p44 τ (ul_q12 Q E) E H :=
  vP (i := 0) h (fun x0 h => vI (i := 3) h (fun x3 h => vI (i := 23) h (fun x23 h => (conv (by kernel_rfl) h))))

theorem ul_57ok (Q : QT) (E : ET) (τ : Tau) (H : Heap) (h : ul_55_M Q E τ H) : vc Pr ul_p16 τ (ul_q3 Q E) E H :=
  (conv (B := vc Pr ul_p16 τ (ul_q3 Q E) E H) (by kernel_rfl) (vc_seq (K := (ul_53_M Q E)) (ul_56ok Q E τ H h) (ul_54ok Q E)))

def ul_58 (Q : QT) (E : ET) (x0 : OA) (x3 : Int) (x23 : Int) (x34 : Bool) (H : Heap) : Prop :=
 sel x34
 (ul_7 Q E  H)
 (ul_55 Q E x0 x3 x23 H)

def ul_58_M (Q : QT) (E : ET) (τ : Tau) (H : Heap) : Prop := mP (τ 0) fun x0 => mI .u8 (τ 3) fun x3 => mI .u8 (τ 23) fun x23 => mB (τ 34) fun x34 => ul_58 Q E x0 x3 x23 x34 H

theorem ul_59ok (Q : QT) (E : ET) (τ : Tau) (H : Heap) (h : ul_58_M Q E τ H) : vc Pr ul_p14 τ (ul_q3 Q E) E H :=
  vP (i := 0) h (fun x0 h => vI (i := 3) h (fun x3 h => vI (i := 23) h (fun x23 h => vB (i := 34) h (fun x34 h => (conv (B := vc Pr ul_p14 (Tau.upd (Tau.upd (Tau.upd (Tau.upd τ 0 (.pointer x0)) 3 (.int .u8 x3)) 23 (.int .u8 x23)) 34 (.bool x34)) (ul_q3 Q E) E H) (by kernel_rfl) (sel_map (ul_8ok Q E (Tau.upd (Tau.upd (Tau.upd (Tau.upd τ 0 (.pointer x0)) 3 (.int .u8 x3)) 23 (.int .u8 x23)) 34 (.bool x34)) H) (ul_57ok Q E (Tau.upd (Tau.upd (Tau.upd (Tau.upd τ 0 (.pointer x0)) 3 (.int .u8 x3)) 23 (.int .u8 x23)) 34 (.bool x34)) H) (conv (B := sel x34 (ul_7_M Q E (Tau.upd (Tau.upd (Tau.upd (Tau.upd τ 0 (.pointer x0)) 3 (.int .u8 x3)) 23 (.int .u8 x23)) 34 (.bool x34)) H) (ul_55_M Q E (Tau.upd (Tau.upd (Tau.upd (Tau.upd τ 0 (.pointer x0)) 3 (.int .u8 x3)) 23 (.int .u8 x23)) 34 (.bool x34)) H)) (by kernel_rfl) h)))))))

@[reducible] noncomputable def ul_q13 (Q : QT) (E : ET) : Exit → Tau → Heap → Prop := (xthen (ul_58_M Q E) (ul_q3 Q E))

@[reducible] noncomputable def ul_p45 : Code := sA ul_p13

def ul_60 (Q : QT) (E : ET) (x0 : OA) (x3 : Int) (x23 : Int) (H : Heap) : Prop :=
 ul_58 Q E x0 x3 x23 ((x23 : Int) == 36) H

def ul_60_M (Q : QT) (E : ET) (τ : Tau) (H : Heap) : Prop := mP (τ 0) fun x0 => mI .u8 (τ 3) fun x3 => mI .u8 (τ 23) fun x23 => ul_60 Q E x0 x3 x23 H

theorem ul_61ok (Q : QT) (E : ET) (τ : Tau) (H : Heap) (h : ul_60_M Q E τ H) : vc Pr ul_p45 τ (ul_q13 Q E) E H :=
  vP (i := 0) h (fun x0 h => vI (i := 3) h (fun x3 h => vI (i := 23) h (fun x23 h => (conv (by kernel_rfl) h))))

theorem ul_62ok (Q : QT) (E : ET) (τ : Tau) (H : Heap) (h : ul_60_M Q E τ H) : vc Pr ul_p13 τ (ul_q3 Q E) E H :=
  (conv (B := vc Pr ul_p13 τ (ul_q3 Q E) E H) (by kernel_rfl) (vc_seq (K := (ul_58_M Q E)) (ul_61ok Q E τ H h) (ul_59ok Q E)))

def ul_63 (Q : QT) (E : ET) (x0 : OA) (x3 : Int) (x23 : Int) (x30 : Bool) (H : Heap) : Prop :=
 sel x30
 (ul_5 Q E  H)
 (ul_60 Q E x0 x3 x23 H)

def ul_63_M (Q : QT) (E : ET) (τ : Tau) (H : Heap) : Prop := mP (τ 0) fun x0 => mI .u8 (τ 3) fun x3 => mI .u8 (τ 23) fun x23 => mB (τ 30) fun x30 => ul_63 Q E x0 x3 x23 x30 H

theorem ul_64ok (Q : QT) (E : ET) (τ : Tau) (H : Heap) (h : ul_63_M Q E τ H) : vc Pr ul_p11 τ (ul_q3 Q E) E H :=
  vP (i := 0) h (fun x0 h => vI (i := 3) h (fun x3 h => vI (i := 23) h (fun x23 h => vB (i := 30) h (fun x30 h => (conv (B := vc Pr ul_p11 (Tau.upd (Tau.upd (Tau.upd (Tau.upd τ 0 (.pointer x0)) 3 (.int .u8 x3)) 23 (.int .u8 x23)) 30 (.bool x30)) (ul_q3 Q E) E H) (by kernel_rfl) (sel_map (ul_6ok Q E (Tau.upd (Tau.upd (Tau.upd (Tau.upd τ 0 (.pointer x0)) 3 (.int .u8 x3)) 23 (.int .u8 x23)) 30 (.bool x30)) H) (ul_62ok Q E (Tau.upd (Tau.upd (Tau.upd (Tau.upd τ 0 (.pointer x0)) 3 (.int .u8 x3)) 23 (.int .u8 x23)) 30 (.bool x30)) H) (conv (B := sel x30 (ul_5_M Q E (Tau.upd (Tau.upd (Tau.upd (Tau.upd τ 0 (.pointer x0)) 3 (.int .u8 x3)) 23 (.int .u8 x23)) 30 (.bool x30)) H) (ul_60_M Q E (Tau.upd (Tau.upd (Tau.upd (Tau.upd τ 0 (.pointer x0)) 3 (.int .u8 x3)) 23 (.int .u8 x23)) 30 (.bool x30)) H)) (by kernel_rfl) h)))))))

@[reducible] noncomputable def ul_q14 (Q : QT) (E : ET) : Exit → Tau → Heap → Prop := (xthen (ul_63_M Q E) (ul_q3 Q E))

@[reducible] noncomputable def ul_p46 : Code := sA ul_p10

def ul_65 (Q : QT) (E : ET) (x0 : OA) (x3 : Int) (x23 : Int) (H : Heap) : Prop :=
 ul_63 Q E x0 x3 x23 ((x23 : Int) == 94) H

def ul_65_M (Q : QT) (E : ET) (τ : Tau) (H : Heap) : Prop := mP (τ 0) fun x0 => mI .u8 (τ 3) fun x3 => mI .u8 (τ 23) fun x23 => ul_65 Q E x0 x3 x23 H

theorem ul_66ok (Q : QT) (E : ET) (τ : Tau) (H : Heap) (h : ul_65_M Q E τ H) : vc Pr ul_p46 τ (ul_q14 Q E) E H :=
  vP (i := 0) h (fun x0 h => vI (i := 3) h (fun x3 h => vI (i := 23) h (fun x23 h => (conv (by kernel_rfl) h))))

theorem ul_67ok (Q : QT) (E : ET) (τ : Tau) (H : Heap) (h : ul_65_M Q E τ H) : vc Pr ul_p10 τ (ul_q3 Q E) E H :=
  (conv (B := vc Pr ul_p10 τ (ul_q3 Q E) E H) (by kernel_rfl) (vc_seq (K := (ul_63_M Q E)) (ul_66ok Q E τ H h) (ul_64ok Q E)))

def ul_68 (Q : QT) (E : ET) (x0 : OA) (x3 : Int) (x23 : Int) (x24 : Bool) (H : Heap) : Prop :=
 sel x24
 (ul_3 Q E  H)
 (ul_65 Q E x0 x3 x23 H)

def ul_68_M (Q : QT) (E : ET) (τ : Tau) (H : Heap) : Prop := mP (τ 0) fun x0 => mI .u8 (τ 3) fun x3 => mI .u8 (τ 23) fun x23 => mB (τ 24) fun x24 => ul_68 Q E x0 x3 x23 x24 H

theorem ul_69ok (Q : QT) (E : ET) (τ : Tau) (H : Heap) (h : ul_68_M Q E τ H) : vc Pr ul_p8 τ (ul_q3 Q E) E H :=
  vP (i := 0) h (fun x0 h => vI (i := 3) h (fun x3 h => vI (i := 23) h (fun x23 h => vB (i := 24) h (fun x24 h => (conv (B := vc Pr ul_p8 (Tau.upd (Tau.upd (Tau.upd (Tau.upd τ 0 (.pointer x0)) 3 (.int .u8 x3)) 23 (.int .u8 x23)) 24 (.bool x24)) (ul_q3 Q E) E H) (by kernel_rfl) (sel_map (ul_4ok Q E (Tau.upd (Tau.upd (Tau.upd (Tau.upd τ 0 (.pointer x0)) 3 (.int .u8 x3)) 23 (.int .u8 x23)) 24 (.bool x24)) H) (ul_67ok Q E (Tau.upd (Tau.upd (Tau.upd (Tau.upd τ 0 (.pointer x0)) 3 (.int .u8 x3)) 23 (.int .u8 x23)) 24 (.bool x24)) H) (conv (B := sel x24 (ul_3_M Q E (Tau.upd (Tau.upd (Tau.upd (Tau.upd τ 0 (.pointer x0)) 3 (.int .u8 x3)) 23 (.int .u8 x23)) 24 (.bool x24)) H) (ul_65_M Q E (Tau.upd (Tau.upd (Tau.upd (Tau.upd τ 0 (.pointer x0)) 3 (.int .u8 x3)) 23 (.int .u8 x23)) 24 (.bool x24)) H)) (by kernel_rfl) h)))))))

@[reducible] noncomputable def ul_q15 (Q : QT) (E : ET) : Exit → Tau → Heap → Prop := (xthen (ul_68_M Q E) (ul_q3 Q E))

@[reducible] noncomputable def ul_p47 : Code := sA ul_p7

def ul_70 (Q : QT) (E : ET) (x0 : OA) (x3 : Int) (x23 : Int) (H : Heap) : Prop :=
 ul_68 Q E x0 x3 x23 ((x23 : Int) == 46) H

def ul_70_M (Q : QT) (E : ET) (τ : Tau) (H : Heap) : Prop := mP (τ 0) fun x0 => mI .u8 (τ 3) fun x3 => mI .u8 (τ 23) fun x23 => ul_70 Q E x0 x3 x23 H

theorem ul_71ok (Q : QT) (E : ET) (τ : Tau) (H : Heap) (h : ul_70_M Q E τ H) : vc Pr ul_p47 τ (ul_q15 Q E) E H :=
  vP (i := 0) h (fun x0 h => vI (i := 3) h (fun x3 h => vI (i := 23) h (fun x23 h => (conv (by kernel_rfl) h))))

theorem ul_72ok (Q : QT) (E : ET) (τ : Tau) (H : Heap) (h : ul_70_M Q E τ H) : vc Pr ul_p7 τ (ul_q3 Q E) E H :=
  (conv (B := vc Pr ul_p7 τ (ul_q3 Q E) E H) (by kernel_rfl) (vc_seq (K := (ul_68_M Q E)) (ul_71ok Q E τ H h) (ul_69ok Q E)))

theorem ul_73ok (Q : QT) (E : ET) (τ : Tau) (H : Heap) (h : ul_70_M Q E τ H) : vc Pr ul_p6 τ (ul_q2 Q E) E H :=
  (conv (B := vc Pr ul_p6 τ (ul_q2 Q E) E H) (by kernel_rfl) (ul_72ok Q E τ H h))

@[reducible] noncomputable def ul_q16 (Q : QT) (E : ET) : Exit → Tau → Heap → Prop := (xthen (ul_70_M Q E) (ul_q2 Q E))

@[reducible] noncomputable def ul_p48 : Code := sA ul_p5

def ul_74 (Q : QT) (E : ET) (x0 : OA) (x3 : Int) (H : Heap) : Prop :=
 ul_70 Q E x0 x3 x3 H

def ul_74_M (Q : QT) (E : ET) (τ : Tau) (H : Heap) : Prop := mP (τ 0) fun x0 => mI .u8 (τ 3) fun x3 => ul_74 Q E x0 x3 H

theorem ul_75ok (Q : QT) (E : ET) (τ : Tau) (H : Heap) (h : ul_74_M Q E τ H) : vc Pr ul_p48 τ (ul_q16 Q E) E H :=
  vP (i := 0) h (fun x0 h => vI (i := 3) h (fun x3 h => (conv (by kernel_rfl) h)))

theorem ul_76ok (Q : QT) (E : ET) (τ : Tau) (H : Heap) (h : ul_74_M Q E τ H) : vc Pr ul_p5 τ (ul_q2 Q E) E H :=
  (conv (B := vc Pr ul_p5 τ (ul_q2 Q E) E H) (by kernel_rfl) (vc_seq (K := (ul_70_M Q E)) (ul_75ok Q E τ H h) (ul_73ok Q E)))

theorem ul_77ok (Q : QT) (E : ET) (τ : Tau) (H : Heap) (h : ul_74_M Q E τ H) : vc Pr ul_p3 τ (ul_q1 Q E) E H :=
  (conv (B := vc Pr ul_p3 τ (ul_q1 Q E) E H) (by kernel_rfl) (vc_seq (K := (ul_1_M Q E)) (ul_76ok Q E τ H h) (ul_2ok Q E)))

@[reducible] noncomputable def ul_q17 (Q : QT) (E : ET) : Exit → Tau → Heap → Prop := (xthen (ul_74_M Q E) (ul_q1 Q E))

@[reducible] noncomputable def ul_p49 : Code := sA ul_p2

def ul_78 (Q : QT) (E : ET) (x0 : OA) (x3 : Int) (H : Heap) : Prop :=
 ptr x0 fun q227 =>
 ldI .i64 (Addr.add q227 1) H fun n228 =>
 ptr x0 fun q229 =>
 wr (Addr.add q229 1) [(.int .i64 (IntKind.wrap .i64 (n228 + 1)))] H fun H230 =>
 ul_74 Q E x0 x3 H230

def ul_78_M (Q : QT) (E : ET) (τ : Tau) (H : Heap) : Prop := mP (τ 0) fun x0 => mI .u8 (τ 3) fun x3 => ul_78 Q E x0 x3 H

theorem ul_79ok (Q : QT) (E : ET) (τ : Tau) (H : Heap) (h : ul_78_M Q E τ H) : vc Pr ul_p49 τ (ul_q17 Q E) E H :=
  vP (i := 0) h (fun x0 h => vI (i := 3) h (fun x3 h => (conv (by kernel_rfl) h)))

theorem ul_80ok (Q : QT) (E : ET) (τ : Tau) (H : Heap) (h : ul_78_M Q E τ H) : vc Pr ul_p2 τ (ul_q1 Q E) E H :=
  (conv (B := vc Pr ul_p2 τ (ul_q1 Q E) E H) (by kernel_rfl) (vc_seq (K := (ul_74_M Q E)) (ul_79ok Q E τ H h) (ul_77ok Q E)))

@[reducible] noncomputable def ul_q18 (Q : QT) (E : ET) : Exit → Tau → Heap → Prop := (xthen (ul_78_M Q E) (ul_q1 Q E))

@[reducible] noncomputable def ul_p50 : Code := sA ul_p1

def ul_81 (Q : QT) (E : ET) (x0 : OA) (H : Heap) : Prop :=
 ptr x0 fun q231 =>
 ldS q231 H fun s232 =>
 ptr x0 fun q233 =>
 ldI .i64 (Addr.add q233 1) H fun n234 =>
 (0 ≤ (n234 : Int) ∧ (n234 : Int) < ((ByteArray.size s232 : Nat) : Int)) ∧ ul_78 Q E x0 (sAt s232 n234) H

def ul_81_M (Q : QT) (E : ET) (τ : Tau) (H : Heap) : Prop := mP (τ 0) fun x0 => ul_81 Q E x0 H

theorem ul_82ok (Q : QT) (E : ET) (τ : Tau) (H : Heap) (h : ul_81_M Q E τ H) : vc Pr ul_p50 τ (ul_q18 Q E) E H :=
  vP (i := 0) h (fun x0 h => (conv (by kernel_rfl) h))

theorem ul_83ok (Q : QT) (E : ET) (τ : Tau) (H : Heap) (h : ul_81_M Q E τ H) : vc Pr ul_p1 τ (ul_q1 Q E) E H :=
  (conv (B := vc Pr ul_p1 τ (ul_q1 Q E) E H) (by kernel_rfl) (vc_seq (K := (ul_78_M Q E)) (ul_82ok Q E τ H h) (ul_80ok Q E)))

@[reducible] noncomputable def ul_q19 (Q : QT) (E : ET) : Exit → Tau → Heap → Prop := (xthen (ul_81_M Q E) (ul_q1 Q E))

@[reducible] noncomputable def ul_p51 : Code := sA ul_p0

def ul (Q : QT) (E : ET) (a0 : OA) (H : Heap) : Prop :=
 ul_81 Q E a0 H

theorem ul_fn (a0 : OA) (Q : QT) (E : ET) (H : Heap) (h : ul Q E a0 H)   : Does Pr 105 #[(.pointer a0)] H Q E :=
  Fn_of_vc (fn := Try.f105) (c := ul_p0) (args := [(.pointer a0)]) mixed (by kernel_rfl) (by kernel_rfl) (by kernel_rfl) (by kernel_rfl) (by kernel_rfl) ((conv (B := vc Pr ul_p0 (argT [(.pointer a0)]) (ul_q1 Q E) E H) (by kernel_rfl) (vc_seq (K := (ul_81_M Q E)) (conv (B := vc Pr ul_p51 (argT [(.pointer a0)]) (ul_q19 Q E) E H) (by kernel_rfl) h) (ul_83ok Q E))))

/-! jobmux/jobmuxref08.Not -/
@[reducible] noncomputable def um_q1 (Q : QT) (E : ET) : Exit → Tau → Heap → Prop := (retQ Pr (Try.f107).results.toList Q)

@[reducible] noncomputable def um_p0 : Code := bodyOf Try.f107

@[reducible] noncomputable def um_p1 : Code := sB um_p0

@[reducible] noncomputable def um_p2 : Code := sB um_p1

def um_1 (Q : QT) (E : ET) (x1 : OA) (x2 : OA) (H : Heap) : Prop :=
 ptr x1 fun q7 =>
 ∃ n8 n9 n10 n11 : Int, Heap.rd H q7 0 [(.int .u64 n8), (.int .u64 n9), (.int .u64 n10), (.int .u64 n11)] ∧ ptr x2 fun q13 =>
 wr q13 [(.int .u64 n8), (.int .u64 n9), (.int .u64 n10), (.int .u64 n11)] H fun H12 =>
 ptr x2 fun q14 =>
 ∃ n15 n16 n17 n18 : Int, Heap.rd H12 q14 0 [(.int .u64 n15), (.int .u64 n16), (.int .u64 n17), (.int .u64 n18)] ∧ Q (.agg #[(.int .u64 n15), (.int .u64 n16), (.int .u64 n17), (.int .u64 n18)]) H12

def um_1_M (Q : QT) (E : ET) (τ : Tau) (H : Heap) : Prop := mP (τ 1) fun x1 => mP (τ 2) fun x2 => um_1 Q E x1 x2 H

theorem um_2ok (Q : QT) (E : ET) (τ : Tau) (H : Heap) (h : um_1_M Q E τ H) : vc Pr um_p2 τ (um_q1 Q E) E H :=
  vP (i := 1) h (fun x1 h => vP (i := 2) h (fun x2 h => (conv (by kernel_rfl) h)))

@[reducible] noncomputable def um_q2 (Q : QT) (E : ET) : Exit → Tau → Heap → Prop := (xthen (um_1_M Q E) (um_q1 Q E))

@[reducible] noncomputable def um_p3 : Code := sA um_p1

@[reducible] noncomputable def um_p4 : Code := sB um_p3

@[reducible] noncomputable def um_q3 (Q : QT) (E : ET) : Exit → Tau → Heap → Prop := (xblock 0 (um_q2 Q E))

@[reducible] noncomputable def um_p5 : Code := sI um_p4

@[reducible] noncomputable def um_q4 (nx19 : Int → HP) (Q : QT) (E : ET) : Exit → Tau → Heap → Prop := (xthen (fun τ H => mI .i64 (τ 3) fun x3' => nx19 x3' H) (um_q3 Q E))

@[reducible] noncomputable def um_p6 : Code := sI um_p5

@[reducible] noncomputable def um_p7 : Code := sB um_p6

def um_3 (nx19 : Int → HP) (Q : QT) (E : ET) (x1 : OA) (x2 : OA) (x3 : Int) (H : Heap) : Prop :=
 ptr x1 fun q20 =>
 (0 ≤ (x3 : Int) ∧ (x3 : Int) < ((4 : Nat) : Int)) ∧ ldI .u64 (Addr.add q20 ((x3 : Int).toNat * 1)) H fun n21 =>
 ptr x1 fun q22 =>
 (0 ≤ (x3 : Int) ∧ (x3 : Int) < ((4 : Nat) : Int)) ∧ wr (Addr.add q22 ((x3 : Int).toNat * 1)) [(.int .u64 (IntKind.wrap .u64 (BitVec.ofInt (IntKind.bits .u64) (if IntKind.signed .u64 then -1 else IntKind.max .u64) ^^^ BitVec.ofInt (IntKind.bits .u64) n21).toNat))] H fun H23 =>
 nx19 (IntKind.wrap .i64 (x3 + 1)) H23

def um_3_M (nx19 : Int → HP) (Q : QT) (E : ET) (τ : Tau) (H : Heap) : Prop := mP (τ 1) fun x1 => mP (τ 2) fun x2 => mI .i64 (τ 3) fun x3 => um_3 nx19 Q E x1 x2 x3 H

theorem um_4ok (nx19 : Int → HP) (Q : QT) (E : ET) (τ : Tau) (H : Heap) (h : um_3_M nx19 Q E τ H) : vc Pr um_p7 τ (um_q4 nx19 Q E) E H :=
  vP (i := 1) h (fun x1 h => vP (i := 2) h (fun x2 h => vI (i := 3) h (fun x3 h => (conv (by kernel_rfl) h))))

@[reducible] noncomputable def um_q5 (nx19 : Int → HP) (Q : QT) (E : ET) : Exit → Tau → Heap → Prop := (xthen (um_3_M nx19 Q E) (um_q4 nx19 Q E))

@[reducible] noncomputable def um_p8 : Code := sA um_p6

def um_5 (nx19 : Int → HP) (Q : QT) (E : ET) (x1 : OA) (x2 : OA) (x3 : Int) (H : Heap) : Prop :=
 sel (decide ((x3 : Int) < 4))
 (um_3 nx19 Q E x1 x2 x3 H)
 (um_1 Q E x1 x2 H)

def um_5_M (nx19 : Int → HP) (Q : QT) (E : ET) (τ : Tau) (H : Heap) : Prop := mP (τ 1) fun x1 => mP (τ 2) fun x2 => mI .i64 (τ 3) fun x3 => um_5 nx19 Q E x1 x2 x3 H

theorem um_6ok (nx19 : Int → HP) (Q : QT) (E : ET) (τ : Tau) (H : Heap) (h : um_5_M nx19 Q E τ H) : vc Pr um_p8 τ (um_q5 nx19 Q E) E H :=
  vP (i := 1) h (fun x1 h => vP (i := 2) h (fun x2 h => vI (i := 3) h (fun x3 h => (conv (by kernel_rfl) h))))

theorem um_7ok (nx19 : Int → HP) (Q : QT) (E : ET) (τ : Tau) (H : Heap) (h : um_5_M nx19 Q E τ H) : vc Pr um_p6 τ (um_q4 nx19 Q E) E H :=
  (conv (B := vc Pr um_p6 τ (um_q4 nx19 Q E) E H) (by kernel_rfl) (vc_seq (K := (um_3_M nx19 Q E)) (um_6ok nx19 Q E τ H h) (um_4ok nx19 Q E)))

def um_8 (Q : QT) (E : ET) (x1 : OA) (x2 : OA) (x3 : Int) (H : Heap) : Prop :=
 ∃ (I : Int → HP) (μ : Int → Heap → Nat), I x3 H ∧ ∀ (x3 : Int) (H : Heap), I x3 H →
 um_5 (fun x3' H1 => I x3' H1 ∧ μ x3' H1 < μ x3 H) Q E x1 x2 x3 H

def um_8_M (Q : QT) (E : ET) (τ : Tau) (H : Heap) : Prop := mP (τ 1) fun x1 => mP (τ 2) fun x2 => mI .i64 (τ 3) fun x3 => um_8 Q E x1 x2 x3 H

theorem um_9ok (Q : QT) (E : ET) (τ : Tau) (H : Heap) (h : um_8_M Q E τ H) : vc Pr um_p5 τ (um_q3 Q E) E H :=
  vP (i := 1) h (fun x1 h => vP (i := 2) h (fun x2 h => vI (i := 3) h (fun x3 h => match h with | ⟨I, μ, h0, hr⟩ => (conv (B := vc Pr um_p5 (Tau.upd (Tau.upd (Tau.upd τ 1 (.pointer x1)) 2 (.pointer x2)) 3 (.int .i64 x3)) (um_q3 Q E) E H) (by kernel_rfl) (vc_loop (c := sI um_p5) (τ := (Tau.upd (Tau.upd (Tau.upd τ 1 (.pointer x1)) 2 (.pointer x2)) 3 (.int .i64 x3))) [1, 2] (fun τ H => mI .i64 (τ 3) fun x3' => I x3' H) (fun τ H => μ (gI (τ 3)) H) (by kernel_rfl) h0 (fun τ1 H1 hf hI => fix_elim (τ := τ1) (i := 1) (v := (.pointer x1)) (G := fun τ => vc Pr (sI um_p5) τ (xthen (fun τ2 H2 => (mI .i64 (τ2 3) fun x3' => I x3' H2) ∧ μ (gI (τ2 3)) H2 < μ (gI (τ 3)) H1) (um_q3 Q E)) E H1) (hf 1 (by simp)) (fix_elim (τ := (Tau.upd τ1 1 (.pointer x1))) (i := 2) (v := (.pointer x2)) (G := fun τ => vc Pr (sI um_p5) τ (xthen (fun τ2 H2 => (mI .i64 (τ2 3) fun x3' => I x3' H2) ∧ μ (gI (τ2 3)) H2 < μ (gI (τ 3)) H1) (um_q3 Q E)) E H1) (hf 2 (by simp)) (mI_elim (i := 3) (G := fun τ => vc Pr (sI um_p5) τ (xthen (fun τ2 H2 => (mI .i64 (τ2 3) fun x3' => I x3' H2) ∧ μ (gI (τ2 3)) H2 < μ (gI (τ 3)) H1) (um_q3 Q E)) E H1) hI (fun x3r h => (conv (B := vc Pr (sI um_p5) (Tau.upd (Tau.upd (Tau.upd τ1 1 (.pointer x1)) 2 (.pointer x2)) 3 (.int .i64 x3r)) (xthen (fun τ2 H2 => (mI .i64 (τ2 3) fun x3' => I x3' H2) ∧ μ (gI (τ2 3)) H2 < μ (gI ((Tau.upd (Tau.upd (Tau.upd τ1 1 (.pointer x1)) 2 (.pointer x2)) 3 (.int .i64 x3r)) 3)) H1) (um_q3 Q E)) E H1) (by kernel_rfl) (vc_xthen (um_7ok (fun x3' H2 => I x3' H2 ∧ μ x3' H2 < μ x3r H1) Q E (Tau.upd (Tau.upd (Tau.upd τ1 1 (.pointer x1)) 2 (.pointer x2)) 3 (.int .i64 x3r)) H1 (conv (B := um_5_M (fun x3' H2 => I x3' H2 ∧ μ x3' H2 < μ x3r H1) Q E (Tau.upd (Tau.upd (Tau.upd τ1 1 (.pointer x1)) 2 (.pointer x2)) 3 (.int .i64 x3r)) H1) (by kernel_rfl) (hr x3r H1 h))) (fun τ2 H2 hk => mI_elim (i := 3) (G := fun τ => (mI .i64 (τ 3) fun x3' => I x3' H2) ∧ μ (gI (τ 3)) H2 < μ x3r H1) hk (fun x3' h => h)))))))))))))

theorem um_10ok (Q : QT) (E : ET) (τ : Tau) (H : Heap) (h : um_8_M Q E τ H) : vc Pr um_p4 τ (um_q2 Q E) E H :=
  (conv (B := vc Pr um_p4 τ (um_q2 Q E) E H) (by kernel_rfl) (um_9ok Q E τ H h))

@[reducible] noncomputable def um_q6 (Q : QT) (E : ET) : Exit → Tau → Heap → Prop := (xthen (um_8_M Q E) (um_q2 Q E))

@[reducible] noncomputable def um_p9 : Code := sA um_p3

def um_11 (Q : QT) (E : ET) (x1 : OA) (x2 : OA) (H : Heap) : Prop :=
 um_8 Q E x1 x2 0 H

def um_11_M (Q : QT) (E : ET) (τ : Tau) (H : Heap) : Prop := mP (τ 1) fun x1 => mP (τ 2) fun x2 => um_11 Q E x1 x2 H

theorem um_12ok (Q : QT) (E : ET) (τ : Tau) (H : Heap) (h : um_11_M Q E τ H) : vc Pr um_p9 τ (um_q6 Q E) E H :=
  vP (i := 1) h (fun x1 h => vP (i := 2) h (fun x2 h => (conv (by kernel_rfl) h)))

theorem um_13ok (Q : QT) (E : ET) (τ : Tau) (H : Heap) (h : um_11_M Q E τ H) : vc Pr um_p3 τ (um_q2 Q E) E H :=
  (conv (B := vc Pr um_p3 τ (um_q2 Q E) E H) (by kernel_rfl) (vc_seq (K := (um_8_M Q E)) (um_12ok Q E τ H h) (um_10ok Q E)))

theorem um_14ok (Q : QT) (E : ET) (τ : Tau) (H : Heap) (h : um_11_M Q E τ H) : vc Pr um_p1 τ (um_q1 Q E) E H :=
  (conv (B := vc Pr um_p1 τ (um_q1 Q E) E H) (by kernel_rfl) (vc_seq (K := (um_1_M Q E)) (um_13ok Q E τ H h) (um_2ok Q E)))

@[reducible] noncomputable def um_q7 (Q : QT) (E : ET) : Exit → Tau → Heap → Prop := (xthen (um_11_M Q E) (um_q1 Q E))

@[reducible] noncomputable def um_p10 : Code := sA um_p0

def um (Q : QT) (E : ET) (a0_0 : Int) (a0_1 : Int) (a0_2 : Int) (a0_3 : Int) (H : Heap) : Prop :=
 nw (.cells #[(.int .u64 a0_0), (.int .u64 a0_1), (.int .u64 a0_2), (.int .u64 a0_3)] 46 (0, 0)) H fun i24 H25 =>
 nw (.cells #[(.int .u64 0), (.int .u64 0), (.int .u64 0), (.int .u64 0)] 46 (0, 0)) H25 fun i26 H27 =>
 um_11 Q E (some ⟨i24, 0, none⟩) (some ⟨i26, 0, none⟩) H27

theorem um_fn (a0_0 : Int) (a0_1 : Int) (a0_2 : Int) (a0_3 : Int) (Q : QT) (E : ET) (H : Heap) (h : um Q E a0_0 a0_1 a0_2 a0_3 H)   : Does Pr 107 #[(.agg #[(.int .u64 a0_0), (.int .u64 a0_1), (.int .u64 a0_2), (.int .u64 a0_3)])] H Q E :=
  Fn_of_vc (fn := Try.f107) (c := um_p0) (args := [(.agg #[(.int .u64 a0_0), (.int .u64 a0_1), (.int .u64 a0_2), (.int .u64 a0_3)])]) mixed (by kernel_rfl) (by kernel_rfl) (by kernel_rfl) (by kernel_rfl) (by kernel_rfl) ((conv (B := vc Pr um_p0 (argT [(.agg #[(.int .u64 a0_0), (.int .u64 a0_1), (.int .u64 a0_2), (.int .u64 a0_3)])]) (um_q1 Q E) E H) (by kernel_rfl) (vc_seq (K := (um_11_M Q E)) (conv (B := vc Pr um_p10 (argT [(.agg #[(.int .u64 a0_0), (.int .u64 a0_1), (.int .u64 a0_2), (.int .u64 a0_3)])]) (um_q7 Q E) E H) (by kernel_rfl) h) (um_14ok Q E))))

/-! jobmux/jobmuxref08.With -/
@[reducible] noncomputable def un_q1 (Q : QT) (E : ET) : Exit → Tau → Heap → Prop := (retQ Pr (Try.f108).results.toList Q)

@[reducible] noncomputable def un_p0 : Code := bodyOf Try.f108

def un (Q : QT) (E : ET) (a0_0 : Int) (a0_1 : Int) (a0_2 : Int) (a0_3 : Int) (a1 : Int) (H : Heap) : Prop :=
 nw (.cells #[(.int .u64 a0_0), (.int .u64 a0_1), (.int .u64 a0_2), (.int .u64 a0_3)] 46 (0, 0)) H fun i1 H2 =>
 nw (.cells #[(.int .u64 0), (.int .u64 0), (.int .u64 0), (.int .u64 0)] 46 (0, 0)) H2 fun i3 H4 =>
 (64 : Int) ≠ 0 ∧ (64 : Int) ≠ 0 ∧ (0 ≤ ((IntKind.wrap .u8 (Int.tdiv a1 64)) : Int) ∧ ((IntKind.wrap .u8 (Int.tdiv a1 64)) : Int) < ((4 : Nat) : Int)) ∧ ldI .u64 (Addr.add ⟨i1, 0, none⟩ (((IntKind.wrap .u8 (Int.tdiv a1 64)) : Int).toNat * 1)) H4 fun n5 =>
 (64 : Int) ≠ 0 ∧ 0 ≤ ((Int.tmod a1 64) : Int) ∧ (0 ≤ ((IntKind.wrap .u8 (Int.tdiv a1 64)) : Int) ∧ ((IntKind.wrap .u8 (Int.tdiv a1 64)) : Int) < ((4 : Nat) : Int)) ∧ wr (Addr.add ⟨i1, 0, none⟩ (((IntKind.wrap .u8 (Int.tdiv a1 64)) : Int).toNat * 1)) [(.int .u64 (IntKind.wrap .u64 (BitVec.ofInt (IntKind.bits .u64) n5 ||| BitVec.ofInt (IntKind.bits .u64) (IntKind.wrap .u64 (1 * 2 ^ min ((Int.tmod a1 64) : Int).toNat (IntKind.bits .u64)))).toNat))] H4 fun H6 =>
 ∃ n7 n8 n9 n10 : Int, Heap.rd H6 ⟨i1, 0, none⟩ 0 [(.int .u64 n7), (.int .u64 n8), (.int .u64 n9), (.int .u64 n10)] ∧ wr ⟨i3, 0, none⟩ [(.int .u64 n7), (.int .u64 n8), (.int .u64 n9), (.int .u64 n10)] H6 fun H11 =>
 ∃ n12 n13 n14 n15 : Int, Heap.rd H11 ⟨i3, 0, none⟩ 0 [(.int .u64 n12), (.int .u64 n13), (.int .u64 n14), (.int .u64 n15)] ∧ Q (.agg #[(.int .u64 n12), (.int .u64 n13), (.int .u64 n14), (.int .u64 n15)]) H11

theorem un_fn (a0_0 : Int) (a0_1 : Int) (a0_2 : Int) (a0_3 : Int) (a1 : Int) (Q : QT) (E : ET) (H : Heap) (h : un Q E a0_0 a0_1 a0_2 a0_3 a1 H)   : Does Pr 108 #[(.agg #[(.int .u64 a0_0), (.int .u64 a0_1), (.int .u64 a0_2), (.int .u64 a0_3)]), (.int .u8 a1)] H Q E :=
  Fn_of_vc (fn := Try.f108) (c := un_p0) (args := [(.agg #[(.int .u64 a0_0), (.int .u64 a0_1), (.int .u64 a0_2), (.int .u64 a0_3)]), (.int .u8 a1)]) mixed (by kernel_rfl) (by kernel_rfl) (by kernel_rfl) (by kernel_rfl) (by kernel_rfl) ((conv (B := vc Pr un_p0 (argT [(.agg #[(.int .u64 a0_0), (.int .u64 a0_1), (.int .u64 a0_2), (.int .u64 a0_3)]), (.int .u8 a1)]) (un_q1 Q E) E H) (by kernel_rfl) h))

/-! (*jobmux/jobmuxref08.parser).escape -/
@[reducible] noncomputable def uo_q1 (Q : QT) (E : ET) : Exit → Tau → Heap → Prop := (retQ Pr (Try.f109).results.toList Q)

@[reducible] noncomputable def uo_p0 : Code := bodyOf Try.f109

@[reducible] noncomputable def uo_p1 : Code := sB uo_p0

@[reducible] noncomputable def uo_p2 : Code := sB uo_p1

@[reducible] noncomputable def uo_p3 : Code := sB uo_p2

@[reducible] noncomputable def uo_p4 : Code := sB uo_p3

def uo_1 (Q : QT) (E : ET) (x0 : OA) (x2 : OA) (x4 : OA) (x5 : Bool) (H : Heap) : Prop :=
 ptr x0 fun q27 =>
 ldI .i64 (Addr.add q27 1) H fun n28 =>
 ptr x0 fun q29 =>
 wr (Addr.add q29 1) [(.int .i64 (IntKind.wrap .i64 (n28 + 1)))] H fun H30 =>
 ptr x4 fun q31 =>
 ∃ n32 n33 n34 n35 : Int, Heap.rd H30 q31 0 [(.int .u64 n32), (.int .u64 n33), (.int .u64 n34), (.int .u64 n35)] ∧ ptr x2 fun q37 =>
 wr q37 [(.int .u64 n32), (.int .u64 n33), (.int .u64 n34), (.int .u64 n35)] H30 fun H36 =>
 ptr x2 fun q38 =>
 ∃ n39 n40 n41 n42 : Int, Heap.rd H36 q38 0 [(.int .u64 n39), (.int .u64 n40), (.int .u64 n41), (.int .u64 n42)] ∧ Q (.tuple #[(.agg #[(.int .u64 n39), (.int .u64 n40), (.int .u64 n41), (.int .u64 n42)]), (.bool x5)]) H36

def uo_1_M (Q : QT) (E : ET) (τ : Tau) (H : Heap) : Prop := mP (τ 0) fun x0 => mP (τ 2) fun x2 => mP (τ 4) fun x4 => mB (τ 5) fun x5 => uo_1 Q E x0 x2 x4 x5 H

theorem uo_2ok (Q : QT) (E : ET) (τ : Tau) (H : Heap) (h : uo_1_M Q E τ H) : vc Pr uo_p4 τ (uo_q1 Q E) E H :=
  vP (i := 0) h (fun x0 h => vP (i := 2) h (fun x2 h => vP (i := 4) h (fun x4 h => vB (i := 5) h (fun x5 h => (conv (by kernel_rfl) h)))))

@[reducible] noncomputable def uo_q2 (Q : QT) (E : ET) : Exit → Tau → Heap → Prop := (xthen (uo_1_M Q E) (uo_q1 Q E))

@[reducible] noncomputable def uo_p5 : Code := sA uo_p3

def uo_3 (Q : QT) (E : ET) (x0 : OA) (x2 : OA) (x4 : OA) (x5 : Bool) (x6 : Bool) (H : Heap) : Prop :=
 sel (!x6)
 (Does Pr 57 #[(.pointer x0), (.int .i64 82)] H (fun v43 H44 =>
 uo_1 Q E x0 x2 x4 x5 H44) E)
 (uo_1 Q E x0 x2 x4 x5 H)

def uo_3_M (Q : QT) (E : ET) (τ : Tau) (H : Heap) : Prop := mP (τ 0) fun x0 => mP (τ 2) fun x2 => mP (τ 4) fun x4 => mB (τ 5) fun x5 => mB (τ 6) fun x6 => uo_3 Q E x0 x2 x4 x5 x6 H

theorem uo_4ok (Q : QT) (E : ET) (τ : Tau) (H : Heap) (h : uo_3_M Q E τ H) : vc Pr uo_p5 τ (uo_q2 Q E) E H :=
  vP (i := 0) h (fun x0 h => vP (i := 2) h (fun x2 h => vP (i := 4) h (fun x4 h => vB (i := 5) h (fun x5 h => vB (i := 6) h (fun x6 h => (conv (by kernel_rfl) h))))))

theorem uo_5ok (Q : QT) (E : ET) (τ : Tau) (H : Heap) (h : uo_3_M Q E τ H) : vc Pr uo_p3 τ (uo_q1 Q E) E H :=
  (conv (B := vc Pr uo_p3 τ (uo_q1 Q E) E H) (by kernel_rfl) (vc_seq (K := (uo_1_M Q E)) (uo_4ok Q E τ H h) (uo_2ok Q E)))

@[reducible] noncomputable def uo_q3 (Q : QT) (E : ET) : Exit → Tau → Heap → Prop := (xthen (uo_3_M Q E) (uo_q1 Q E))

@[reducible] noncomputable def uo_p6 : Code := sA uo_p2

def uo_6 (Q : QT) (E : ET) (x0 : OA) (x2 : OA) (H : Heap) : Prop :=
 ptr x0 fun q45 =>
 ldS q45 H fun s46 =>
 ptr x0 fun q47 =>
 ldI .i64 (Addr.add q47 1) H fun n48 =>
 (0 ≤ (n48 : Int) ∧ (n48 : Int) < ((ByteArray.size s46 : Nat) : Int)) ∧ Does Pr 116 #[(.int .u8 (sAt s46 n48))] H (fun v49 H50 =>
 ∃ n51 n52 n53 n54 : Int, ∃ b55 : Bool, ∃ b56 : Bool, v49 = (.tuple #[(.agg #[(.int .u64 n51), (.int .u64 n52), (.int .u64 n53), (.int .u64 n54)]), (.bool b55), (.bool b56)]) ∧ nw (.cells #[(.int .u64 0), (.int .u64 0), (.int .u64 0), (.int .u64 0)] 46 (0, 0)) H50 fun i57 H58 =>
 wr ⟨i57, 0, none⟩ [(.int .u64 n51), (.int .u64 n52), (.int .u64 n53), (.int .u64 n54)] H58 fun H59 =>
 uo_3 Q E x0 x2 (some ⟨i57, 0, none⟩) b55 b56 H59) (fun _ _ => False)

def uo_6_M (Q : QT) (E : ET) (τ : Tau) (H : Heap) : Prop := mP (τ 0) fun x0 => mP (τ 2) fun x2 => uo_6 Q E x0 x2 H

theorem uo_7ok (Q : QT) (E : ET) (τ : Tau) (H : Heap) (h : uo_6_M Q E τ H) : vc Pr uo_p6 τ (uo_q3 Q E) E H :=
  vP (i := 0) h (fun x0 h => vP (i := 2) h (fun x2 h => (conv (by kernel_rfl) h)))

theorem uo_8ok (Q : QT) (E : ET) (τ : Tau) (H : Heap) (h : uo_6_M Q E τ H) : vc Pr uo_p2 τ (uo_q1 Q E) E H :=
  (conv (B := vc Pr uo_p2 τ (uo_q1 Q E) E H) (by kernel_rfl) (vc_seq (K := (uo_3_M Q E)) (uo_7ok Q E τ H h) (uo_5ok Q E)))

@[reducible] noncomputable def uo_q4 (Q : QT) (E : ET) : Exit → Tau → Heap → Prop := (xthen (uo_6_M Q E) (uo_q1 Q E))

@[reducible] noncomputable def uo_p7 : Code := sA uo_p1

def uo_9 (Q : QT) (E : ET) (x0 : OA) (x2 : OA) (H : Heap) : Prop :=
 ptr x0 fun q60 =>
 ldI .i64 (Addr.add q60 1) H fun n61 =>
 ptr x0 fun q62 =>
 ldS q62 H fun s63 =>
 sel (decide ((n61 : Int) ≥ ((ByteArray.size s63 : Nat) : Int)))
 (Does Pr 57 #[(.pointer x0), (.int .i64 82)] H (fun v64 H65 =>
 ptr x2 fun q67 =>
 wr q67 [(.int .u64 0), (.int .u64 0), (.int .u64 0), (.int .u64 0)] H65 fun H66 =>
 ptr x2 fun q68 =>
 ∃ n69 n70 n71 n72 : Int, Heap.rd H66 q68 0 [(.int .u64 n69), (.int .u64 n70), (.int .u64 n71), (.int .u64 n72)] ∧ Q (.tuple #[(.agg #[(.int .u64 n69), (.int .u64 n70), (.int .u64 n71), (.int .u64 n72)]), (.bool false)]) H66) E)
 (uo_6 Q E x0 x2 H)

def uo_9_M (Q : QT) (E : ET) (τ : Tau) (H : Heap) : Prop := mP (τ 0) fun x0 => mP (τ 2) fun x2 => uo_9 Q E x0 x2 H

theorem uo_10ok (Q : QT) (E : ET) (τ : Tau) (H : Heap) (h : uo_9_M Q E τ H) : vc Pr uo_p7 τ (uo_q4 Q E) E H :=
  vP (i := 0) h (fun x0 h => vP (i := 2) h (fun x2 h => (conv (by kernel_rfl) h)))

theorem uo_11ok (Q : QT) (E : ET) (τ : Tau) (H : Heap) (h : uo_9_M Q E τ H) : vc Pr uo_p1 τ (uo_q1 Q E) E H :=
  (conv (B := vc Pr uo_p1 τ (uo_q1 Q E) E H) (by kernel_rfl) (vc_seq (K := (uo_6_M Q E)) (uo_10ok Q E τ H h) (uo_8ok Q E)))

@[reducible] noncomputable def uo_q5 (Q : QT) (E : ET) : Exit → Tau → Heap → Prop := (xthen (uo_9_M Q E) (uo_q1 Q E))

@[reducible] noncomputable def uo_p8 : Code := sA uo_p0

def uo (Q : QT) (E : ET) (a0 : OA) (H : Heap) : Prop :=
 nw (.cells #[(.int .u64 0), (.int .u64 0), (.int .u64 0), (.int .u64 0)] 46 (0, 0)) H fun i73 H74 =>
 uo_9 Q E a0 (some ⟨i73, 0, none⟩) H74

theorem uo_fn (a0 : OA) (Q : QT) (E : ET) (H : Heap) (h : uo Q E a0 H)   : Does Pr 109 #[(.pointer a0)] H Q E :=
  Fn_of_vc (fn := Try.f109) (c := uo_p0) (args := [(.pointer a0)]) mixed (by kernel_rfl) (by kernel_rfl) (by kernel_rfl) (by kernel_rfl) (by kernel_rfl) ((conv (B := vc Pr uo_p0 (argT [(.pointer a0)]) (uo_q1 Q E) E H) (by kernel_rfl) (vc_seq (K := (uo_9_M Q E)) (conv (B := vc Pr uo_p8 (argT [(.pointer a0)]) (uo_q5 Q E) E H) (by kernel_rfl) h) (uo_11ok Q E))))

end Go.Proofs.Ytaffcoiomggpfaa
