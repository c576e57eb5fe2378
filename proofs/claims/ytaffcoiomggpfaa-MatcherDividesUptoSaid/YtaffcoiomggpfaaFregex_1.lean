import Derived.Test.YtaffcoiomggpfaaVPr
/- Printed by gen.py: the Go functions of package regex over a heap view, and that the model does so. -/
namespace Go.Proofs.Ytaffcoiomggpfaa
open Go.V
set_option linter.unusedVariables false
set_option maxRecDepth 100000
/-! jobmux/regex.Parse -/
@[reducible] noncomputable def ue1_q1 (Q : QT) (E : ET) : Exit → Tau → Heap → Prop := (retQ Pr (Try.f28).results.toList Q)

@[reducible] noncomputable def ue1_p0 : Code := bodyOf Try.f28

@[reducible] noncomputable def ue1_p1 : Code := sB ue1_p0

@[reducible] noncomputable def ue1_p2 : Code := sB ue1_p1

@[reducible] noncomputable def ue1_p3 : Code := sB ue1_p2

@[reducible] noncomputable def ue1_p4 : Code := sB ue1_p3

@[reducible] noncomputable def ue1_p5 : Code := sB ue1_p4

def ue1_1 (Q : QT) (E : ET) (x4 : OA) (H : Heap) : Prop :=
 ptr x4 fun q11 =>
 ldSl (Addr.add q11 3) H fun p12 l13 c14 =>
 Q (.tuple #[(.slice p12 l13 c14), (.int .i64 0)]) H

def ue1_1_M (Q : QT) (E : ET) (τ : Tau) (H : Heap) : Prop := mP (τ 4) fun x4 => ue1_1 Q E x4 H

theorem ue1_2ok (Q : QT) (E : ET) (τ : Tau) (H : Heap) (h : ue1_1_M Q E τ H) : vc Pr ue1_p5 τ (ue1_q1 Q E) E H :=
  vP (i := 4) h (fun x4 h => (conv (by kernel_rfl) h))

@[reducible] noncomputable def ue1_q2 (Q : QT) (E : ET) : Exit → Tau → Heap → Prop := (xthen (ue1_1_M Q E) (ue1_q1 Q E))

@[reducible] noncomputable def ue1_p6 : Code := sA ue1_p4

def ue1_3 (Q : QT) (E : ET) (x4 : OA) (H : Heap) : Prop :=
 ptr x4 fun q15 =>
 ldI .i64 (Addr.add q15 4) H fun n16 =>
 sel ((n16 : Int) != 0)
 (ptr x4 fun q17 =>
 ldI .i64 (Addr.add q17 4) H fun n18 =>
 Q (.tuple #[(.slice none 0 0), (.int .i64 n18)]) H)
 (ptr x4 fun q19 =>
 ldSl (Addr.add q19 3) H fun p20 l21 c22 =>
 sel (decide ((((l21 : Nat) : Int) : Int) > 256))
 (Q (.tuple #[(.slice none 0 0), (.int .i64 1)]) H)
 (ue1_1 Q E x4 H))

def ue1_3_M (Q : QT) (E : ET) (τ : Tau) (H : Heap) : Prop := mP (τ 4) fun x4 => ue1_3 Q E x4 H

theorem ue1_4ok (Q : QT) (E : ET) (τ : Tau) (H : Heap) (h : ue1_3_M Q E τ H) : vc Pr ue1_p6 τ (ue1_q2 Q E) E H :=
  vP (i := 4) h (fun x4 h => (conv (by kernel_rfl) h))

theorem ue1_5ok (Q : QT) (E : ET) (τ : Tau) (H : Heap) (h : ue1_3_M Q E τ H) : vc Pr ue1_p4 τ (ue1_q1 Q E) E H :=
  (conv (B := vc Pr ue1_p4 τ (ue1_q1 Q E) E H) (by kernel_rfl) (vc_seq (K := (ue1_1_M Q E)) (ue1_4ok Q E τ H h) (ue1_2ok Q E)))

@[reducible] noncomputable def ue1_q3 (Q : QT) (E : ET) : Exit → Tau → Heap → Prop := (xthen (ue1_3_M Q E) (ue1_q1 Q E))

@[reducible] noncomputable def ue1_p7 : Code := sA ue1_p3

def ue1_6 (Q : QT) (E : ET) (x4 : OA) (H : Heap) : Prop :=
 Does Pr 60 #[(.pointer x4)] H (fun v23 H24 =>
 ∃ n25 : Int, v23 = (.int .i64 n25) ∧ ue1_3 Q E x4 H24) E

def ue1_6_M (Q : QT) (E : ET) (τ : Tau) (H : Heap) : Prop := mP (τ 4) fun x4 => ue1_6 Q E x4 H

theorem ue1_7ok (Q : QT) (E : ET) (τ : Tau) (H : Heap) (h : ue1_6_M Q E τ H) : vc Pr ue1_p7 τ (ue1_q3 Q E) E H :=
  vP (i := 4) h (fun x4 h => (conv (by kernel_rfl) h))

theorem ue1_8ok (Q : QT) (E : ET) (τ : Tau) (H : Heap) (h : ue1_6_M Q E τ H) : vc Pr ue1_p3 τ (ue1_q1 Q E) E H :=
  (conv (B := vc Pr ue1_p3 τ (ue1_q1 Q E) E H) (by kernel_rfl) (vc_seq (K := (ue1_3_M Q E)) (ue1_7ok Q E τ H h) (ue1_5ok Q E)))

@[reducible] noncomputable def ue1_q4 (Q : QT) (E : ET) : Exit → Tau → Heap → Prop := (xthen (ue1_6_M Q E) (ue1_q1 Q E))

@[reducible] noncomputable def ue1_p8 : Code := sA ue1_p2

def ue1_9 (Q : QT) (E : ET) (x0 : ByteArray) (H : Heap) : Prop :=
 nw (.cells #[(.string x0), (.int .i64 0), (.int .i64 0), (.slice none 0 0), (.int .i64 0)] 89 (0, 0)) H fun i26 H27 =>
 ue1_6 Q E (some ⟨i26, 0, none⟩) H27

def ue1_9_M (Q : QT) (E : ET) (τ : Tau) (H : Heap) : Prop := mS (τ 0) fun x0 => ue1_9 Q E x0 H

theorem ue1_10ok (Q : QT) (E : ET) (τ : Tau) (H : Heap) (h : ue1_9_M Q E τ H) : vc Pr ue1_p8 τ (ue1_q4 Q E) E H :=
  vS (i := 0) h (fun x0 h => (conv (by kernel_rfl) h))

theorem ue1_11ok (Q : QT) (E : ET) (τ : Tau) (H : Heap) (h : ue1_9_M Q E τ H) : vc Pr ue1_p2 τ (ue1_q1 Q E) E H :=
  (conv (B := vc Pr ue1_p2 τ (ue1_q1 Q E) E H) (by kernel_rfl) (vc_seq (K := (ue1_6_M Q E)) (ue1_10ok Q E τ H h) (ue1_8ok Q E)))

@[reducible] noncomputable def ue1_q5 (Q : QT) (E : ET) : Exit → Tau → Heap → Prop := (xthen (ue1_9_M Q E) (ue1_q1 Q E))

@[reducible] noncomputable def ue1_p9 : Code := sA ue1_p1

def ue1_12 (Q : QT) (E : ET) (x0 : ByteArray) (H : Heap) : Prop :=
 sel (decide ((((ByteArray.size x0 : Nat) : Int) : Int) > 128))
 (Q (.tuple #[(.slice none 0 0), (.int .i64 1)]) H)
 (ue1_9 Q E x0 H)

def ue1_12_M (Q : QT) (E : ET) (τ : Tau) (H : Heap) : Prop := mS (τ 0) fun x0 => ue1_12 Q E x0 H

theorem ue1_13ok (Q : QT) (E : ET) (τ : Tau) (H : Heap) (h : ue1_12_M Q E τ H) : vc Pr ue1_p9 τ (ue1_q5 Q E) E H :=
  vS (i := 0) h (fun x0 h => (conv (by kernel_rfl) h))

theorem ue1_14ok (Q : QT) (E : ET) (τ : Tau) (H : Heap) (h : ue1_12_M Q E τ H) : vc Pr ue1_p1 τ (ue1_q1 Q E) E H :=
  (conv (B := vc Pr ue1_p1 τ (ue1_q1 Q E) E H) (by kernel_rfl) (vc_seq (K := (ue1_9_M Q E)) (ue1_13ok Q E τ H h) (ue1_11ok Q E)))

@[reducible] noncomputable def ue1_q6 (Q : QT) (E : ET) : Exit → Tau → Heap → Prop := (xthen (ue1_12_M Q E) (ue1_q1 Q E))

@[reducible] noncomputable def ue1_p10 : Code := sA ue1_p0

def ue1 (Q : QT) (E : ET) (a0 : ByteArray) (H : Heap) : Prop :=
 ue1_12 Q E a0 H

theorem ue1_fn (a0 : ByteArray) (Q : QT) (E : ET) (H : Heap) (h : ue1 Q E a0 H)   : Does Pr 28 #[(.string a0)] H Q E :=
  Fn_of_vc (fn := Try.f28) (c := ue1_p0) (args := [(.string a0)]) mixed (by kernel_rfl) (by kernel_rfl) (by kernel_rfl) (by kernel_rfl) (by kernel_rfl) ((conv (B := vc Pr ue1_p0 (argT [(.string a0)]) (ue1_q1 Q E) E H) (by kernel_rfl) (vc_seq (K := (ue1_12_M Q E)) (conv (B := vc Pr ue1_p10 (argT [(.string a0)]) (ue1_q6 Q E) E H) (by kernel_rfl) h) (ue1_14ok Q E))))

/-! jobmux/regex.Valid -/
@[reducible] noncomputable def uf1_q1 (Q : QT) (E : ET) : Exit → Tau → Heap → Prop := (retQ Pr (Try.f40).results.toList Q)

@[reducible] noncomputable def uf1_p0 : Code := bodyOf Try.f40

@[reducible] noncomputable def uf1_p1 : Code := sB uf1_p0

@[reducible] noncomputable def uf1_p2 : Code := sB uf1_p1

@[reducible] noncomputable def uf1_p3 : Code := sB uf1_p2

@[reducible] noncomputable def uf1_p4 : Code := sB uf1_p3

def uf1_1 (Q : QT) (E : ET) (x0 : OA) (l0 : Nat) (c0 : Nat) (x3 : OA) (l3 : Nat) (c3 : Nat) (H : Heap) : Prop :=
 (0 ≤ ((IntKind.wrap .i64 (((l0 : Nat) : Int) - 1)) : Int) ∧ ((IntKind.wrap .i64 (((l0 : Nat) : Int) - 1)) : Int) < ((l3 : Nat) : Int)) ∧ ptr x3 fun q33 =>
 ldI .i64 (Addr.add q33 (((IntKind.wrap .i64 (((l0 : Nat) : Int) - 1)) : Int).toNat * 1)) H fun n34 =>
 Q (.bool ((n34 : Int) == ((l0 : Nat) : Int))) H

def uf1_1_M (Q : QT) (E : ET) (τ : Tau) (H : Heap) : Prop := mSl (τ 0) fun x0 l0 c0 => mSl (τ 3) fun x3 l3 c3 => uf1_1 Q E x0 l0 c0 x3 l3 c3 H

theorem uf1_2ok (Q : QT) (E : ET) (τ : Tau) (H : Heap) (h : uf1_1_M Q E τ H) : vc Pr uf1_p4 τ (uf1_q1 Q E) E H :=
  vSl (i := 0) h (fun x0 l0 c0 h => vSl (i := 3) h (fun x3 l3 c3 h => (conv (by kernel_rfl) h)))

@[reducible] noncomputable def uf1_q2 (Q : QT) (E : ET) : Exit → Tau → Heap → Prop := (xthen (uf1_1_M Q E) (uf1_q1 Q E))

@[reducible] noncomputable def uf1_p5 : Code := sA uf1_p3

@[reducible] noncomputable def uf1_p6 : Code := sB uf1_p5

@[reducible] noncomputable def uf1_q3 (Q : QT) (E : ET) : Exit → Tau → Heap → Prop := (xblock 0 (uf1_q2 Q E))

@[reducible] noncomputable def uf1_p7 : Code := sI uf1_p6

@[reducible] noncomputable def uf1_q4 (nx35 : Int → HP) (Q : QT) (E : ET) : Exit → Tau → Heap → Prop := (xthen (fun τ H => mI .i64 (τ 21) fun x21' => nx35 x21' H) (uf1_q3 Q E))

@[reducible] noncomputable def uf1_p8 : Code := sI uf1_p7

@[reducible] noncomputable def uf1_p9 : Code := sB uf1_p8

@[reducible] noncomputable def uf1_p10 : Code := sB uf1_p9

@[reducible] noncomputable def uf1_p11 : Code := sB uf1_p10

def uf1_3 (nx35 : Int → HP) (Q : QT) (E : ET) (x0 : OA) (l0 : Nat) (c0 : Nat) (x3 : OA) (l3 : Nat) (c3 : Nat) (x19 : OA) (l19 : Nat) (c19 : Nat) (x20 : Int) (x21 : Int) (H : Heap) : Prop :=
 nx35 (IntKind.wrap .i64 (x21 + 1)) H

def uf1_3_M (nx35 : Int → HP) (Q : QT) (E : ET) (τ : Tau) (H : Heap) : Prop := mSl (τ 0) fun x0 l0 c0 => mSl (τ 3) fun x3 l3 c3 => mSl (τ 19) fun x19 l19 c19 => mI .i64 (τ 20) fun x20 => mI .i64 (τ 21) fun x21 => uf1_3 nx35 Q E x0 l0 c0 x3 l3 c3 x19 l19 c19 x20 x21 H

theorem uf1_4ok (nx35 : Int → HP) (Q : QT) (E : ET) (τ : Tau) (H : Heap) (h : uf1_3_M nx35 Q E τ H) : vc Pr uf1_p11 τ (uf1_q4 nx35 Q E) E H :=
  vSl (i := 0) h (fun x0 l0 c0 h => vSl (i := 3) h (fun x3 l3 c3 h => vSl (i := 19) h (fun x19 l19 c19 h => vI (i := 20) h (fun x20 h => vI (i := 21) h (fun x21 h => (conv (by kernel_rfl) h))))))

@[reducible] noncomputable def uf1_q5 (nx35 : Int → HP) (Q : QT) (E : ET) : Exit → Tau → Heap → Prop := (xthen (uf1_3_M nx35 Q E) (uf1_q4 nx35 Q E))

@[reducible] noncomputable def uf1_p12 : Code := sA uf1_p10

@[reducible] noncomputable def uf1_q6 (nx35 : Int → HP) (Q : QT) (E : ET) : Exit → Tau → Heap → Prop := (xblock 1 (uf1_q5 nx35 Q E))

@[reducible] noncomputable def uf1_p13 : Code := sI uf1_p12

@[reducible] noncomputable def uf1_p14 : Code := sB uf1_p13

@[reducible] noncomputable def uf1_p15 : Code := sB uf1_p14

@[reducible] noncomputable def uf1_p16 : Code := sB uf1_p15

@[reducible] noncomputable def uf1_p17 : Code := sB uf1_p16

@[reducible] noncomputable def uf1_p18 : Code := sB uf1_p17

@[reducible] noncomputable def uf1_p19 : Code := sB uf1_p18

def uf1_5 (nx35 : Int → HP) (Q : QT) (E : ET) (x0 : OA) (l0 : Nat) (c0 : Nat) (x3 : OA) (l3 : Nat) (c3 : Nat) (x19 : OA) (l19 : Nat) (c19 : Nat) (x20 : Int) (x21 : Int) (x88 : Bool) (H : Heap) : Prop :=
 sel x88
 (Q (.bool false) H)
 (uf1_3 nx35 Q E x0 l0 c0 x3 l3 c3 x19 l19 c19 x20 x21 H)

def uf1_5_M (nx35 : Int → HP) (Q : QT) (E : ET) (τ : Tau) (H : Heap) : Prop := mSl (τ 0) fun x0 l0 c0 => mSl (τ 3) fun x3 l3 c3 => mSl (τ 19) fun x19 l19 c19 => mI .i64 (τ 20) fun x20 => mI .i64 (τ 21) fun x21 => mB (τ 88) fun x88 => uf1_5 nx35 Q E x0 l0 c0 x3 l3 c3 x19 l19 c19 x20 x21 x88 H

theorem uf1_6ok (nx35 : Int → HP) (Q : QT) (E : ET) (τ : Tau) (H : Heap) (h : uf1_5_M nx35 Q E τ H) : vc Pr uf1_p19 τ (uf1_q6 nx35 Q E) E H :=
  vSl (i := 0) h (fun x0 l0 c0 h => vSl (i := 3) h (fun x3 l3 c3 h => vSl (i := 19) h (fun x19 l19 c19 h => vI (i := 20) h (fun x20 h => vI (i := 21) h (fun x21 h => vB (i := 88) h (fun x88 h => (conv (by kernel_rfl) h)))))))

@[reducible] noncomputable def uf1_q7 (nx35 : Int → HP) (Q : QT) (E : ET) : Exit → Tau → Heap → Prop := (xthen (uf1_5_M nx35 Q E) (uf1_q6 nx35 Q E))

@[reducible] noncomputable def uf1_p20 : Code := sA uf1_p18

def uf1_7 (nx35 : Int → HP) (Q : QT) (E : ET) (x0 : OA) (l0 : Nat) (c0 : Nat) (x3 : OA) (l3 : Nat) (c3 : Nat) (x5 : OA) (x6 : Int) (x7 : Int) (x19 : OA) (l19 : Nat) (c19 : Nat) (x20 : Int) (x21 : Int) (H : Heap) : Prop :=
 ptr x5 fun q112 =>
 ldI .i64 (Addr.add q112 1) H fun n113 =>
 sel ((n113 : Int) != x6)
 (uf1_5 nx35 Q E x0 l0 c0 x3 l3 c3 x19 l19 c19 x20 x21 true H)
 (ptr x5 fun q114 =>
 ldI .i64 (Addr.add q114 2) H fun n115 =>
 uf1_5 nx35 Q E x0 l0 c0 x3 l3 c3 x19 l19 c19 x20 x21 ((n115 : Int) != x7) H)

def uf1_7_M (nx35 : Int → HP) (Q : QT) (E : ET) (τ : Tau) (H : Heap) : Prop := mSl (τ 0) fun x0 l0 c0 => mSl (τ 3) fun x3 l3 c3 => mP (τ 5) fun x5 => mI .i64 (τ 6) fun x6 => mI .i64 (τ 7) fun x7 => mSl (τ 19) fun x19 l19 c19 => mI .i64 (τ 20) fun x20 => mI .i64 (τ 21) fun x21 => uf1_7 nx35 Q E x0 l0 c0 x3 l3 c3 x5 x6 x7 x19 l19 c19 x20 x21 H

theorem uf1_8ok (nx35 : Int → HP) (Q : QT) (E : ET) (τ : Tau) (H : Heap) (h : uf1_7_M nx35 Q E τ H) : vc Pr uf1_p20 τ (uf1_q7 nx35 Q E) E H :=
  vSl (i := 0) h (fun x0 l0 c0 h => vSl (i := 3) h (fun x3 l3 c3 h => vP (i := 5) h (fun x5 h => vI (i := 6) h (fun x6 h => vI (i := 7) h (fun x7 h => vSl (i := 19) h (fun x19 l19 c19 h => vI (i := 20) h (fun x20 h => vI (i := 21) h (fun x21 h => (conv (by kernel_rfl) h)))))))))

theorem uf1_9ok (nx35 : Int → HP) (Q : QT) (E : ET) (τ : Tau) (H : Heap) (h : uf1_7_M nx35 Q E τ H) : vc Pr uf1_p18 τ (uf1_q6 nx35 Q E) E H :=
  (conv (B := vc Pr uf1_p18 τ (uf1_q6 nx35 Q E) E H) (by kernel_rfl) (vc_seq (K := (uf1_5_M nx35 Q E)) (uf1_8ok nx35 Q E τ H h) (uf1_6ok nx35 Q E)))

@[reducible] noncomputable def uf1_q8 (nx35 : Int → HP) (Q : QT) (E : ET) : Exit → Tau → Heap → Prop := (xthen (uf1_7_M nx35 Q E) (uf1_q6 nx35 Q E))

@[reducible] noncomputable def uf1_p21 : Code := sA uf1_p17

@[reducible] noncomputable def uf1_p22 : Code := sB uf1_p21

@[reducible] noncomputable def uf1_q9 (nx35 : Int → HP) (Q : QT) (E : ET) : Exit → Tau → Heap → Prop := (xblock 2 (uf1_q8 nx35 Q E))

@[reducible] noncomputable def uf1_p23 : Code := sI uf1_p22

@[reducible] noncomputable def uf1_p24 : Code := sB uf1_p23

def uf1_10 (nx35 : Int → HP) (Q : QT) (E : ET)  (H : Heap) : Prop :=
 Q (.bool false) H

def uf1_10_M (nx35 : Int → HP) (Q : QT) (E : ET) (τ : Tau) (H : Heap) : Prop := uf1_10 nx35 Q E  H

theorem uf1_11ok (nx35 : Int → HP) (Q : QT) (E : ET) (τ : Tau) (H : Heap) (h : uf1_10_M nx35 Q E τ H) : vc Pr uf1_p24 τ (uf1_q9 nx35 Q E) E H :=
  (conv (B := vc Pr uf1_p24 τ (uf1_q9 nx35 Q E) E H) (by kernel_rfl) h)

@[reducible] noncomputable def uf1_q10 (nx35 : Int → HP) (Q : QT) (E : ET) : Exit → Tau → Heap → Prop := (xthen (uf1_10_M nx35 Q E) (uf1_q9 nx35 Q E))

@[reducible] noncomputable def uf1_p25 : Code := sA uf1_p23

@[reducible] noncomputable def uf1_q11 (nx35 : Int → HP) (Q : QT) (E : ET) : Exit → Tau → Heap → Prop := (xblock 6 (uf1_q10 nx35 Q E))

@[reducible] noncomputable def uf1_p26 : Code := sI uf1_p25

@[reducible] noncomputable def uf1_p27 : Code := sB uf1_p26

@[reducible] noncomputable def uf1_q12 (nx35 : Int → HP) (Q : QT) (E : ET) : Exit → Tau → Heap → Prop := (xthen (fun τ H => vc Pr (sB uf1_p27) τ (uf1_q11 nx35 Q E) E H) (uf1_q11 nx35 Q E))

@[reducible] noncomputable def uf1_p28 : Code := sA uf1_p27

@[reducible] noncomputable def uf1_p29 : Code := sB uf1_p28

@[reducible] noncomputable def uf1_p30 : Code := sB uf1_p29

def uf1_12 (nx35 : Int → HP) (Q : QT) (E : ET) (x0 : OA) (l0 : Nat) (c0 : Nat) (x3 : OA) (l3 : Nat) (c3 : Nat) (x4 : Int) (x5 : OA) (x6 : Int) (x7 : Int) (x19 : OA) (l19 : Nat) (c19 : Nat) (x20 : Int) (x21 : Int) (H : Heap) : Prop :=
 (0 ≤ (x4 : Int) ∧ (x4 : Int) < ((l3 : Nat) : Int)) ∧ ptr x3 fun q150 =>
 ldI .i64 (Addr.add q150 ((x4 : Int).toNat * 1)) H fun n151 =>
 (0 ≤ (x6 : Int) ∧ (x6 : Int) < ((l3 : Nat) : Int)) ∧ ptr x3 fun q152 =>
 ldI .i64 (Addr.add q152 ((x6 : Int).toNat * 1)) H fun n153 =>
 (0 ≤ (x4 : Int) ∧ (x4 : Int) < ((l3 : Nat) : Int)) ∧ ptr x3 fun q154 =>
 wr (Addr.add q154 ((x4 : Int).toNat * 1)) [(.int .i64 (IntKind.wrap .i64 (n151 + n153)))] H fun H155 =>
 uf1_7 nx35 Q E x0 l0 c0 x3 l3 c3 x5 x6 x7 x19 l19 c19 x20 x21 H155

def uf1_12_M (nx35 : Int → HP) (Q : QT) (E : ET) (τ : Tau) (H : Heap) : Prop := mSl (τ 0) fun x0 l0 c0 => mSl (τ 3) fun x3 l3 c3 => mI .i64 (τ 4) fun x4 => mP (τ 5) fun x5 => mI .i64 (τ 6) fun x6 => mI .i64 (τ 7) fun x7 => mSl (τ 19) fun x19 l19 c19 => mI .i64 (τ 20) fun x20 => mI .i64 (τ 21) fun x21 => uf1_12 nx35 Q E x0 l0 c0 x3 l3 c3 x4 x5 x6 x7 x19 l19 c19 x20 x21 H

theorem uf1_13ok (nx35 : Int → HP) (Q : QT) (E : ET) (τ : Tau) (H : Heap) (h : uf1_12_M nx35 Q E τ H) : vc Pr uf1_p30 τ (uf1_q12 nx35 Q E) E H :=
  vSl (i := 0) h (fun x0 l0 c0 h => vSl (i := 3) h (fun x3 l3 c3 h => vI (i := 4) h (fun x4 h => vP (i := 5) h (fun x5 h => vI (i := 6) h (fun x6 h => vI (i := 7) h (fun x7 h => vSl (i := 19) h (fun x19 l19 c19 h => vI (i := 20) h (fun x20 h => vI (i := 21) h (fun x21 h => (conv (by kernel_rfl) h))))))))))

@[reducible] noncomputable def uf1_q13 (nx35 : Int → HP) (Q : QT) (E : ET) : Exit → Tau → Heap → Prop := (xthen (uf1_12_M nx35 Q E) (uf1_q12 nx35 Q E))

@[reducible] noncomputable def uf1_p31 : Code := sA uf1_p29

def uf1_14 (nx35 : Int → HP) (Q : QT) (E : ET) (x0 : OA) (l0 : Nat) (c0 : Nat) (x3 : OA) (l3 : Nat) (c3 : Nat) (x4 : Int) (x5 : OA) (x6 : Int) (x7 : Int) (x19 : OA) (l19 : Nat) (c19 : Nat) (x20 : Int) (x21 : Int) (H : Heap) : Prop :=
 sel (decide ((x6 : Int) < 0))
 (Q (.bool false) H)
 (uf1_12 nx35 Q E x0 l0 c0 x3 l3 c3 x4 x5 x6 x7 x19 l19 c19 x20 x21 H)

def uf1_14_M (nx35 : Int → HP) (Q : QT) (E : ET) (τ : Tau) (H : Heap) : Prop := mSl (τ 0) fun x0 l0 c0 => mSl (τ 3) fun x3 l3 c3 => mI .i64 (τ 4) fun x4 => mP (τ 5) fun x5 => mI .i64 (τ 6) fun x6 => mI .i64 (τ 7) fun x7 => mSl (τ 19) fun x19 l19 c19 => mI .i64 (τ 20) fun x20 => mI .i64 (τ 21) fun x21 => uf1_14 nx35 Q E x0 l0 c0 x3 l3 c3 x4 x5 x6 x7 x19 l19 c19 x20 x21 H

theorem uf1_15ok (nx35 : Int → HP) (Q : QT) (E : ET) (τ : Tau) (H : Heap) (h : uf1_14_M nx35 Q E τ H) : vc Pr uf1_p31 τ (uf1_q13 nx35 Q E) E H :=
  vSl (i := 0) h (fun x0 l0 c0 h => vSl (i := 3) h (fun x3 l3 c3 h => vI (i := 4) h (fun x4 h => vP (i := 5) h (fun x5 h => vI (i := 6) h (fun x6 h => vI (i := 7) h (fun x7 h => vSl (i := 19) h (fun x19 l19 c19 h => vI (i := 20) h (fun x20 h => vI (i := 21) h (fun x21 h => (conv (by kernel_rfl) h))))))))))

theorem uf1_16ok (nx35 : Int → HP) (Q : QT) (E : ET) (τ : Tau) (H : Heap) (h : uf1_14_M nx35 Q E τ H) : vc Pr uf1_p29 τ (uf1_q12 nx35 Q E) E H :=
  (conv (B := vc Pr uf1_p29 τ (uf1_q12 nx35 Q E) E H) (by kernel_rfl) (vc_seq (K := (uf1_12_M nx35 Q E)) (uf1_15ok nx35 Q E τ H h) (uf1_13ok nx35 Q E)))

@[reducible] noncomputable def uf1_q14 (nx35 : Int → HP) (Q : QT) (E : ET) : Exit → Tau → Heap → Prop := (xthen (uf1_14_M nx35 Q E) (uf1_q12 nx35 Q E))

@[reducible] noncomputable def uf1_p32 : Code := sA uf1_p28

def uf1_17 (nx35 : Int → HP) (Q : QT) (E : ET) (x0 : OA) (l0 : Nat) (c0 : Nat) (x3 : OA) (l3 : Nat) (c3 : Nat) (x4 : Int) (x5 : OA) (x7 : Int) (x19 : OA) (l19 : Nat) (c19 : Nat) (x20 : Int) (x21 : Int) (H : Heap) : Prop :=
 (0 ≤ (x4 : Int) ∧ (x4 : Int) < ((l3 : Nat) : Int)) ∧ ptr x3 fun q156 =>
 ldI .i64 (Addr.add q156 ((x4 : Int).toNat * 1)) H fun n157 =>
 uf1_14 nx35 Q E x0 l0 c0 x3 l3 c3 x4 x5 (IntKind.wrap .i64 (x4 - n157)) x7 x19 l19 c19 x20 x21 H

def uf1_17_M (nx35 : Int → HP) (Q : QT) (E : ET) (τ : Tau) (H : Heap) : Prop := mSl (τ 0) fun x0 l0 c0 => mSl (τ 3) fun x3 l3 c3 => mI .i64 (τ 4) fun x4 => mP (τ 5) fun x5 => mI .i64 (τ 7) fun x7 => mSl (τ 19) fun x19 l19 c19 => mI .i64 (τ 20) fun x20 => mI .i64 (τ 21) fun x21 => uf1_17 nx35 Q E x0 l0 c0 x3 l3 c3 x4 x5 x7 x19 l19 c19 x20 x21 H

theorem uf1_18ok (nx35 : Int → HP) (Q : QT) (E : ET) (τ : Tau) (H : Heap) (h : uf1_17_M nx35 Q E τ H) : vc Pr uf1_p32 τ (uf1_q14 nx35 Q E) E H :=
  vSl (i := 0) h (fun x0 l0 c0 h => vSl (i := 3) h (fun x3 l3 c3 h => vI (i := 4) h (fun x4 h => vP (i := 5) h (fun x5 h => vI (i := 7) h (fun x7 h => vSl (i := 19) h (fun x19 l19 c19 h => vI (i := 20) h (fun x20 h => vI (i := 21) h (fun x21 h => (conv (by kernel_rfl) h)))))))))

theorem uf1_19ok (nx35 : Int → HP) (Q : QT) (E : ET) (τ : Tau) (H : Heap) (h : uf1_17_M nx35 Q E τ H) : vc Pr uf1_p28 τ (uf1_q12 nx35 Q E) E H :=
  (conv (B := vc Pr uf1_p28 τ (uf1_q12 nx35 Q E) E H) (by kernel_rfl) (vc_seq (K := (uf1_14_M nx35 Q E)) (uf1_18ok nx35 Q E τ H h) (uf1_16ok nx35 Q E)))

theorem uf1_20ok (nx35 : Int → HP) (Q : QT) (E : ET) (τ : Tau) (H : Heap) (h : uf1_17_M nx35 Q E τ H) : vc Pr uf1_p27 τ (uf1_q11 nx35 Q E) E H :=
  (conv (B := vc Pr uf1_p27 τ (uf1_q11 nx35 Q E) E H) (by kernel_rfl) (uf1_19ok nx35 Q E τ H h))

@[reducible] noncomputable def uf1_q15 (nx35 : Int → HP) (Q : QT) (E : ET) : Exit → Tau → Heap → Prop := (xthen (uf1_17_M nx35 Q E) (uf1_q11 nx35 Q E))

@[reducible] noncomputable def uf1_p33 : Code := sA uf1_p26

@[reducible] noncomputable def uf1_q16 (nx35 : Int → HP) (Q : QT) (E : ET) : Exit → Tau → Heap → Prop := (xblock 5 (uf1_q15 nx35 Q E))

@[reducible] noncomputable def uf1_p34 : Code := sI uf1_p33

@[reducible] noncomputable def uf1_p35 : Code := sB uf1_p34

@[reducible] noncomputable def uf1_p36 : Code := sB uf1_p35

@[reducible] noncomputable def uf1_p37 : Code := sB uf1_p36

def uf1_21 (nx35 : Int → HP) (Q : QT) (E : ET) (x0 : OA) (l0 : Nat) (c0 : Nat) (x3 : OA) (l3 : Nat) (c3 : Nat) (x4 : Int) (x5 : OA) (x7 : Int) (x19 : OA) (l19 : Nat) (c19 : Nat) (x20 : Int) (x21 : Int) (H : Heap) : Prop :=
 (0 ≤ (x4 : Int) ∧ (x4 : Int) < ((l3 : Nat) : Int)) ∧ ptr x3 fun q158 =>
 ldI .i64 (Addr.add q158 ((x4 : Int).toNat * 1)) H fun n159 =>
 (0 ≤ (x7 : Int) ∧ (x7 : Int) < ((l3 : Nat) : Int)) ∧ ptr x3 fun q160 =>
 ldI .i64 (Addr.add q160 ((x7 : Int).toNat * 1)) H fun n161 =>
 (0 ≤ (x4 : Int) ∧ (x4 : Int) < ((l3 : Nat) : Int)) ∧ ptr x3 fun q162 =>
 wr (Addr.add q162 ((x4 : Int).toNat * 1)) [(.int .i64 (IntKind.wrap .i64 (n159 + n161)))] H fun H163 =>
 uf1_17 nx35 Q E x0 l0 c0 x3 l3 c3 x4 x5 x7 x19 l19 c19 x20 x21 H163

def uf1_21_M (nx35 : Int → HP) (Q : QT) (E : ET) (τ : Tau) (H : Heap) : Prop := mSl (τ 0) fun x0 l0 c0 => mSl (τ 3) fun x3 l3 c3 => mI .i64 (τ 4) fun x4 => mP (τ 5) fun x5 => mI .i64 (τ 7) fun x7 => mSl (τ 19) fun x19 l19 c19 => mI .i64 (τ 20) fun x20 => mI .i64 (τ 21) fun x21 => uf1_21 nx35 Q E x0 l0 c0 x3 l3 c3 x4 x5 x7 x19 l19 c19 x20 x21 H

theorem uf1_22ok (nx35 : Int → HP) (Q : QT) (E : ET) (τ : Tau) (H : Heap) (h : uf1_21_M nx35 Q E τ H) : vc Pr uf1_p37 τ (uf1_q16 nx35 Q E) E H :=
  vSl (i := 0) h (fun x0 l0 c0 h => vSl (i := 3) h (fun x3 l3 c3 h => vI (i := 4) h (fun x4 h => vP (i := 5) h (fun x5 h => vI (i := 7) h (fun x7 h => vSl (i := 19) h (fun x19 l19 c19 h => vI (i := 20) h (fun x20 h => vI (i := 21) h (fun x21 h => (conv (by kernel_rfl) h)))))))))

@[reducible] noncomputable def uf1_q17 (nx35 : Int → HP) (Q : QT) (E : ET) : Exit → Tau → Heap → Prop := (xthen (uf1_21_M nx35 Q E) (uf1_q16 nx35 Q E))

@[reducible] noncomputable def uf1_p38 : Code := sA uf1_p36

def uf1_23 (nx35 : Int → HP) (Q : QT) (E : ET) (x0 : OA) (l0 : Nat) (c0 : Nat) (x3 : OA) (l3 : Nat) (c3 : Nat) (x4 : Int) (x5 : OA) (x7 : Int) (x19 : OA) (l19 : Nat) (c19 : Nat) (x20 : Int) (x21 : Int) (H : Heap) : Prop :=
 sel (decide ((x7 : Int) < 0))
 (Q (.bool false) H)
 (uf1_21 nx35 Q E x0 l0 c0 x3 l3 c3 x4 x5 x7 x19 l19 c19 x20 x21 H)

def uf1_23_M (nx35 : Int → HP) (Q : QT) (E : ET) (τ : Tau) (H : Heap) : Prop := mSl (τ 0) fun x0 l0 c0 => mSl (τ 3) fun x3 l3 c3 => mI .i64 (τ 4) fun x4 => mP (τ 5) fun x5 => mI .i64 (τ 7) fun x7 => mSl (τ 19) fun x19 l19 c19 => mI .i64 (τ 20) fun x20 => mI .i64 (τ 21) fun x21 => uf1_23 nx35 Q E x0 l0 c0 x3 l3 c3 x4 x5 x7 x19 l19 c19 x20 x21 H

theorem uf1_24ok (nx35 : Int → HP) (Q : QT) (E : ET) (τ : Tau) (H : Heap) (h : uf1_23_M nx35 Q E τ H) : vc Pr uf1_p38 τ (uf1_q17 nx35 Q E) E H :=
  vSl (i := 0) h (fun x0 l0 c0 h => vSl (i := 3) h (fun x3 l3 c3 h => vI (i := 4) h (fun x4 h => vP (i := 5) h (fun x5 h => vI (i := 7) h (fun x7 h => vSl (i := 19) h (fun x19 l19 c19 h => vI (i := 20) h (fun x20 h => vI (i := 21) h (fun x21 h => (conv (by kernel_rfl) h)))))))))

theorem uf1_25ok (nx35 : Int → HP) (Q : QT) (E : ET) (τ : Tau) (H : Heap) (h : uf1_23_M nx35 Q E τ H) : vc Pr uf1_p36 τ (uf1_q16 nx35 Q E) E H :=
  (conv (B := vc Pr uf1_p36 τ (uf1_q16 nx35 Q E) E H) (by kernel_rfl) (vc_seq (K := (uf1_21_M nx35 Q E)) (uf1_24ok nx35 Q E τ H h) (uf1_22ok nx35 Q E)))

@[reducible] noncomputable def uf1_q18 (nx35 : Int → HP) (Q : QT) (E : ET) : Exit → Tau → Heap → Prop := (xthen (uf1_23_M nx35 Q E) (uf1_q16 nx35 Q E))

@[reducible] noncomputable def uf1_p39 : Code := sA uf1_p35

def uf1_26 (nx35 : Int → HP) (Q : QT) (E : ET) (x0 : OA) (l0 : Nat) (c0 : Nat) (x3 : OA) (l3 : Nat) (c3 : Nat) (x4 : Int) (x5 : OA) (x19 : OA) (l19 : Nat) (c19 : Nat) (x20 : Int) (x21 : Int) (H : Heap) : Prop :=
 uf1_23 nx35 Q E x0 l0 c0 x3 l3 c3 x4 x5 (IntKind.wrap .i64 (x4 - 1)) x19 l19 c19 x20 x21 H

def uf1_26_M (nx35 : Int → HP) (Q : QT) (E : ET) (τ : Tau) (H : Heap) : Prop := mSl (τ 0) fun x0 l0 c0 => mSl (τ 3) fun x3 l3 c3 => mI .i64 (τ 4) fun x4 => mP (τ 5) fun x5 => mSl (τ 19) fun x19 l19 c19 => mI .i64 (τ 20) fun x20 => mI .i64 (τ 21) fun x21 => uf1_26 nx35 Q E x0 l0 c0 x3 l3 c3 x4 x5 x19 l19 c19 x20 x21 H

theorem uf1_27ok (nx35 : Int → HP) (Q : QT) (E : ET) (τ : Tau) (H : Heap) (h : uf1_26_M nx35 Q E τ H) : vc Pr uf1_p39 τ (uf1_q18 nx35 Q E) E H :=
  vSl (i := 0) h (fun x0 l0 c0 h => vSl (i := 3) h (fun x3 l3 c3 h => vI (i := 4) h (fun x4 h => vP (i := 5) h (fun x5 h => vSl (i := 19) h (fun x19 l19 c19 h => vI (i := 20) h (fun x20 h => vI (i := 21) h (fun x21 h => (conv (by kernel_rfl) h))))))))

theorem uf1_28ok (nx35 : Int → HP) (Q : QT) (E : ET) (τ : Tau) (H : Heap) (h : uf1_26_M nx35 Q E τ H) : vc Pr uf1_p35 τ (uf1_q16 nx35 Q E) E H :=
  (conv (B := vc Pr uf1_p35 τ (uf1_q16 nx35 Q E) E H) (by kernel_rfl) (vc_seq (K := (uf1_23_M nx35 Q E)) (uf1_27ok nx35 Q E τ H h) (uf1_25ok nx35 Q E)))

@[reducible] noncomputable def uf1_q19 (nx35 : Int → HP) (Q : QT) (E : ET) : Exit → Tau → Heap → Prop := (xthen (uf1_26_M nx35 Q E) (uf1_q16 nx35 Q E))

@[reducible] noncomputable def uf1_p40 : Code := sA uf1_p34

@[reducible] noncomputable def uf1_q20 (nx35 : Int → HP) (Q : QT) (E : ET) : Exit → Tau → Heap → Prop := (xblock 4 (uf1_q19 nx35 Q E))

@[reducible] noncomputable def uf1_p41 : Code := sI uf1_p40

@[reducible] noncomputable def uf1_q21 (nx35 : Int → HP) (Q : QT) (E : ET) : Exit → Tau → Heap → Prop := (xthen (fun τ H => vc Pr (sB uf1_p41) τ (uf1_q20 nx35 Q E) E H) (uf1_q20 nx35 Q E))

@[reducible] noncomputable def uf1_p42 : Code := sA uf1_p41

@[reducible] noncomputable def uf1_q22 (nx35 : Int → HP) (Q : QT) (E : ET) : Exit → Tau → Heap → Prop := (xblock 3 (uf1_q21 nx35 Q E))

@[reducible] noncomputable def uf1_p43 : Code := sI uf1_p42

@[reducible] noncomputable def uf1_q23 (nx35 : Int → HP) (Q : QT) (E : ET) : Exit → Tau → Heap → Prop := (xthen (fun τ H => vc Pr (sB uf1_p43) τ (uf1_q22 nx35 Q E) E H) (uf1_q22 nx35 Q E))

@[reducible] noncomputable def uf1_p44 : Code := sA uf1_p43

@[reducible] noncomputable def uf1_p45 : Code := sB uf1_p44

@[reducible] noncomputable def uf1_p46 : Code := sB uf1_p45

def uf1_29 (nx35 : Int → HP) (Q : QT) (E : ET) (x0 : OA) (l0 : Nat) (c0 : Nat) (x3 : OA) (l3 : Nat) (c3 : Nat) (x4 : Int) (x5 : OA) (x7 : Int) (x19 : OA) (l19 : Nat) (c19 : Nat) (x20 : Int) (x21 : Int) (x40 : Int) (H : Heap) : Prop :=
 sel ((x40 : Int) == 1)
 (uf1_17 nx35 Q E x0 l0 c0 x3 l3 c3 x4 x5 x7 x19 l19 c19 x20 x21 H)
 (uf1_10 nx35 Q E  H)

def uf1_29_M (nx35 : Int → HP) (Q : QT) (E : ET) (τ : Tau) (H : Heap) : Prop := mSl (τ 0) fun x0 l0 c0 => mSl (τ 3) fun x3 l3 c3 => mI .i64 (τ 4) fun x4 => mP (τ 5) fun x5 => mI .i64 (τ 7) fun x7 => mSl (τ 19) fun x19 l19 c19 => mI .i64 (τ 20) fun x20 => mI .i64 (τ 21) fun x21 => mI .i64 (τ 40) fun x40 => uf1_29 nx35 Q E x0 l0 c0 x3 l3 c3 x4 x5 x7 x19 l19 c19 x20 x21 x40 H

theorem uf1_30ok (nx35 : Int → HP) (Q : QT) (E : ET) (τ : Tau) (H : Heap) (h : uf1_29_M nx35 Q E τ H) : vc Pr uf1_p46 τ (uf1_q23 nx35 Q E) E H :=
  vSl (i := 0) h (fun x0 l0 c0 h => vSl (i := 3) h (fun x3 l3 c3 h => vI (i := 4) h (fun x4 h => vP (i := 5) h (fun x5 h => vI (i := 7) h (fun x7 h => vSl (i := 19) h (fun x19 l19 c19 h => vI (i := 20) h (fun x20 h => vI (i := 21) h (fun x21 h => vI (i := 40) h (fun x40 h => (conv (by kernel_rfl) h))))))))))

@[reducible] noncomputable def uf1_q24 (nx35 : Int → HP) (Q : QT) (E : ET) : Exit → Tau → Heap → Prop := (xthen (uf1_29_M nx35 Q E) (uf1_q23 nx35 Q E))

@[reducible] noncomputable def uf1_p47 : Code := sA uf1_p45

def uf1_31 (nx35 : Int → HP) (Q : QT) (E : ET) (x0 : OA) (l0 : Nat) (c0 : Nat) (x3 : OA) (l3 : Nat) (c3 : Nat) (x4 : Int) (x5 : OA) (x7 : Int) (x19 : OA) (l19 : Nat) (c19 : Nat) (x20 : Int) (x21 : Int) (x40 : Int) (H : Heap) : Prop :=
 sel ((x40 : Int) == 2)
 (uf1_26 nx35 Q E x0 l0 c0 x3 l3 c3 x4 x5 x19 l19 c19 x20 x21 H)
 (uf1_29 nx35 Q E x0 l0 c0 x3 l3 c3 x4 x5 x7 x19 l19 c19 x20 x21 x40 H)

def uf1_31_M (nx35 : Int → HP) (Q : QT) (E : ET) (τ : Tau) (H : Heap) : Prop := mSl (τ 0) fun x0 l0 c0 => mSl (τ 3) fun x3 l3 c3 => mI .i64 (τ 4) fun x4 => mP (τ 5) fun x5 => mI .i64 (τ 7) fun x7 => mSl (τ 19) fun x19 l19 c19 => mI .i64 (τ 20) fun x20 => mI .i64 (τ 21) fun x21 => mI .i64 (τ 40) fun x40 => uf1_31 nx35 Q E x0 l0 c0 x3 l3 c3 x4 x5 x7 x19 l19 c19 x20 x21 x40 H

theorem uf1_32ok (nx35 : Int → HP) (Q : QT) (E : ET) (τ : Tau) (H : Heap) (h : uf1_31_M nx35 Q E τ H) : vc Pr uf1_p47 τ (uf1_q24 nx35 Q E) E H :=
  vSl (i := 0) h (fun x0 l0 c0 h => vSl (i := 3) h (fun x3 l3 c3 h => vI (i := 4) h (fun x4 h => vP (i := 5) h (fun x5 h => vI (i := 7) h (fun x7 h => vSl (i := 19) h (fun x19 l19 c19 h => vI (i := 20) h (fun x20 h => vI (i := 21) h (fun x21 h => vI (i := 40) h (fun x40 h => (conv (by kernel_rfl) h))))))))))

theorem uf1_33ok (nx35 : Int → HP) (Q : QT) (E : ET) (τ : Tau) (H : Heap) (h : uf1_31_M nx35 Q E τ H) : vc Pr uf1_p45 τ (uf1_q23 nx35 Q E) E H :=
  (conv (B := vc Pr uf1_p45 τ (uf1_q23 nx35 Q E) E H) (by kernel_rfl) (vc_seq (K := (uf1_29_M nx35 Q E)) (uf1_32ok nx35 Q E τ H h) (uf1_30ok nx35 Q E)))

@[reducible] noncomputable def uf1_q25 (nx35 : Int → HP) (Q : QT) (E : ET) : Exit → Tau → Heap → Prop := (xthen (uf1_31_M nx35 Q E) (uf1_q23 nx35 Q E))

@[reducible] noncomputable def uf1_p48 : Code := sA uf1_p44

def uf1_34 (nx35 : Int → HP) (Q : QT) (E : ET) (x0 : OA) (l0 : Nat) (c0 : Nat) (x3 : OA) (l3 : Nat) (c3 : Nat) (x4 : Int) (x5 : OA) (x6 : Int) (x7 : Int) (x19 : OA) (l19 : Nat) (c19 : Nat) (x20 : Int) (x21 : Int) (x40 : Int) (H : Heap) : Prop :=
 sel ((x40 : Int) == 0)
 (uf1_7 nx35 Q E x0 l0 c0 x3 l3 c3 x5 x6 x7 x19 l19 c19 x20 x21 H)
 (uf1_31 nx35 Q E x0 l0 c0 x3 l3 c3 x4 x5 x7 x19 l19 c19 x20 x21 x40 H)

def uf1_34_M (nx35 : Int → HP) (Q : QT) (E : ET) (τ : Tau) (H : Heap) : Prop := mSl (τ 0) fun x0 l0 c0 => mSl (τ 3) fun x3 l3 c3 => mI .i64 (τ 4) fun x4 => mP (τ 5) fun x5 => mI .i64 (τ 6) fun x6 => mI .i64 (τ 7) fun x7 => mSl (τ 19) fun x19 l19 c19 => mI .i64 (τ 20) fun x20 => mI .i64 (τ 21) fun x21 => mI .i64 (τ 40) fun x40 => uf1_34 nx35 Q E x0 l0 c0 x3 l3 c3 x4 x5 x6 x7 x19 l19 c19 x20 x21 x40 H

theorem uf1_35ok (nx35 : Int → HP) (Q : QT) (E : ET) (τ : Tau) (H : Heap) (h : uf1_34_M nx35 Q E τ H) : vc Pr uf1_p48 τ (uf1_q25 nx35 Q E) E H :=
  vSl (i := 0) h (fun x0 l0 c0 h => vSl (i := 3) h (fun x3 l3 c3 h => vI (i := 4) h (fun x4 h => vP (i := 5) h (fun x5 h => vI (i := 6) h (fun x6 h => vI (i := 7) h (fun x7 h => vSl (i := 19) h (fun x19 l19 c19 h => vI (i := 20) h (fun x20 h => vI (i := 21) h (fun x21 h => vI (i := 40) h (fun x40 h => (conv (by kernel_rfl) h)))))))))))

theorem uf1_36ok (nx35 : Int → HP) (Q : QT) (E : ET) (τ : Tau) (H : Heap) (h : uf1_34_M nx35 Q E τ H) : vc Pr uf1_p44 τ (uf1_q23 nx35 Q E) E H :=
  (conv (B := vc Pr uf1_p44 τ (uf1_q23 nx35 Q E) E H) (by kernel_rfl) (vc_seq (K := (uf1_31_M nx35 Q E)) (uf1_35ok nx35 Q E τ H h) (uf1_33ok nx35 Q E)))

theorem uf1_37ok (nx35 : Int → HP) (Q : QT) (E : ET) (τ : Tau) (H : Heap) (h : uf1_34_M nx35 Q E τ H) : vc Pr uf1_p43 τ (uf1_q22 nx35 Q E) E H :=
  (conv (B := vc Pr uf1_p43 τ (uf1_q22 nx35 Q E) E H) (by kernel_rfl) (uf1_36ok nx35 Q E τ H h))

theorem uf1_38ok (nx35 : Int → HP) (Q : QT) (E : ET) (τ : Tau) (H : Heap) (h : uf1_34_M nx35 Q E τ H) : vc Pr uf1_p42 τ (uf1_q21 nx35 Q E) E H :=
  (conv (B := vc Pr uf1_p42 τ (uf1_q21 nx35 Q E) E H) (by kernel_rfl) (uf1_37ok nx35 Q E τ H h))

theorem uf1_39ok (nx35 : Int → HP) (Q : QT) (E : ET) (τ : Tau) (H : Heap) (h : uf1_34_M nx35 Q E τ H) : vc Pr uf1_p41 τ (uf1_q20 nx35 Q E) E H :=
  (conv (B := vc Pr uf1_p41 τ (uf1_q20 nx35 Q E) E H) (by kernel_rfl) (uf1_38ok nx35 Q E τ H h))

theorem uf1_40ok (nx35 : Int → HP) (Q : QT) (E : ET) (τ : Tau) (H : Heap) (h : uf1_34_M nx35 Q E τ H) : vc Pr uf1_p40 τ (uf1_q19 nx35 Q E) E H :=
  (conv (B := vc Pr uf1_p40 τ (uf1_q19 nx35 Q E) E H) (by kernel_rfl) (uf1_39ok nx35 Q E τ H h))

theorem uf1_41ok (nx35 : Int → HP) (Q : QT) (E : ET) (τ : Tau) (H : Heap) (h : uf1_34_M nx35 Q E τ H) : vc Pr uf1_p34 τ (uf1_q16 nx35 Q E) E H :=
  (conv (B := vc Pr uf1_p34 τ (uf1_q16 nx35 Q E) E H) (by kernel_rfl) (vc_seq (K := (uf1_26_M nx35 Q E)) (uf1_40ok nx35 Q E τ H h) (uf1_28ok nx35 Q E)))

theorem uf1_42ok (nx35 : Int → HP) (Q : QT) (E : ET) (τ : Tau) (H : Heap) (h : uf1_34_M nx35 Q E τ H) : vc Pr uf1_p33 τ (uf1_q15 nx35 Q E) E H :=
  (conv (B := vc Pr uf1_p33 τ (uf1_q15 nx35 Q E) E H) (by kernel_rfl) (uf1_41ok nx35 Q E τ H h))

theorem uf1_43ok (nx35 : Int → HP) (Q : QT) (E : ET) (τ : Tau) (H : Heap) (h : uf1_34_M nx35 Q E τ H) : vc Pr uf1_p26 τ (uf1_q11 nx35 Q E) E H :=
  (conv (B := vc Pr uf1_p26 τ (uf1_q11 nx35 Q E) E H) (by kernel_rfl) (vc_seq (K := (uf1_17_M nx35 Q E)) (uf1_42ok nx35 Q E τ H h) (uf1_20ok nx35 Q E)))

theorem uf1_44ok (nx35 : Int → HP) (Q : QT) (E : ET) (τ : Tau) (H : Heap) (h : uf1_34_M nx35 Q E τ H) : vc Pr uf1_p25 τ (uf1_q10 nx35 Q E) E H :=
  (conv (B := vc Pr uf1_p25 τ (uf1_q10 nx35 Q E) E H) (by kernel_rfl) (uf1_43ok nx35 Q E τ H h))

theorem uf1_45ok (nx35 : Int → HP) (Q : QT) (E : ET) (τ : Tau) (H : Heap) (h : uf1_34_M nx35 Q E τ H) : vc Pr uf1_p23 τ (uf1_q9 nx35 Q E) E H :=
  (conv (B := vc Pr uf1_p23 τ (uf1_q9 nx35 Q E) E H) (by kernel_rfl) (vc_seq (K := (uf1_10_M nx35 Q E)) (uf1_44ok nx35 Q E τ H h) (uf1_11ok nx35 Q E)))

theorem uf1_46ok (nx35 : Int → HP) (Q : QT) (E : ET) (τ : Tau) (H : Heap) (h : uf1_34_M nx35 Q E τ H) : vc Pr uf1_p22 τ (uf1_q8 nx35 Q E) E H :=
  (conv (B := vc Pr uf1_p22 τ (uf1_q8 nx35 Q E) E H) (by kernel_rfl) (uf1_45ok nx35 Q E τ H h))

@[reducible] noncomputable def uf1_q26 (nx35 : Int → HP) (Q : QT) (E : ET) : Exit → Tau → Heap → Prop := (xthen (uf1_34_M nx35 Q E) (uf1_q8 nx35 Q E))

@[reducible] noncomputable def uf1_p49 : Code := sA uf1_p21

def uf1_47 (nx35 : Int → HP) (Q : QT) (E : ET) (x0 : OA) (l0 : Nat) (c0 : Nat) (x3 : OA) (l3 : Nat) (c3 : Nat) (x4 : Int) (x5 : OA) (x6 : Int) (x7 : Int) (x19 : OA) (l19 : Nat) (c19 : Nat) (x20 : Int) (x21 : Int) (H : Heap) : Prop :=
 ptr x5 fun q164 =>
 ldI .i64 q164 H fun n165 =>
 Does Pr 74 #[(.int .i64 n165)] H (fun v166 H167 =>
 ∃ n168 : Int, v166 = (.int .i64 n168) ∧ uf1_34 nx35 Q E x0 l0 c0 x3 l3 c3 x4 x5 x6 x7 x19 l19 c19 x20 x21 n168 H167) E

def uf1_47_M (nx35 : Int → HP) (Q : QT) (E : ET) (τ : Tau) (H : Heap) : Prop := mSl (τ 0) fun x0 l0 c0 => mSl (τ 3) fun x3 l3 c3 => mI .i64 (τ 4) fun x4 => mP (τ 5) fun x5 => mI .i64 (τ 6) fun x6 => mI .i64 (τ 7) fun x7 => mSl (τ 19) fun x19 l19 c19 => mI .i64 (τ 20) fun x20 => mI .i64 (τ 21) fun x21 => uf1_47 nx35 Q E x0 l0 c0 x3 l3 c3 x4 x5 x6 x7 x19 l19 c19 x20 x21 H

theorem uf1_48ok (nx35 : Int → HP) (Q : QT) (E : ET) (τ : Tau) (H : Heap) (h : uf1_47_M nx35 Q E τ H) : vc Pr uf1_p49 τ (uf1_q26 nx35 Q E) E H :=
  vSl (i := 0) h (fun x0 l0 c0 h => vSl (i := 3) h (fun x3 l3 c3 h => vI (i := 4) h (fun x4 h => vP (i := 5) h (fun x5 h => vI (i := 6) h (fun x6 h => vI (i := 7) h (fun x7 h => vSl (i := 19) h (fun x19 l19 c19 h => vI (i := 20) h (fun x20 h => vI (i := 21) h (fun x21 h => (conv (by kernel_rfl) h))))))))))

theorem uf1_49ok (nx35 : Int → HP) (Q : QT) (E : ET) (τ : Tau) (H : Heap) (h : uf1_47_M nx35 Q E τ H) : vc Pr uf1_p21 τ (uf1_q8 nx35 Q E) E H :=
  (conv (B := vc Pr uf1_p21 τ (uf1_q8 nx35 Q E) E H) (by kernel_rfl) (vc_seq (K := (uf1_34_M nx35 Q E)) (uf1_48ok nx35 Q E τ H h) (uf1_46ok nx35 Q E)))

theorem uf1_50ok (nx35 : Int → HP) (Q : QT) (E : ET) (τ : Tau) (H : Heap) (h : uf1_47_M nx35 Q E τ H) : vc Pr uf1_p17 τ (uf1_q6 nx35 Q E) E H :=
  (conv (B := vc Pr uf1_p17 τ (uf1_q6 nx35 Q E) E H) (by kernel_rfl) (vc_seq (K := (uf1_7_M nx35 Q E)) (uf1_49ok nx35 Q E τ H h) (uf1_9ok nx35 Q E)))

@[reducible] noncomputable def uf1_q27 (nx35 : Int → HP) (Q : QT) (E : ET) : Exit → Tau → Heap → Prop := (xthen (uf1_47_M nx35 Q E) (uf1_q6 nx35 Q E))

@[reducible] noncomputable def uf1_p50 : Code := sA uf1_p16

def uf1_51 (nx35 : Int → HP) (Q : QT) (E : ET) (x0 : OA) (l0 : Nat) (c0 : Nat) (x3 : OA) (l3 : Nat) (c3 : Nat) (x4 : Int) (x5 : OA) (x6 : Int) (x7 : Int) (x19 : OA) (l19 : Nat) (c19 : Nat) (x20 : Int) (x21 : Int) (H : Heap) : Prop :=
 (0 ≤ (x4 : Int) ∧ (x4 : Int) < ((l3 : Nat) : Int)) ∧ ptr x3 fun q169 =>
 wr (Addr.add q169 ((x4 : Int).toNat * 1)) [(.int .i64 1)] H fun H170 =>
 uf1_47 nx35 Q E x0 l0 c0 x3 l3 c3 x4 x5 x6 x7 x19 l19 c19 x20 x21 H170

def uf1_51_M (nx35 : Int → HP) (Q : QT) (E : ET) (τ : Tau) (H : Heap) : Prop := mSl (τ 0) fun x0 l0 c0 => mSl (τ 3) fun x3 l3 c3 => mI .i64 (τ 4) fun x4 => mP (τ 5) fun x5 => mI .i64 (τ 6) fun x6 => mI .i64 (τ 7) fun x7 => mSl (τ 19) fun x19 l19 c19 => mI .i64 (τ 20) fun x20 => mI .i64 (τ 21) fun x21 => uf1_51 nx35 Q E x0 l0 c0 x3 l3 c3 x4 x5 x6 x7 x19 l19 c19 x20 x21 H

theorem uf1_52ok (nx35 : Int → HP) (Q : QT) (E : ET) (τ : Tau) (H : Heap) (h : uf1_51_M nx35 Q E τ H) : vc Pr uf1_p50 τ (uf1_q27 nx35 Q E) E H :=
  vSl (i := 0) h (fun x0 l0 c0 h => vSl (i := 3) h (fun x3 l3 c3 h => vI (i := 4) h (fun x4 h => vP (i := 5) h (fun x5 h => vI (i := 6) h (fun x6 h => vI (i := 7) h (fun x7 h => vSl (i := 19) h (fun x19 l19 c19 h => vI (i := 20) h (fun x20 h => vI (i := 21) h (fun x21 h => (conv (by kernel_rfl) h))))))))))

theorem uf1_53ok (nx35 : Int → HP) (Q : QT) (E : ET) (τ : Tau) (H : Heap) (h : uf1_51_M nx35 Q E τ H) : vc Pr uf1_p16 τ (uf1_q6 nx35 Q E) E H :=
  (conv (B := vc Pr uf1_p16 τ (uf1_q6 nx35 Q E) E H) (by kernel_rfl) (vc_seq (K := (uf1_47_M nx35 Q E)) (uf1_52ok nx35 Q E τ H h) (uf1_50ok nx35 Q E)))

@[reducible] noncomputable def uf1_q28 (nx35 : Int → HP) (Q : QT) (E : ET) : Exit → Tau → Heap → Prop := (xthen (uf1_51_M nx35 Q E) (uf1_q6 nx35 Q E))

@[reducible] noncomputable def uf1_p51 : Code := sA uf1_p15

def uf1_54 (nx35 : Int → HP) (Q : QT) (E : ET) (x0 : OA) (l0 : Nat) (c0 : Nat) (x3 : OA) (l3 : Nat) (c3 : Nat) (x4 : Int) (x5 : OA) (x19 : OA) (l19 : Nat) (c19 : Nat) (x20 : Int) (x21 : Int) (H : Heap) : Prop :=
 uf1_51 nx35 Q E x0 l0 c0 x3 l3 c3 x4 x5 0 0 x19 l19 c19 x20 x21 H

def uf1_54_M (nx35 : Int → HP) (Q : QT) (E : ET) (τ : Tau) (H : Heap) : Prop := mSl (τ 0) fun x0 l0 c0 => mSl (τ 3) fun x3 l3 c3 => mI .i64 (τ 4) fun x4 => mP (τ 5) fun x5 => mSl (τ 19) fun x19 l19 c19 => mI .i64 (τ 20) fun x20 => mI .i64 (τ 21) fun x21 => uf1_54 nx35 Q E x0 l0 c0 x3 l3 c3 x4 x5 x19 l19 c19 x20 x21 H

theorem uf1_55ok (nx35 : Int → HP) (Q : QT) (E : ET) (τ : Tau) (H : Heap) (h : uf1_54_M nx35 Q E τ H) : vc Pr uf1_p51 τ (uf1_q28 nx35 Q E) E H :=
  vSl (i := 0) h (fun x0 l0 c0 h => vSl (i := 3) h (fun x3 l3 c3 h => vI (i := 4) h (fun x4 h => vP (i := 5) h (fun x5 h => vSl (i := 19) h (fun x19 l19 c19 h => vI (i := 20) h (fun x20 h => vI (i := 21) h (fun x21 h => (conv (by kernel_rfl) h))))))))

theorem uf1_56ok (nx35 : Int → HP) (Q : QT) (E : ET) (τ : Tau) (H : Heap) (h : uf1_54_M nx35 Q E τ H) : vc Pr uf1_p15 τ (uf1_q6 nx35 Q E) E H :=
  (conv (B := vc Pr uf1_p15 τ (uf1_q6 nx35 Q E) E H) (by kernel_rfl) (vc_seq (K := (uf1_51_M nx35 Q E)) (uf1_55ok nx35 Q E τ H h) (uf1_53ok nx35 Q E)))

@[reducible] noncomputable def uf1_q29 (nx35 : Int → HP) (Q : QT) (E : ET) : Exit → Tau → Heap → Prop := (xthen (uf1_54_M nx35 Q E) (uf1_q6 nx35 Q E))

@[reducible] noncomputable def uf1_p52 : Code := sA uf1_p14

@[reducible] noncomputable def uf1_p53 : Code := sB uf1_p52

def uf1_57 (nx35 : Int → HP) (Q : QT) (E : ET) (x0 : OA) (l0 : Nat) (c0 : Nat) (x3 : OA) (l3 : Nat) (c3 : Nat) (x4 : Int) (x5 : OA) (x19 : OA) (l19 : Nat) (c19 : Nat) (x20 : Int) (x21 : Int) (x34 : Bool) (H : Heap) : Prop :=
 sel x34
 (Q (.bool false) H)
 (uf1_54 nx35 Q E x0 l0 c0 x3 l3 c3 x4 x5 x19 l19 c19 x20 x21 H)

def uf1_57_M (nx35 : Int → HP) (Q : QT) (E : ET) (τ : Tau) (H : Heap) : Prop := mSl (τ 0) fun x0 l0 c0 => mSl (τ 3) fun x3 l3 c3 => mI .i64 (τ 4) fun x4 => mP (τ 5) fun x5 => mSl (τ 19) fun x19 l19 c19 => mI .i64 (τ 20) fun x20 => mI .i64 (τ 21) fun x21 => mB (τ 34) fun x34 => uf1_57 nx35 Q E x0 l0 c0 x3 l3 c3 x4 x5 x19 l19 c19 x20 x21 x34 H

theorem uf1_58ok (nx35 : Int → HP) (Q : QT) (E : ET) (τ : Tau) (H : Heap) (h : uf1_57_M nx35 Q E τ H) : vc Pr uf1_p53 τ (uf1_q29 nx35 Q E) E H :=
  vSl (i := 0) h (fun x0 l0 c0 h => vSl (i := 3) h (fun x3 l3 c3 h => vI (i := 4) h (fun x4 h => vP (i := 5) h (fun x5 h => vSl (i := 19) h (fun x19 l19 c19 h => vI (i := 20) h (fun x20 h => vI (i := 21) h (fun x21 h => vB (i := 34) h (fun x34 h => (conv (by kernel_rfl) h)))))))))

@[reducible] noncomputable def uf1_q30 (nx35 : Int → HP) (Q : QT) (E : ET) : Exit → Tau → Heap → Prop := (xthen (uf1_57_M nx35 Q E) (uf1_q29 nx35 Q E))

@[reducible] noncomputable def uf1_p54 : Code := sA uf1_p52

def uf1_59 (nx35 : Int → HP) (Q : QT) (E : ET) (x0 : OA) (l0 : Nat) (c0 : Nat) (x3 : OA) (l3 : Nat) (c3 : Nat) (x4 : Int) (x5 : OA) (x19 : OA) (l19 : Nat) (c19 : Nat) (x20 : Int) (x21 : Int) (H : Heap) : Prop :=
 ptr x5 fun q176 =>
 ldI .i64 q176 H fun n177 =>
 sel ((n177 : Int) != 2)
 (ptr x5 fun q178 =>
 ∃ n179 n180 n181 n182 : Int, Heap.rd H (Addr.add q178 3) 0 [(.int .u64 n179), (.int .u64 n180), (.int .u64 n181), (.int .u64 n182)] ∧ uf1_57 nx35 Q E x0 l0 c0 x3 l3 c3 x4 x5 x19 l19 c19 x20 x21 (!(eqVs [(.int .u64 n179), (.int .u64 n180), (.int .u64 n181), (.int .u64 n182)] [(.int .u64 0), (.int .u64 0), (.int .u64 0), (.int .u64 0)])) H)
 (uf1_57 nx35 Q E x0 l0 c0 x3 l3 c3 x4 x5 x19 l19 c19 x20 x21 false H)

def uf1_59_M (nx35 : Int → HP) (Q : QT) (E : ET) (τ : Tau) (H : Heap) : Prop := mSl (τ 0) fun x0 l0 c0 => mSl (τ 3) fun x3 l3 c3 => mI .i64 (τ 4) fun x4 => mP (τ 5) fun x5 => mSl (τ 19) fun x19 l19 c19 => mI .i64 (τ 20) fun x20 => mI .i64 (τ 21) fun x21 => uf1_59 nx35 Q E x0 l0 c0 x3 l3 c3 x4 x5 x19 l19 c19 x20 x21 H

theorem uf1_60ok (nx35 : Int → HP) (Q : QT) (E : ET) (τ : Tau) (H : Heap) (h : uf1_59_M nx35 Q E τ H) : vc Pr uf1_p54 τ (uf1_q30 nx35 Q E) E H :=
  vSl (i := 0) h (fun x0 l0 c0 h => vSl (i := 3) h (fun x3 l3 c3 h => vI (i := 4) h (fun x4 h => vP (i := 5) h (fun x5 h => vSl (i := 19) h (fun x19 l19 c19 h => vI (i := 20) h (fun x20 h => vI (i := 21) h (fun x21 h => (conv (by kernel_rfl) h))))))))

theorem uf1_61ok (nx35 : Int → HP) (Q : QT) (E : ET) (τ : Tau) (H : Heap) (h : uf1_59_M nx35 Q E τ H) : vc Pr uf1_p52 τ (uf1_q29 nx35 Q E) E H :=
  (conv (B := vc Pr uf1_p52 τ (uf1_q29 nx35 Q E) E H) (by kernel_rfl) (vc_seq (K := (uf1_57_M nx35 Q E)) (uf1_60ok nx35 Q E τ H h) (uf1_58ok nx35 Q E)))

theorem uf1_62ok (nx35 : Int → HP) (Q : QT) (E : ET) (τ : Tau) (H : Heap) (h : uf1_59_M nx35 Q E τ H) : vc Pr uf1_p14 τ (uf1_q6 nx35 Q E) E H :=
  (conv (B := vc Pr uf1_p14 τ (uf1_q6 nx35 Q E) E H) (by kernel_rfl) (vc_seq (K := (uf1_54_M nx35 Q E)) (uf1_61ok nx35 Q E τ H h) (uf1_56ok nx35 Q E)))

@[reducible] noncomputable def uf1_q31 (nx35 : Int → HP) (Q : QT) (E : ET) : Exit → Tau → Heap → Prop := (xthen (uf1_59_M nx35 Q E) (uf1_q6 nx35 Q E))

@[reducible] noncomputable def uf1_p55 : Code := sA uf1_p13

def uf1_63 (nx35 : Int → HP) (Q : QT) (E : ET) (x0 : OA) (l0 : Nat) (c0 : Nat) (x3 : OA) (l3 : Nat) (c3 : Nat) (x19 : OA) (l19 : Nat) (c19 : Nat) (x20 : Int) (x21 : Int) (H : Heap) : Prop :=
 (0 ≤ (x21 : Int) ∧ (x21 : Int) < ((l19 : Nat) : Int)) ∧ ptr x19 fun q183 =>
 ∃ n184 n185 n186 n187 n188 n189 n190 : Int, Heap.rd H (Addr.add q183 ((x21 : Int).toNat * 7)) 0 [(.int .i64 n184), (.int .i64 n185), (.int .i64 n186), (.int .u64 n187), (.int .u64 n188), (.int .u64 n189), (.int .u64 n190)] ∧ nw (.cells #[(.int .i64 0), (.int .i64 0), (.int .i64 0), (.int .u64 0), (.int .u64 0), (.int .u64 0), (.int .u64 0)] 48 (0, 0)) H fun i191 H192 =>
 wr ⟨i191, 0, none⟩ [(.int .i64 n184), (.int .i64 n185), (.int .i64 n186), (.int .u64 n187), (.int .u64 n188), (.int .u64 n189), (.int .u64 n190)] H192 fun H193 =>
 uf1_59 nx35 Q E x0 l0 c0 x3 l3 c3 x21 (some ⟨i191, 0, none⟩) x19 l19 c19 x20 x21 H193

def uf1_63_M (nx35 : Int → HP) (Q : QT) (E : ET) (τ : Tau) (H : Heap) : Prop := mSl (τ 0) fun x0 l0 c0 => mSl (τ 3) fun x3 l3 c3 => mSl (τ 19) fun x19 l19 c19 => mI .i64 (τ 20) fun x20 => mI .i64 (τ 21) fun x21 => uf1_63 nx35 Q E x0 l0 c0 x3 l3 c3 x19 l19 c19 x20 x21 H

theorem uf1_64ok (nx35 : Int → HP) (Q : QT) (E : ET) (τ : Tau) (H : Heap) (h : uf1_63_M nx35 Q E τ H) : vc Pr uf1_p55 τ (uf1_q31 nx35 Q E) E H :=
  vSl (i := 0) h (fun x0 l0 c0 h => vSl (i := 3) h (fun x3 l3 c3 h => vSl (i := 19) h (fun x19 l19 c19 h => vI (i := 20) h (fun x20 h => vI (i := 21) h (fun x21 h => (conv (by kernel_rfl) h))))))

theorem uf1_65ok (nx35 : Int → HP) (Q : QT) (E : ET) (τ : Tau) (H : Heap) (h : uf1_63_M nx35 Q E τ H) : vc Pr uf1_p13 τ (uf1_q6 nx35 Q E) E H :=
  (conv (B := vc Pr uf1_p13 τ (uf1_q6 nx35 Q E) E H) (by kernel_rfl) (vc_seq (K := (uf1_59_M nx35 Q E)) (uf1_64ok nx35 Q E τ H h) (uf1_62ok nx35 Q E)))

theorem uf1_66ok (nx35 : Int → HP) (Q : QT) (E : ET) (τ : Tau) (H : Heap) (h : uf1_63_M nx35 Q E τ H) : vc Pr uf1_p12 τ (uf1_q5 nx35 Q E) E H :=
  (conv (B := vc Pr uf1_p12 τ (uf1_q5 nx35 Q E) E H) (by kernel_rfl) (uf1_65ok nx35 Q E τ H h))

theorem uf1_67ok (nx35 : Int → HP) (Q : QT) (E : ET) (τ : Tau) (H : Heap) (h : uf1_63_M nx35 Q E τ H) : vc Pr uf1_p10 τ (uf1_q4 nx35 Q E) E H :=
  (conv (B := vc Pr uf1_p10 τ (uf1_q4 nx35 Q E) E H) (by kernel_rfl) (vc_seq (K := (uf1_3_M nx35 Q E)) (uf1_66ok nx35 Q E τ H h) (uf1_4ok nx35 Q E)))

@[reducible] noncomputable def uf1_q32 (nx35 : Int → HP) (Q : QT) (E : ET) : Exit → Tau → Heap → Prop := (xthen (uf1_63_M nx35 Q E) (uf1_q4 nx35 Q E))

@[reducible] noncomputable def uf1_p56 : Code := sA uf1_p9

def uf1_68 (nx35 : Int → HP) (Q : QT) (E : ET) (x0 : OA) (l0 : Nat) (c0 : Nat) (x3 : OA) (l3 : Nat) (c3 : Nat) (x19 : OA) (l19 : Nat) (c19 : Nat) (x20 : Int) (x21 : Int) (x22 : Bool) (H : Heap) : Prop :=
 sel x22
 (uf1_63 nx35 Q E x0 l0 c0 x3 l3 c3 x19 l19 c19 x20 x21 H)
 (uf1_1 Q E x0 l0 c0 x3 l3 c3 H)

def uf1_68_M (nx35 : Int → HP) (Q : QT) (E : ET) (τ : Tau) (H : Heap) : Prop := mSl (τ 0) fun x0 l0 c0 => mSl (τ 3) fun x3 l3 c3 => mSl (τ 19) fun x19 l19 c19 => mI .i64 (τ 20) fun x20 => mI .i64 (τ 21) fun x21 => mB (τ 22) fun x22 => uf1_68 nx35 Q E x0 l0 c0 x3 l3 c3 x19 l19 c19 x20 x21 x22 H

theorem uf1_69ok (nx35 : Int → HP) (Q : QT) (E : ET) (τ : Tau) (H : Heap) (h : uf1_68_M nx35 Q E τ H) : vc Pr uf1_p56 τ (uf1_q32 nx35 Q E) E H :=
  vSl (i := 0) h (fun x0 l0 c0 h => vSl (i := 3) h (fun x3 l3 c3 h => vSl (i := 19) h (fun x19 l19 c19 h => vI (i := 20) h (fun x20 h => vI (i := 21) h (fun x21 h => vB (i := 22) h (fun x22 h => (conv (by kernel_rfl) h)))))))

theorem uf1_70ok (nx35 : Int → HP) (Q : QT) (E : ET) (τ : Tau) (H : Heap) (h : uf1_68_M nx35 Q E τ H) : vc Pr uf1_p9 τ (uf1_q4 nx35 Q E) E H :=
  (conv (B := vc Pr uf1_p9 τ (uf1_q4 nx35 Q E) E H) (by kernel_rfl) (vc_seq (K := (uf1_63_M nx35 Q E)) (uf1_69ok nx35 Q E τ H h) (uf1_67ok nx35 Q E)))

@[reducible] noncomputable def uf1_q33 (nx35 : Int → HP) (Q : QT) (E : ET) : Exit → Tau → Heap → Prop := (xthen (uf1_68_M nx35 Q E) (uf1_q4 nx35 Q E))

@[reducible] noncomputable def uf1_p57 : Code := sA uf1_p8

def uf1_71 (nx35 : Int → HP) (Q : QT) (E : ET) (x0 : OA) (l0 : Nat) (c0 : Nat) (x3 : OA) (l3 : Nat) (c3 : Nat) (x19 : OA) (l19 : Nat) (c19 : Nat) (x20 : Int) (x21 : Int) (H : Heap) : Prop :=
 uf1_68 nx35 Q E x0 l0 c0 x3 l3 c3 x19 l19 c19 x20 x21 (decide ((x21 : Int) < x20)) H

def uf1_71_M (nx35 : Int → HP) (Q : QT) (E : ET) (τ : Tau) (H : Heap) : Prop := mSl (τ 0) fun x0 l0 c0 => mSl (τ 3) fun x3 l3 c3 => mSl (τ 19) fun x19 l19 c19 => mI .i64 (τ 20) fun x20 => mI .i64 (τ 21) fun x21 => uf1_71 nx35 Q E x0 l0 c0 x3 l3 c3 x19 l19 c19 x20 x21 H

theorem uf1_72ok (nx35 : Int → HP) (Q : QT) (E : ET) (τ : Tau) (H : Heap) (h : uf1_71_M nx35 Q E τ H) : vc Pr uf1_p57 τ (uf1_q33 nx35 Q E) E H :=
  vSl (i := 0) h (fun x0 l0 c0 h => vSl (i := 3) h (fun x3 l3 c3 h => vSl (i := 19) h (fun x19 l19 c19 h => vI (i := 20) h (fun x20 h => vI (i := 21) h (fun x21 h => (conv (by kernel_rfl) h))))))

theorem uf1_73ok (nx35 : Int → HP) (Q : QT) (E : ET) (τ : Tau) (H : Heap) (h : uf1_71_M nx35 Q E τ H) : vc Pr uf1_p8 τ (uf1_q4 nx35 Q E) E H :=
  (conv (B := vc Pr uf1_p8 τ (uf1_q4 nx35 Q E) E H) (by kernel_rfl) (vc_seq (K := (uf1_68_M nx35 Q E)) (uf1_72ok nx35 Q E τ H h) (uf1_70ok nx35 Q E)))

def uf1_74 (Q : QT) (E : ET) (x0 : OA) (l0 : Nat) (c0 : Nat) (x3 : OA) (l3 : Nat) (c3 : Nat) (x19 : OA) (l19 : Nat) (c19 : Nat) (x20 : Int) (x21 : Int) (H : Heap) : Prop :=
 ∃ (I : Int → HP) (μ : Int → Heap → Nat), I x21 H ∧ ∀ (x21 : Int) (H : Heap), I x21 H →
 uf1_71 (fun x21' H1 => I x21' H1 ∧ μ x21' H1 < μ x21 H) Q E x0 l0 c0 x3 l3 c3 x19 l19 c19 x20 x21 H

def uf1_74_M (Q : QT) (E : ET) (τ : Tau) (H : Heap) : Prop := mSl (τ 0) fun x0 l0 c0 => mSl (τ 3) fun x3 l3 c3 => mSl (τ 19) fun x19 l19 c19 => mI .i64 (τ 20) fun x20 => mI .i64 (τ 21) fun x21 => uf1_74 Q E x0 l0 c0 x3 l3 c3 x19 l19 c19 x20 x21 H

theorem uf1_75ok (Q : QT) (E : ET) (τ : Tau) (H : Heap) (h : uf1_74_M Q E τ H) : vc Pr uf1_p7 τ (uf1_q3 Q E) E H :=
  vSl (i := 0) h (fun x0 l0 c0 h => vSl (i := 3) h (fun x3 l3 c3 h => vSl (i := 19) h (fun x19 l19 c19 h => vI (i := 20) h (fun x20 h => vI (i := 21) h (fun x21 h => match h with | ⟨I, μ, h0, hr⟩ => (conv (B := vc Pr uf1_p7 (Tau.upd (Tau.upd (Tau.upd (Tau.upd (Tau.upd τ 0 (.slice x0 l0 c0)) 3 (.slice x3 l3 c3)) 19 (.slice x19 l19 c19)) 20 (.int .i64 x20)) 21 (.int .i64 x21)) (uf1_q3 Q E) E H) (by kernel_rfl) (vc_loop (c := sI uf1_p7) (τ := (Tau.upd (Tau.upd (Tau.upd (Tau.upd (Tau.upd τ 0 (.slice x0 l0 c0)) 3 (.slice x3 l3 c3)) 19 (.slice x19 l19 c19)) 20 (.int .i64 x20)) 21 (.int .i64 x21))) [0, 3, 19, 20] (fun τ H => mI .i64 (τ 21) fun x21' => I x21' H) (fun τ H => μ (gI (τ 21)) H) (by kernel_rfl) h0 (fun τ1 H1 hf hI => fix_elim (τ := τ1) (i := 0) (v := (.slice x0 l0 c0)) (G := fun τ => vc Pr (sI uf1_p7) τ (xthen (fun τ2 H2 => (mI .i64 (τ2 21) fun x21' => I x21' H2) ∧ μ (gI (τ2 21)) H2 < μ (gI (τ 21)) H1) (uf1_q3 Q E)) E H1) (hf 0 (by simp)) (fix_elim (τ := (Tau.upd τ1 0 (.slice x0 l0 c0))) (i := 3) (v := (.slice x3 l3 c3)) (G := fun τ => vc Pr (sI uf1_p7) τ (xthen (fun τ2 H2 => (mI .i64 (τ2 21) fun x21' => I x21' H2) ∧ μ (gI (τ2 21)) H2 < μ (gI (τ 21)) H1) (uf1_q3 Q E)) E H1) (hf 3 (by simp)) (fix_elim (τ := (Tau.upd (Tau.upd τ1 0 (.slice x0 l0 c0)) 3 (.slice x3 l3 c3))) (i := 19) (v := (.slice x19 l19 c19)) (G := fun τ => vc Pr (sI uf1_p7) τ (xthen (fun τ2 H2 => (mI .i64 (τ2 21) fun x21' => I x21' H2) ∧ μ (gI (τ2 21)) H2 < μ (gI (τ 21)) H1) (uf1_q3 Q E)) E H1) (hf 19 (by simp)) (fix_elim (τ := (Tau.upd (Tau.upd (Tau.upd τ1 0 (.slice x0 l0 c0)) 3 (.slice x3 l3 c3)) 19 (.slice x19 l19 c19))) (i := 20) (v := (.int .i64 x20)) (G := fun τ => vc Pr (sI uf1_p7) τ (xthen (fun τ2 H2 => (mI .i64 (τ2 21) fun x21' => I x21' H2) ∧ μ (gI (τ2 21)) H2 < μ (gI (τ 21)) H1) (uf1_q3 Q E)) E H1) (hf 20 (by simp)) (mI_elim (i := 21) (G := fun τ => vc Pr (sI uf1_p7) τ (xthen (fun τ2 H2 => (mI .i64 (τ2 21) fun x21' => I x21' H2) ∧ μ (gI (τ2 21)) H2 < μ (gI (τ 21)) H1) (uf1_q3 Q E)) E H1) hI (fun x21r h => (conv (B := vc Pr (sI uf1_p7) (Tau.upd (Tau.upd (Tau.upd (Tau.upd (Tau.upd τ1 0 (.slice x0 l0 c0)) 3 (.slice x3 l3 c3)) 19 (.slice x19 l19 c19)) 20 (.int .i64 x20)) 21 (.int .i64 x21r)) (xthen (fun τ2 H2 => (mI .i64 (τ2 21) fun x21' => I x21' H2) ∧ μ (gI (τ2 21)) H2 < μ (gI ((Tau.upd (Tau.upd (Tau.upd (Tau.upd (Tau.upd τ1 0 (.slice x0 l0 c0)) 3 (.slice x3 l3 c3)) 19 (.slice x19 l19 c19)) 20 (.int .i64 x20)) 21 (.int .i64 x21r)) 21)) H1) (uf1_q3 Q E)) E H1) (by kernel_rfl) (vc_xthen (uf1_73ok (fun x21' H2 => I x21' H2 ∧ μ x21' H2 < μ x21r H1) Q E (Tau.upd (Tau.upd (Tau.upd (Tau.upd (Tau.upd τ1 0 (.slice x0 l0 c0)) 3 (.slice x3 l3 c3)) 19 (.slice x19 l19 c19)) 20 (.int .i64 x20)) 21 (.int .i64 x21r)) H1 (conv (B := uf1_71_M (fun x21' H2 => I x21' H2 ∧ μ x21' H2 < μ x21r H1) Q E (Tau.upd (Tau.upd (Tau.upd (Tau.upd (Tau.upd τ1 0 (.slice x0 l0 c0)) 3 (.slice x3 l3 c3)) 19 (.slice x19 l19 c19)) 20 (.int .i64 x20)) 21 (.int .i64 x21r)) H1) (by kernel_rfl) (hr x21r H1 h))) (fun τ2 H2 hk => mI_elim (i := 21) (G := fun τ => (mI .i64 (τ 21) fun x21' => I x21' H2) ∧ μ (gI (τ 21)) H2 < μ x21r H1) hk (fun x21' h => h)))))))))))))))))

theorem uf1_76ok (Q : QT) (E : ET) (τ : Tau) (H : Heap) (h : uf1_74_M Q E τ H) : vc Pr uf1_p6 τ (uf1_q2 Q E) E H :=
  (conv (B := vc Pr uf1_p6 τ (uf1_q2 Q E) E H) (by kernel_rfl) (uf1_75ok Q E τ H h))

@[reducible] noncomputable def uf1_q34 (Q : QT) (E : ET) : Exit → Tau → Heap → Prop := (xthen (uf1_74_M Q E) (uf1_q2 Q E))

@[reducible] noncomputable def uf1_p58 : Code := sA uf1_p5

def uf1_77 (Q : QT) (E : ET) (x0 : OA) (l0 : Nat) (c0 : Nat) (x3 : OA) (l3 : Nat) (c3 : Nat) (H : Heap) : Prop :=
 uf1_74 Q E x0 l0 c0 x3 l3 c3 x0 l0 c0 ((l0 : Nat) : Int) 0 H

def uf1_77_M (Q : QT) (E : ET) (τ : Tau) (H : Heap) : Prop := mSl (τ 0) fun x0 l0 c0 => mSl (τ 3) fun x3 l3 c3 => uf1_77 Q E x0 l0 c0 x3 l3 c3 H

theorem uf1_78ok (Q : QT) (E : ET) (τ : Tau) (H : Heap) (h : uf1_77_M Q E τ H) : vc Pr uf1_p58 τ (uf1_q34 Q E) E H :=
  vSl (i := 0) h (fun x0 l0 c0 h => vSl (i := 3) h (fun x3 l3 c3 h => (conv (by kernel_rfl) h)))

theorem uf1_79ok (Q : QT) (E : ET) (τ : Tau) (H : Heap) (h : uf1_77_M Q E τ H) : vc Pr uf1_p5 τ (uf1_q2 Q E) E H :=
  (conv (B := vc Pr uf1_p5 τ (uf1_q2 Q E) E H) (by kernel_rfl) (vc_seq (K := (uf1_74_M Q E)) (uf1_78ok Q E τ H h) (uf1_76ok Q E)))

theorem uf1_80ok (Q : QT) (E : ET) (τ : Tau) (H : Heap) (h : uf1_77_M Q E τ H) : vc Pr uf1_p3 τ (uf1_q1 Q E) E H :=
  (conv (B := vc Pr uf1_p3 τ (uf1_q1 Q E) E H) (by kernel_rfl) (vc_seq (K := (uf1_1_M Q E)) (uf1_79ok Q E τ H h) (uf1_2ok Q E)))

@[reducible] noncomputable def uf1_q35 (Q : QT) (E : ET) : Exit → Tau → Heap → Prop := (xthen (uf1_77_M Q E) (uf1_q1 Q E))

@[reducible] noncomputable def uf1_p59 : Code := sA uf1_p2

def uf1_81 (Q : QT) (E : ET) (x0 : OA) (l0 : Nat) (c0 : Nat) (H : Heap) : Prop :=
 (0 ≤ (((l0 : Nat) : Int) : Int) ∧ (((l0 : Nat) : Int) : Int) ≤ ((l0 : Nat) : Int) ∧ (((l0 : Nat) : Int) : Int) ≤ 281474976710656 ∧ ((8 : Nat) : Int) * ((l0 : Nat) : Int) ≤ 281474976710656) ∧ nw (.cells (rep (((l0 : Nat) : Int) : Int).toNat [(.int .i64 0)]).toArray 3 (0, 0)) H fun i194 H195 =>
 uf1_77 Q E x0 l0 c0 (some ⟨i194, 0, none⟩) ((((l0 : Nat) : Int) : Int).toNat) ((((l0 : Nat) : Int) : Int).toNat) H195

def uf1_81_M (Q : QT) (E : ET) (τ : Tau) (H : Heap) : Prop := mSl (τ 0) fun x0 l0 c0 => uf1_81 Q E x0 l0 c0 H

theorem uf1_82ok (Q : QT) (E : ET) (τ : Tau) (H : Heap) (h : uf1_81_M Q E τ H) : vc Pr uf1_p59 τ (uf1_q35 Q E) E H :=
  vSl (i := 0) h (fun x0 l0 c0 h => (conv (by kernel_rfl) h))

theorem uf1_83ok (Q : QT) (E : ET) (τ : Tau) (H : Heap) (h : uf1_81_M Q E τ H) : vc Pr uf1_p2 τ (uf1_q1 Q E) E H :=
  (conv (B := vc Pr uf1_p2 τ (uf1_q1 Q E) E H) (by kernel_rfl) (vc_seq (K := (uf1_77_M Q E)) (uf1_82ok Q E τ H h) (uf1_80ok Q E)))

@[reducible] noncomputable def uf1_q36 (Q : QT) (E : ET) : Exit → Tau → Heap → Prop := (xthen (uf1_81_M Q E) (uf1_q1 Q E))

@[reducible] noncomputable def uf1_p60 : Code := sA uf1_p1

@[reducible] noncomputable def uf1_p61 : Code := sB uf1_p60

def uf1_84 (Q : QT) (E : ET) (x0 : OA) (l0 : Nat) (c0 : Nat) (x15 : Bool) (H : Heap) : Prop :=
 sel x15
 (Q (.bool false) H)
 (uf1_81 Q E x0 l0 c0 H)

def uf1_84_M (Q : QT) (E : ET) (τ : Tau) (H : Heap) : Prop := mSl (τ 0) fun x0 l0 c0 => mB (τ 15) fun x15 => uf1_84 Q E x0 l0 c0 x15 H

theorem uf1_85ok (Q : QT) (E : ET) (τ : Tau) (H : Heap) (h : uf1_84_M Q E τ H) : vc Pr uf1_p61 τ (uf1_q36 Q E) E H :=
  vSl (i := 0) h (fun x0 l0 c0 h => vB (i := 15) h (fun x15 h => (conv (by kernel_rfl) h)))

@[reducible] noncomputable def uf1_q37 (Q : QT) (E : ET) : Exit → Tau → Heap → Prop := (xthen (uf1_84_M Q E) (uf1_q36 Q E))

@[reducible] noncomputable def uf1_p62 : Code := sA uf1_p60

def uf1_86 (Q : QT) (E : ET) (x0 : OA) (l0 : Nat) (c0 : Nat) (H : Heap) : Prop :=
 sel ((((l0 : Nat) : Int) : Int) == 0)
 (uf1_84 Q E x0 l0 c0 true H)
 (uf1_84 Q E x0 l0 c0 (decide ((((l0 : Nat) : Int) : Int) > 256)) H)

def uf1_86_M (Q : QT) (E : ET) (τ : Tau) (H : Heap) : Prop := mSl (τ 0) fun x0 l0 c0 => uf1_86 Q E x0 l0 c0 H

theorem uf1_87ok (Q : QT) (E : ET) (τ : Tau) (H : Heap) (h : uf1_86_M Q E τ H) : vc Pr uf1_p62 τ (uf1_q37 Q E) E H :=
  vSl (i := 0) h (fun x0 l0 c0 h => (conv (by kernel_rfl) h))

theorem uf1_88ok (Q : QT) (E : ET) (τ : Tau) (H : Heap) (h : uf1_86_M Q E τ H) : vc Pr uf1_p60 τ (uf1_q36 Q E) E H :=
  (conv (B := vc Pr uf1_p60 τ (uf1_q36 Q E) E H) (by kernel_rfl) (vc_seq (K := (uf1_84_M Q E)) (uf1_87ok Q E τ H h) (uf1_85ok Q E)))

theorem uf1_89ok (Q : QT) (E : ET) (τ : Tau) (H : Heap) (h : uf1_86_M Q E τ H) : vc Pr uf1_p1 τ (uf1_q1 Q E) E H :=
  (conv (B := vc Pr uf1_p1 τ (uf1_q1 Q E) E H) (by kernel_rfl) (vc_seq (K := (uf1_81_M Q E)) (uf1_88ok Q E τ H h) (uf1_83ok Q E)))

@[reducible] noncomputable def uf1_q38 (Q : QT) (E : ET) : Exit → Tau → Heap → Prop := (xthen (uf1_86_M Q E) (uf1_q1 Q E))

@[reducible] noncomputable def uf1_p63 : Code := sA uf1_p0

def uf1 (Q : QT) (E : ET) (a0 : OA) (a0l : Nat) (a0c : Nat) (H : Heap) : Prop :=
 uf1_86 Q E a0 a0l a0c H

theorem uf1_fn (a0 : OA) (a0l : Nat) (a0c : Nat) (Q : QT) (E : ET) (H : Heap) (h : uf1 Q E a0 a0l a0c H)   : Does Pr 40 #[(.slice a0 a0l a0c)] H Q E :=
  Fn_of_vc (fn := Try.f40) (c := uf1_p0) (args := [(.slice a0 a0l a0c)]) mixed (by kernel_rfl) (by kernel_rfl) (by kernel_rfl) (by kernel_rfl) (by kernel_rfl) ((conv (B := vc Pr uf1_p0 (argT [(.slice a0 a0l a0c)]) (uf1_q1 Q E) E H) (by kernel_rfl) (vc_seq (K := (uf1_86_M Q E)) (conv (B := vc Pr uf1_p63 (argT [(.slice a0 a0l a0c)]) (uf1_q38 Q E) E H) (by kernel_rfl) h) (uf1_89ok Q E))))

/-! (*jobmux/regex.parser).pattern -/
@[reducible] noncomputable def ug1_q1 (Q : QT) (E : ET) : Exit → Tau → Heap → Prop := (retQ Pr (Try.f60).results.toList Q)

@[reducible] noncomputable def ug1_p0 : Code := bodyOf Try.f60

@[reducible] noncomputable def ug1_p1 : Code := sB ug1_p0

@[reducible] noncomputable def ug1_p2 : Code := sB ug1_p1

@[reducible] noncomputable def ug1_q2 (Q : QT) (E : ET) : Exit → Tau → Heap → Prop := (xblock 0 (ug1_q1 Q E))

@[reducible] noncomputable def ug1_p3 : Code := sI ug1_p2

@[reducible] noncomputable def ug1_q3 (nx4 : Int → HP) (Q : QT) (E : ET) : Exit → Tau → Heap → Prop := (xthen (fun τ H => mI .i64 (τ 3) fun x3' => nx4 x3' H) (ug1_q2 Q E))

@[reducible] noncomputable def ug1_p4 : Code := sI ug1_p3

@[reducible] noncomputable def ug1_q4 (nx4 : Int → HP) (Q : QT) (E : ET) : Exit → Tau → Heap → Prop := (xblock 1 (ug1_q3 nx4 Q E))

@[reducible] noncomputable def ug1_p5 : Code := sI ug1_p4

@[reducible] noncomputable def ug1_p6 : Code := sB ug1_p5

def ug1_1 (nx4 : Int → HP) (Q : QT) (E : ET) (x0 : OA) (x3 : Int) (H : Heap) : Prop :=
 ptr x0 fun q9 =>
 ldI .i64 (Addr.add q9 1) H fun n10 =>
 ptr x0 fun q11 =>
 wr (Addr.add q11 1) [(.int .i64 (IntKind.wrap .i64 (n10 + 1)))] H fun H12 =>
 Does Pr 93 #[(.pointer x0)] H12 (fun v13 H14 =>
 ∃ n15 : Int, v13 = (.int .i64 n15) ∧ Does Pr 95 #[(.pointer x0), (.agg #[(.int .i64 4), (.int .i64 x3), (.int .i64 n15), (.int .u64 0), (.int .u64 0), (.int .u64 0), (.int .u64 0)])] H14 (fun v16 H17 =>
 ∃ n18 : Int, v16 = (.int .i64 n18) ∧ nx4 n18 H17) E) E

def ug1_1_M (nx4 : Int → HP) (Q : QT) (E : ET) (τ : Tau) (H : Heap) : Prop := mP (τ 0) fun x0 => mI .i64 (τ 3) fun x3 => ug1_1 nx4 Q E x0 x3 H

theorem ug1_2ok (nx4 : Int → HP) (Q : QT) (E : ET) (τ : Tau) (H : Heap) (h : ug1_1_M nx4 Q E τ H) : vc Pr ug1_p6 τ (ug1_q4 nx4 Q E) E H :=
  vP (i := 0) h (fun x0 h => vI (i := 3) h (fun x3 h => (conv (by kernel_rfl) h)))

@[reducible] noncomputable def ug1_q5 (nx4 : Int → HP) (Q : QT) (E : ET) : Exit → Tau → Heap → Prop := (xthen (ug1_1_M nx4 Q E) (ug1_q4 nx4 Q E))

@[reducible] noncomputable def ug1_p7 : Code := sA ug1_p5

@[reducible] noncomputable def ug1_p8 : Code := sB ug1_p7

@[reducible] noncomputable def ug1_p9 : Code := sB ug1_p8

def ug1_3 (nx4 : Int → HP) (Q : QT) (E : ET) (x0 : OA) (x3 : Int) (x18 : Bool) (H : Heap) : Prop :=
 sel x18
 (Q (.int .i64 x3) H)
 (ug1_1 nx4 Q E x0 x3 H)

def ug1_3_M (nx4 : Int → HP) (Q : QT) (E : ET) (τ : Tau) (H : Heap) : Prop := mP (τ 0) fun x0 => mI .i64 (τ 3) fun x3 => mB (τ 18) fun x18 => ug1_3 nx4 Q E x0 x3 x18 H

theorem ug1_4ok (nx4 : Int → HP) (Q : QT) (E : ET) (τ : Tau) (H : Heap) (h : ug1_3_M nx4 Q E τ H) : vc Pr ug1_p9 τ (ug1_q5 nx4 Q E) E H :=
  vP (i := 0) h (fun x0 h => vI (i := 3) h (fun x3 h => vB (i := 18) h (fun x18 h => (conv (by kernel_rfl) h))))

@[reducible] noncomputable def ug1_q6 (nx4 : Int → HP) (Q : QT) (E : ET) : Exit → Tau → Heap → Prop := (xthen (ug1_3_M nx4 Q E) (ug1_q5 nx4 Q E))

@[reducible] noncomputable def ug1_p10 : Code := sA ug1_p8

def ug1_5 (nx4 : Int → HP) (Q : QT) (E : ET) (x0 : OA) (x3 : Int) (x4 : Int) (x5 : Bool) (H : Heap) : Prop :=
 sel (!x5)
 (ug1_3 nx4 Q E x0 x3 true H)
 (ug1_3 nx4 Q E x0 x3 ((x4 : Int) != 124) H)

def ug1_5_M (nx4 : Int → HP) (Q : QT) (E : ET) (τ : Tau) (H : Heap) : Prop := mP (τ 0) fun x0 => mI .i64 (τ 3) fun x3 => mI .u8 (τ 4) fun x4 => mB (τ 5) fun x5 => ug1_5 nx4 Q E x0 x3 x4 x5 H

theorem ug1_6ok (nx4 : Int → HP) (Q : QT) (E : ET) (τ : Tau) (H : Heap) (h : ug1_5_M nx4 Q E τ H) : vc Pr ug1_p10 τ (ug1_q6 nx4 Q E) E H :=
  vP (i := 0) h (fun x0 h => vI (i := 3) h (fun x3 h => vI (i := 4) h (fun x4 h => vB (i := 5) h (fun x5 h => (conv (by kernel_rfl) h)))))

theorem ug1_7ok (nx4 : Int → HP) (Q : QT) (E : ET) (τ : Tau) (H : Heap) (h : ug1_5_M nx4 Q E τ H) : vc Pr ug1_p8 τ (ug1_q5 nx4 Q E) E H :=
  (conv (B := vc Pr ug1_p8 τ (ug1_q5 nx4 Q E) E H) (by kernel_rfl) (vc_seq (K := (ug1_3_M nx4 Q E)) (ug1_6ok nx4 Q E τ H h) (ug1_4ok nx4 Q E)))

@[reducible] noncomputable def ug1_q7 (nx4 : Int → HP) (Q : QT) (E : ET) : Exit → Tau → Heap → Prop := (xthen (ug1_5_M nx4 Q E) (ug1_q5 nx4 Q E))

@[reducible] noncomputable def ug1_p11 : Code := sA ug1_p7

def ug1_8 (nx4 : Int → HP) (Q : QT) (E : ET) (x0 : OA) (x3 : Int) (H : Heap) : Prop :=
 Does Pr 94 #[(.pointer x0)] H (fun v23 H24 =>
 ∃ n25 : Int, ∃ b26 : Bool, v23 = (.tuple #[(.int .u8 n25), (.bool b26)]) ∧ ug1_5 nx4 Q E x0 x3 n25 b26 H24) E

def ug1_8_M (nx4 : Int → HP) (Q : QT) (E : ET) (τ : Tau) (H : Heap) : Prop := mP (τ 0) fun x0 => mI .i64 (τ 3) fun x3 => ug1_8 nx4 Q E x0 x3 H

theorem ug1_9ok (nx4 : Int → HP) (Q : QT) (E : ET) (τ : Tau) (H : Heap) (h : ug1_8_M nx4 Q E τ H) : vc Pr ug1_p11 τ (ug1_q7 nx4 Q E) E H :=
  vP (i := 0) h (fun x0 h => vI (i := 3) h (fun x3 h => (conv (by kernel_rfl) h)))

theorem ug1_10ok (nx4 : Int → HP) (Q : QT) (E : ET) (τ : Tau) (H : Heap) (h : ug1_8_M nx4 Q E τ H) : vc Pr ug1_p7 τ (ug1_q5 nx4 Q E) E H :=
  (conv (B := vc Pr ug1_p7 τ (ug1_q5 nx4 Q E) E H) (by kernel_rfl) (vc_seq (K := (ug1_5_M nx4 Q E)) (ug1_9ok nx4 Q E τ H h) (ug1_7ok nx4 Q E)))

theorem ug1_11ok (nx4 : Int → HP) (Q : QT) (E : ET) (τ : Tau) (H : Heap) (h : ug1_8_M nx4 Q E τ H) : vc Pr ug1_p5 τ (ug1_q4 nx4 Q E) E H :=
  (conv (B := vc Pr ug1_p5 τ (ug1_q4 nx4 Q E) E H) (by kernel_rfl) (vc_seq (K := (ug1_1_M nx4 Q E)) (ug1_10ok nx4 Q E τ H h) (ug1_2ok nx4 Q E)))

theorem ug1_12ok (nx4 : Int → HP) (Q : QT) (E : ET) (τ : Tau) (H : Heap) (h : ug1_8_M nx4 Q E τ H) : vc Pr ug1_p4 τ (ug1_q3 nx4 Q E) E H :=
  (conv (B := vc Pr ug1_p4 τ (ug1_q3 nx4 Q E) E H) (by kernel_rfl) (ug1_11ok nx4 Q E τ H h))

def ug1_13 (Q : QT) (E : ET) (x0 : OA) (x3 : Int) (H : Heap) : Prop :=
 ∃ (I : Int → HP) (μ : Int → Heap → Nat), I x3 H ∧ ∀ (x3 : Int) (H : Heap), I x3 H →
 ug1_8 (fun x3' H1 => I x3' H1 ∧ μ x3' H1 < μ x3 H) Q E x0 x3 H

def ug1_13_M (Q : QT) (E : ET) (τ : Tau) (H : Heap) : Prop := mP (τ 0) fun x0 => mI .i64 (τ 3) fun x3 => ug1_13 Q E x0 x3 H

theorem ug1_14ok (Q : QT) (E : ET) (τ : Tau) (H : Heap) (h : ug1_13_M Q E τ H) : vc Pr ug1_p3 τ (ug1_q2 Q E) E H :=
  vP (i := 0) h (fun x0 h => vI (i := 3) h (fun x3 h => match h with | ⟨I, μ, h0, hr⟩ => (conv (B := vc Pr ug1_p3 (Tau.upd (Tau.upd τ 0 (.pointer x0)) 3 (.int .i64 x3)) (ug1_q2 Q E) E H) (by kernel_rfl) (vc_loop (c := sI ug1_p3) (τ := (Tau.upd (Tau.upd τ 0 (.pointer x0)) 3 (.int .i64 x3))) [0] (fun τ H => mI .i64 (τ 3) fun x3' => I x3' H) (fun τ H => μ (gI (τ 3)) H) (by kernel_rfl) h0 (fun τ1 H1 hf hI => fix_elim (τ := τ1) (i := 0) (v := (.pointer x0)) (G := fun τ => vc Pr (sI ug1_p3) τ (xthen (fun τ2 H2 => (mI .i64 (τ2 3) fun x3' => I x3' H2) ∧ μ (gI (τ2 3)) H2 < μ (gI (τ 3)) H1) (ug1_q2 Q E)) E H1) (hf 0 (by simp)) (mI_elim (i := 3) (G := fun τ => vc Pr (sI ug1_p3) τ (xthen (fun τ2 H2 => (mI .i64 (τ2 3) fun x3' => I x3' H2) ∧ μ (gI (τ2 3)) H2 < μ (gI (τ 3)) H1) (ug1_q2 Q E)) E H1) hI (fun x3r h => (conv (B := vc Pr (sI ug1_p3) (Tau.upd (Tau.upd τ1 0 (.pointer x0)) 3 (.int .i64 x3r)) (xthen (fun τ2 H2 => (mI .i64 (τ2 3) fun x3' => I x3' H2) ∧ μ (gI (τ2 3)) H2 < μ (gI ((Tau.upd (Tau.upd τ1 0 (.pointer x0)) 3 (.int .i64 x3r)) 3)) H1) (ug1_q2 Q E)) E H1) (by kernel_rfl) (vc_xthen (ug1_12ok (fun x3' H2 => I x3' H2 ∧ μ x3' H2 < μ x3r H1) Q E (Tau.upd (Tau.upd τ1 0 (.pointer x0)) 3 (.int .i64 x3r)) H1 (conv (B := ug1_8_M (fun x3' H2 => I x3' H2 ∧ μ x3' H2 < μ x3r H1) Q E (Tau.upd (Tau.upd τ1 0 (.pointer x0)) 3 (.int .i64 x3r)) H1) (by kernel_rfl) (hr x3r H1 h))) (fun τ2 H2 hk => mI_elim (i := 3) (G := fun τ => (mI .i64 (τ 3) fun x3' => I x3' H2) ∧ μ (gI (τ 3)) H2 < μ x3r H1) hk (fun x3' h => h)))))))))))

theorem ug1_15ok (Q : QT) (E : ET) (τ : Tau) (H : Heap) (h : ug1_13_M Q E τ H) : vc Pr ug1_p2 τ (ug1_q1 Q E) E H :=
  (conv (B := vc Pr ug1_p2 τ (ug1_q1 Q E) E H) (by kernel_rfl) (ug1_14ok Q E τ H h))

@[reducible] noncomputable def ug1_q8 (Q : QT) (E : ET) : Exit → Tau → Heap → Prop := (xthen (ug1_13_M Q E) (ug1_q1 Q E))

@[reducible] noncomputable def ug1_p12 : Code := sA ug1_p1

def ug1_16 (Q : QT) (E : ET) (x0 : OA) (H : Heap) : Prop :=
 Does Pr 93 #[(.pointer x0)] H (fun v27 H28 =>
 ∃ n29 : Int, v27 = (.int .i64 n29) ∧ ug1_13 Q E x0 n29 H28) E

def ug1_16_M (Q : QT) (E : ET) (τ : Tau) (H : Heap) : Prop := mP (τ 0) fun x0 => ug1_16 Q E x0 H

theorem ug1_17ok (Q : QT) (E : ET) (τ : Tau) (H : Heap) (h : ug1_16_M Q E τ H) : vc Pr ug1_p12 τ (ug1_q8 Q E) E H :=
  vP (i := 0) h (fun x0 h => (conv (by kernel_rfl) h))

theorem ug1_18ok (Q : QT) (E : ET) (τ : Tau) (H : Heap) (h : ug1_16_M Q E τ H) : vc Pr ug1_p1 τ (ug1_q1 Q E) E H :=
  (conv (B := vc Pr ug1_p1 τ (ug1_q1 Q E) E H) (by kernel_rfl) (vc_seq (K := (ug1_13_M Q E)) (ug1_17ok Q E τ H h) (ug1_15ok Q E)))

@[reducible] noncomputable def ug1_q9 (Q : QT) (E : ET) : Exit → Tau → Heap → Prop := (xthen (ug1_16_M Q E) (ug1_q1 Q E))

@[reducible] noncomputable def ug1_p13 : Code := sA ug1_p0

def ug1 (Q : QT) (E : ET) (a0 : OA) (H : Heap) : Prop :=
 ug1_16 Q E a0 H

theorem ug1_fn (a0 : OA) (Q : QT) (E : ET) (H : Heap) (h : ug1 Q E a0 H)   : Does Pr 60 #[(.pointer a0)] H Q E :=
  Fn_of_vc (fn := Try.f60) (c := ug1_p0) (args := [(.pointer a0)]) mixed (by kernel_rfl) (by kernel_rfl) (by kernel_rfl) (by kernel_rfl) (by kernel_rfl) ((conv (B := vc Pr ug1_p0 (argT [(.pointer a0)]) (ug1_q1 Q E) E H) (by kernel_rfl) (vc_seq (K := (ug1_16_M Q E)) (conv (B := vc Pr ug1_p13 (argT [(.pointer a0)]) (ug1_q9 Q E) E H) (by kernel_rfl) h) (ug1_18ok Q E))))

/-! jobmux/regex.Kids -/
@[reducible] noncomputable def uh1_q1 (Q : QT) (E : ET) : Exit → Tau → Heap → Prop := (retQ Pr (Try.f74).results.toList Q)

@[reducible] noncomputable def uh1_p0 : Code := bodyOf Try.f74

@[reducible] noncomputable def uh1_p1 : Code := sB uh1_p0

@[reducible] noncomputable def uh1_p2 : Code := sB uh1_p1

def uh1_1 (Q : QT) (E : ET)  (H : Heap) : Prop :=
 Q (.int .i64 (-1)) H

def uh1_1_M (Q : QT) (E : ET) (τ : Tau) (H : Heap) : Prop := uh1_1 Q E  H

theorem uh1_2ok (Q : QT) (E : ET) (τ : Tau) (H : Heap) (h : uh1_1_M Q E τ H) : vc Pr uh1_p2 τ (uh1_q1 Q E) E H :=
  (conv (B := vc Pr uh1_p2 τ (uh1_q1 Q E) E H) (by kernel_rfl) h)

@[reducible] noncomputable def uh1_q2 (Q : QT) (E : ET) : Exit → Tau → Heap → Prop := (xthen (uh1_1_M Q E) (uh1_q1 Q E))

@[reducible] noncomputable def uh1_p3 : Code := sA uh1_p1

@[reducible] noncomputable def uh1_p4 : Code := sB uh1_p3

@[reducible] noncomputable def uh1_q3 (Q : QT) (E : ET) : Exit → Tau → Heap → Prop := (xblock 0 (uh1_q2 Q E))

@[reducible] noncomputable def uh1_p5 : Code := sI uh1_p4

@[reducible] noncomputable def uh1_p6 : Code := sB uh1_p5

@[reducible] noncomputable def uh1_p7 : Code := sT uh1_p6

def uh1_3 (Q : QT) (E : ET)  (H : Heap) : Prop :=
 Q (.int .i64 0) H

def uh1_3_M (Q : QT) (E : ET) (τ : Tau) (H : Heap) : Prop := uh1_3 Q E  H

theorem uh1_4ok (Q : QT) (E : ET) (τ : Tau) (H : Heap) (h : uh1_3_M Q E τ H) : vc Pr uh1_p7 τ (uh1_q3 Q E) E H :=
  (conv (B := vc Pr uh1_p7 τ (uh1_q3 Q E) E H) (by kernel_rfl) h)

@[reducible] noncomputable def uh1_p8 : Code := sE uh1_p6

@[reducible] noncomputable def uh1_p9 : Code := sB uh1_p8

@[reducible] noncomputable def uh1_p10 : Code := sT uh1_p9

def uh1_5 (Q : QT) (E : ET)  (H : Heap) : Prop :=
 Q (.int .i64 1) H

def uh1_5_M (Q : QT) (E : ET) (τ : Tau) (H : Heap) : Prop := uh1_5 Q E  H

theorem uh1_6ok (Q : QT) (E : ET) (τ : Tau) (H : Heap) (h : uh1_5_M Q E τ H) : vc Pr uh1_p10 τ (uh1_q3 Q E) E H :=
  (conv (B := vc Pr uh1_p10 τ (uh1_q3 Q E) E H) (by kernel_rfl) h)

@[reducible] noncomputable def uh1_p11 : Code := sE uh1_p9

@[reducible] noncomputable def uh1_p12 : Code := sB uh1_p11

def uh1_7 (Q : QT) (E : ET) (x13 : Bool) (H : Heap) : Prop :=
 sel x13
 (Q (.int .i64 2) H)
 (uh1_1 Q E  H)

def uh1_7_M (Q : QT) (E : ET) (τ : Tau) (H : Heap) : Prop := mB (τ 13) fun x13 => uh1_7 Q E x13 H

theorem uh1_8ok (Q : QT) (E : ET) (τ : Tau) (H : Heap) (h : uh1_7_M Q E τ H) : vc Pr uh1_p12 τ (uh1_q3 Q E) E H :=
  vB (i := 13) h (fun x13 h => (conv (by kernel_rfl) h))

@[reducible] noncomputable def uh1_q4 (Q : QT) (E : ET) : Exit → Tau → Heap → Prop := (xthen (uh1_7_M Q E) (uh1_q3 Q E))

@[reducible] noncomputable def uh1_p13 : Code := sA uh1_p11

def uh1_9 (Q : QT) (E : ET) (x3 : Int) (H : Heap) : Prop :=
 sel ((x3 : Int) == 3)
 (uh1_7 Q E ((x3 : Int) == 3) H)
 (uh1_7 Q E ((x3 : Int) == 4) H)

def uh1_9_M (Q : QT) (E : ET) (τ : Tau) (H : Heap) : Prop := mI .i64 (τ 3) fun x3 => uh1_9 Q E x3 H

theorem uh1_10ok (Q : QT) (E : ET) (τ : Tau) (H : Heap) (h : uh1_9_M Q E τ H) : vc Pr uh1_p13 τ (uh1_q4 Q E) E H :=
  vI (i := 3) h (fun x3 h => (conv (by kernel_rfl) h))

theorem uh1_11ok (Q : QT) (E : ET) (τ : Tau) (H : Heap) (h : uh1_9_M Q E τ H) : vc Pr uh1_p11 τ (uh1_q3 Q E) E H :=
  (conv (B := vc Pr uh1_p11 τ (uh1_q3 Q E) E H) (by kernel_rfl) (vc_seq (K := (uh1_7_M Q E)) (uh1_10ok Q E τ H h) (uh1_8ok Q E)))

def uh1_12 (Q : QT) (E : ET) (x3 : Int) (x9 : Bool) (H : Heap) : Prop :=
 sel x9
 (uh1_5 Q E  H)
 (uh1_9 Q E x3 H)

def uh1_12_M (Q : QT) (E : ET) (τ : Tau) (H : Heap) : Prop := mI .i64 (τ 3) fun x3 => mB (τ 9) fun x9 => uh1_12 Q E x3 x9 H

theorem uh1_13ok (Q : QT) (E : ET) (τ : Tau) (H : Heap) (h : uh1_12_M Q E τ H) : vc Pr uh1_p9 τ (uh1_q3 Q E) E H :=
  vI (i := 3) h (fun x3 h => vB (i := 9) h (fun x9 h => (conv (B := vc Pr uh1_p9 (Tau.upd (Tau.upd τ 3 (.int .i64 x3)) 9 (.bool x9)) (uh1_q3 Q E) E H) (by kernel_rfl) (sel_map (uh1_6ok Q E (Tau.upd (Tau.upd τ 3 (.int .i64 x3)) 9 (.bool x9)) H) (uh1_11ok Q E (Tau.upd (Tau.upd τ 3 (.int .i64 x3)) 9 (.bool x9)) H) (conv (B := sel x9 (uh1_5_M Q E (Tau.upd (Tau.upd τ 3 (.int .i64 x3)) 9 (.bool x9)) H) (uh1_9_M Q E (Tau.upd (Tau.upd τ 3 (.int .i64 x3)) 9 (.bool x9)) H)) (by kernel_rfl) h)))))

@[reducible] noncomputable def uh1_q5 (Q : QT) (E : ET) : Exit → Tau → Heap → Prop := (xthen (uh1_12_M Q E) (uh1_q3 Q E))

@[reducible] noncomputable def uh1_p14 : Code := sA uh1_p8

def uh1_14 (Q : QT) (E : ET) (x3 : Int) (H : Heap) : Prop :=
 sel ((x3 : Int) == 5)
 (uh1_12 Q E x3 ((x3 : Int) == 5) H)
 (sel ((x3 : Int) == 6)
 (uh1_12 Q E x3 ((x3 : Int) == 6) H)
 (uh1_12 Q E x3 ((x3 : Int) == 7) H))

def uh1_14_M (Q : QT) (E : ET) (τ : Tau) (H : Heap) : Prop := mI .i64 (τ 3) fun x3 => uh1_14 Q E x3 H

theorem uh1_15ok (Q : QT) (E : ET) (τ : Tau) (H : Heap) (h : uh1_14_M Q E τ H) : vc Pr uh1_p14 τ (uh1_q5 Q E) E H :=
  vI (i := 3) h (fun x3 h => (conv (by kernel_rfl) h))

theorem uh1_16ok (Q : QT) (E : ET) (τ : Tau) (H : Heap) (h : uh1_14_M Q E τ H) : vc Pr uh1_p8 τ (uh1_q3 Q E) E H :=
  (conv (B := vc Pr uh1_p8 τ (uh1_q3 Q E) E H) (by kernel_rfl) (vc_seq (K := (uh1_12_M Q E)) (uh1_15ok Q E τ H h) (uh1_13ok Q E)))

def uh1_17 (Q : QT) (E : ET) (x3 : Int) (x4 : Bool) (H : Heap) : Prop :=
 sel x4
 (uh1_3 Q E  H)
 (uh1_14 Q E x3 H)

def uh1_17_M (Q : QT) (E : ET) (τ : Tau) (H : Heap) : Prop := mI .i64 (τ 3) fun x3 => mB (τ 4) fun x4 => uh1_17 Q E x3 x4 H

theorem uh1_18ok (Q : QT) (E : ET) (τ : Tau) (H : Heap) (h : uh1_17_M Q E τ H) : vc Pr uh1_p6 τ (uh1_q3 Q E) E H :=
  vI (i := 3) h (fun x3 h => vB (i := 4) h (fun x4 h => (conv (B := vc Pr uh1_p6 (Tau.upd (Tau.upd τ 3 (.int .i64 x3)) 4 (.bool x4)) (uh1_q3 Q E) E H) (by kernel_rfl) (sel_map (uh1_4ok Q E (Tau.upd (Tau.upd τ 3 (.int .i64 x3)) 4 (.bool x4)) H) (uh1_16ok Q E (Tau.upd (Tau.upd τ 3 (.int .i64 x3)) 4 (.bool x4)) H) (conv (B := sel x4 (uh1_3_M Q E (Tau.upd (Tau.upd τ 3 (.int .i64 x3)) 4 (.bool x4)) H) (uh1_14_M Q E (Tau.upd (Tau.upd τ 3 (.int .i64 x3)) 4 (.bool x4)) H)) (by kernel_rfl) h)))))

@[reducible] noncomputable def uh1_q6 (Q : QT) (E : ET) : Exit → Tau → Heap → Prop := (xthen (uh1_17_M Q E) (uh1_q3 Q E))

@[reducible] noncomputable def uh1_p15 : Code := sA uh1_p5

def uh1_19 (Q : QT) (E : ET) (x3 : Int) (H : Heap) : Prop :=
 sel ((x3 : Int) == 1)
 (uh1_17 Q E x3 ((x3 : Int) == 1) H)
 (sel ((x3 : Int) == 2)
 (uh1_17 Q E x3 ((x3 : Int) == 2) H)
 (sel ((x3 : Int) == 8)
 (uh1_17 Q E x3 ((x3 : Int) == 8) H)
 (uh1_17 Q E x3 ((x3 : Int) == 9) H)))

def uh1_19_M (Q : QT) (E : ET) (τ : Tau) (H : Heap) : Prop := mI .i64 (τ 3) fun x3 => uh1_19 Q E x3 H

theorem uh1_20ok (Q : QT) (E : ET) (τ : Tau) (H : Heap) (h : uh1_19_M Q E τ H) : vc Pr uh1_p15 τ (uh1_q6 Q E) E H :=
  vI (i := 3) h (fun x3 h => (conv (by kernel_rfl) h))

theorem uh1_21ok (Q : QT) (E : ET) (τ : Tau) (H : Heap) (h : uh1_19_M Q E τ H) : vc Pr uh1_p5 τ (uh1_q3 Q E) E H :=
  (conv (B := vc Pr uh1_p5 τ (uh1_q3 Q E) E H) (by kernel_rfl) (vc_seq (K := (uh1_17_M Q E)) (uh1_20ok Q E τ H h) (uh1_18ok Q E)))

theorem uh1_22ok (Q : QT) (E : ET) (τ : Tau) (H : Heap) (h : uh1_19_M Q E τ H) : vc Pr uh1_p4 τ (uh1_q2 Q E) E H :=
  (conv (B := vc Pr uh1_p4 τ (uh1_q2 Q E) E H) (by kernel_rfl) (uh1_21ok Q E τ H h))

@[reducible] noncomputable def uh1_q7 (Q : QT) (E : ET) : Exit → Tau → Heap → Prop := (xthen (uh1_19_M Q E) (uh1_q2 Q E))

@[reducible] noncomputable def uh1_p16 : Code := sA uh1_p3

def uh1_23 (Q : QT) (E : ET) (x0 : Int) (H : Heap) : Prop :=
 uh1_19 Q E x0 H

def uh1_23_M (Q : QT) (E : ET) (τ : Tau) (H : Heap) : Prop := mI .i64 (τ 0) fun x0 => uh1_23 Q E x0 H

theorem uh1_24ok (Q : QT) (E : ET) (τ : Tau) (H : Heap) (h : uh1_23_M Q E τ H) : vc Pr uh1_p16 τ (uh1_q7 Q E) E H :=
  vI (i := 0) h (fun x0 h => (conv (by kernel_rfl) h))

theorem uh1_25ok (Q : QT) (E : ET) (τ : Tau) (H : Heap) (h : uh1_23_M Q E τ H) : vc Pr uh1_p3 τ (uh1_q2 Q E) E H :=
  (conv (B := vc Pr uh1_p3 τ (uh1_q2 Q E) E H) (by kernel_rfl) (vc_seq (K := (uh1_19_M Q E)) (uh1_24ok Q E τ H h) (uh1_22ok Q E)))

theorem uh1_26ok (Q : QT) (E : ET) (τ : Tau) (H : Heap) (h : uh1_23_M Q E τ H) : vc Pr uh1_p1 τ (uh1_q1 Q E) E H :=
  (conv (B := vc Pr uh1_p1 τ (uh1_q1 Q E) E H) (by kernel_rfl) (vc_seq (K := (uh1_1_M Q E)) (uh1_25ok Q E τ H h) (uh1_2ok Q E)))

@[reducible] noncomputable def uh1_q8 (Q : QT) (E : ET) : Exit → Tau → Heap → Prop := (xthen (uh1_23_M Q E) (uh1_q1 Q E))

@[reducible] noncomputable def uh1_p17 : Code := sA uh1_p0

def uh1 (Q : QT) (E : ET) (a0 : Int) (H : Heap) : Prop :=
 uh1_23 Q E a0 H

theorem uh1_fn (a0 : Int) (Q : QT) (E : ET) (H : Heap) (h : uh1 Q E a0 H)   : Does Pr 74 #[(.int .i64 a0)] H Q E :=
  Fn_of_vc (fn := Try.f74) (c := uh1_p0) (args := [(.int .i64 a0)]) mixed (by kernel_rfl) (by kernel_rfl) (by kernel_rfl) (by kernel_rfl) (by kernel_rfl) ((conv (B := vc Pr uh1_p0 (argT [(.int .i64 a0)]) (uh1_q1 Q E) E H) (by kernel_rfl) (vc_seq (K := (uh1_23_M Q E)) (conv (B := vc Pr uh1_p17 (argT [(.int .i64 a0)]) (uh1_q8 Q E) E H) (by kernel_rfl) h) (uh1_26ok Q E))))

/-! (*jobmux/regex.parser).alternative -/
@[reducible] noncomputable def ui1_q1 (Q : QT) (E : ET) : Exit → Tau → Heap → Prop := (retQ Pr (Try.f93).results.toList Q)

@[reducible] noncomputable def ui1_p0 : Code := bodyOf Try.f93

@[reducible] noncomputable def ui1_p1 : Code := sB ui1_p0

@[reducible] noncomputable def ui1_p2 : Code := sB ui1_p1

@[reducible] noncomputable def ui1_p3 : Code := sB ui1_p2

@[reducible] noncomputable def ui1_p4 : Code := sB ui1_p3

def ui1_1 (Q : QT) (E : ET) (x3 : Int) (H : Heap) : Prop :=
 Q (.int .i64 x3) H

def ui1_1_M (Q : QT) (E : ET) (τ : Tau) (H : Heap) : Prop := mI .i64 (τ 3) fun x3 => ui1_1 Q E x3 H

theorem ui1_2ok (Q : QT) (E : ET) (τ : Tau) (H : Heap) (h : ui1_1_M Q E τ H) : vc Pr ui1_p4 τ (ui1_q1 Q E) E H :=
  vI (i := 3) h (fun x3 h => (conv (by kernel_rfl) h))

@[reducible] noncomputable def ui1_q2 (Q : QT) (E : ET) : Exit → Tau → Heap → Prop := (xthen (ui1_1_M Q E) (ui1_q1 Q E))

@[reducible] noncomputable def ui1_p5 : Code := sA ui1_p3

def ui1_3 (Q : QT) (E : ET) (x0 : OA) (x3 : Int) (H : Heap) : Prop :=
 sel (decide ((x3 : Int) < 0))
 (Does Pr 95 #[(.pointer x0), (.agg #[(.int .i64 1), (.int .i64 0), (.int .i64 0), (.int .u64 0), (.int .u64 0), (.int .u64 0), (.int .u64 0)])] H (fun v19 H20 =>
 ∃ n21 : Int, v19 = (.int .i64 n21) ∧ Q (.int .i64 n21) H20) E)
 (ui1_1 Q E x3 H)

def ui1_3_M (Q : QT) (E : ET) (τ : Tau) (H : Heap) : Prop := mP (τ 0) fun x0 => mI .i64 (τ 3) fun x3 => ui1_3 Q E x0 x3 H

theorem ui1_4ok (Q : QT) (E : ET) (τ : Tau) (H : Heap) (h : ui1_3_M Q E τ H) : vc Pr ui1_p5 τ (ui1_q2 Q E) E H :=
  vP (i := 0) h (fun x0 h => vI (i := 3) h (fun x3 h => (conv (by kernel_rfl) h)))

theorem ui1_5ok (Q : QT) (E : ET) (τ : Tau) (H : Heap) (h : ui1_3_M Q E τ H) : vc Pr ui1_p3 τ (ui1_q1 Q E) E H :=
  (conv (B := vc Pr ui1_p3 τ (ui1_q1 Q E) E H) (by kernel_rfl) (vc_seq (K := (ui1_1_M Q E)) (ui1_4ok Q E τ H h) (ui1_2ok Q E)))

@[reducible] noncomputable def ui1_q3 (Q : QT) (E : ET) : Exit → Tau → Heap → Prop := (xthen (ui1_3_M Q E) (ui1_q1 Q E))

@[reducible] noncomputable def ui1_p6 : Code := sA ui1_p2

@[reducible] noncomputable def ui1_q4 (Q : QT) (E : ET) : Exit → Tau → Heap → Prop := (xblock 0 (ui1_q3 Q E))

@[reducible] noncomputable def ui1_p7 : Code := sI ui1_p6

@[reducible] noncomputable def ui1_q5 (nx22 : Int → HP) (Q : QT) (E : ET) : Exit → Tau → Heap → Prop := (xthen (fun τ H => mI .i64 (τ 3) fun x3' => nx22 x3' H) (ui1_q4 Q E))

@[reducible] noncomputable def ui1_p8 : Code := sI ui1_p7

@[reducible] noncomputable def ui1_q6 (nx22 : Int → HP) (Q : QT) (E : ET) : Exit → Tau → Heap → Prop := (xblock 1 (ui1_q5 nx22 Q E))

@[reducible] noncomputable def ui1_p9 : Code := sI ui1_p8

@[reducible] noncomputable def ui1_p10 : Code := sB ui1_p9

@[reducible] noncomputable def ui1_p11 : Code := sB ui1_p10

@[reducible] noncomputable def ui1_p12 : Code := sB ui1_p11

@[reducible] noncomputable def ui1_p13 : Code := sB ui1_p12

@[reducible] noncomputable def ui1_p14 : Code := sB ui1_p13

def ui1_6 (nx22 : Int → HP) (Q : QT) (E : ET) (x0 : OA) (x6 : Int) (H : Heap) : Prop :=
 nx22 x6 H

def ui1_6_M (nx22 : Int → HP) (Q : QT) (E : ET) (τ : Tau) (H : Heap) : Prop := mP (τ 0) fun x0 => mI .i64 (τ 6) fun x6 => ui1_6 nx22 Q E x0 x6 H

theorem ui1_7ok (nx22 : Int → HP) (Q : QT) (E : ET) (τ : Tau) (H : Heap) (h : ui1_6_M nx22 Q E τ H) : vc Pr ui1_p14 τ (ui1_q6 nx22 Q E) E H :=
  vP (i := 0) h (fun x0 h => vI (i := 6) h (fun x6 h => (conv (by kernel_rfl) h)))

@[reducible] noncomputable def ui1_q7 (nx22 : Int → HP) (Q : QT) (E : ET) : Exit → Tau → Heap → Prop := (xthen (ui1_6_M nx22 Q E) (ui1_q6 nx22 Q E))

@[reducible] noncomputable def ui1_p15 : Code := sA ui1_p13

def ui1_8 (nx22 : Int → HP) (Q : QT) (E : ET) (x0 : OA) (x3 : Int) (x6 : Int) (H : Heap) : Prop :=
 sel (decide ((x3 : Int) ≥ 0))
 (Does Pr 95 #[(.pointer x0), (.agg #[(.int .i64 3), (.int .i64 x3), (.int .i64 x6), (.int .u64 0), (.int .u64 0), (.int .u64 0), (.int .u64 0)])] H (fun v38 H39 =>
 ∃ n40 : Int, v38 = (.int .i64 n40) ∧ ui1_6 nx22 Q E x0 n40 H39) E)
 (ui1_6 nx22 Q E x0 x6 H)

def ui1_8_M (nx22 : Int → HP) (Q : QT) (E : ET) (τ : Tau) (H : Heap) : Prop := mP (τ 0) fun x0 => mI .i64 (τ 3) fun x3 => mI .i64 (τ 6) fun x6 => ui1_8 nx22 Q E x0 x3 x6 H

theorem ui1_9ok (nx22 : Int → HP) (Q : QT) (E : ET) (τ : Tau) (H : Heap) (h : ui1_8_M nx22 Q E τ H) : vc Pr ui1_p15 τ (ui1_q7 nx22 Q E) E H :=
  vP (i := 0) h (fun x0 h => vI (i := 3) h (fun x3 h => vI (i := 6) h (fun x6 h => (conv (by kernel_rfl) h))))

theorem ui1_10ok (nx22 : Int → HP) (Q : QT) (E : ET) (τ : Tau) (H : Heap) (h : ui1_8_M nx22 Q E τ H) : vc Pr ui1_p13 τ (ui1_q6 nx22 Q E) E H :=
  (conv (B := vc Pr ui1_p13 τ (ui1_q6 nx22 Q E) E H) (by kernel_rfl) (vc_seq (K := (ui1_6_M nx22 Q E)) (ui1_9ok nx22 Q E τ H h) (ui1_7ok nx22 Q E)))

@[reducible] noncomputable def ui1_q8 (nx22 : Int → HP) (Q : QT) (E : ET) : Exit → Tau → Heap → Prop := (xthen (ui1_8_M nx22 Q E) (ui1_q6 nx22 Q E))

@[reducible] noncomputable def ui1_p16 : Code := sA ui1_p12

def ui1_11 (nx22 : Int → HP) (Q : QT) (E : ET) (x0 : OA) (x3 : Int) (x4 : Int) (H : Heap) : Prop :=
 Does Pr 104 #[(.pointer x0), (.int .u8 x4)] H (fun v41 H42 =>
 ∃ n43 : Int, v41 = (.int .i64 n43) ∧ ui1_8 nx22 Q E x0 x3 n43 H42) E

def ui1_11_M (nx22 : Int → HP) (Q : QT) (E : ET) (τ : Tau) (H : Heap) : Prop := mP (τ 0) fun x0 => mI .i64 (τ 3) fun x3 => mI .u8 (τ 4) fun x4 => ui1_11 nx22 Q E x0 x3 x4 H

theorem ui1_12ok (nx22 : Int → HP) (Q : QT) (E : ET) (τ : Tau) (H : Heap) (h : ui1_11_M nx22 Q E τ H) : vc Pr ui1_p16 τ (ui1_q8 nx22 Q E) E H :=
  vP (i := 0) h (fun x0 h => vI (i := 3) h (fun x3 h => vI (i := 4) h (fun x4 h => (conv (by kernel_rfl) h))))

theorem ui1_13ok (nx22 : Int → HP) (Q : QT) (E : ET) (τ : Tau) (H : Heap) (h : ui1_11_M nx22 Q E τ H) : vc Pr ui1_p12 τ (ui1_q6 nx22 Q E) E H :=
  (conv (B := vc Pr ui1_p12 τ (ui1_q6 nx22 Q E) E H) (by kernel_rfl) (vc_seq (K := (ui1_8_M nx22 Q E)) (ui1_12ok nx22 Q E τ H h) (ui1_10ok nx22 Q E)))

@[reducible] noncomputable def ui1_q9 (nx22 : Int → HP) (Q : QT) (E : ET) : Exit → Tau → Heap → Prop := (xthen (ui1_11_M nx22 Q E) (ui1_q6 nx22 Q E))

@[reducible] noncomputable def ui1_p17 : Code := sA ui1_p11

@[reducible] noncomputable def ui1_p18 : Code := sB ui1_p17

def ui1_14 (nx22 : Int → HP) (Q : QT) (E : ET) (x0 : OA) (x3 : Int) (x4 : Int) (x35 : Bool) (H : Heap) : Prop :=
 sel x35
 (ui1_3 Q E x0 x3 H)
 (ui1_11 nx22 Q E x0 x3 x4 H)

def ui1_14_M (nx22 : Int → HP) (Q : QT) (E : ET) (τ : Tau) (H : Heap) : Prop := mP (τ 0) fun x0 => mI .i64 (τ 3) fun x3 => mI .u8 (τ 4) fun x4 => mB (τ 35) fun x35 => ui1_14 nx22 Q E x0 x3 x4 x35 H

theorem ui1_15ok (nx22 : Int → HP) (Q : QT) (E : ET) (τ : Tau) (H : Heap) (h : ui1_14_M nx22 Q E τ H) : vc Pr ui1_p18 τ (ui1_q9 nx22 Q E) E H :=
  vP (i := 0) h (fun x0 h => vI (i := 3) h (fun x3 h => vI (i := 4) h (fun x4 h => vB (i := 35) h (fun x35 h => (conv (by kernel_rfl) h)))))

@[reducible] noncomputable def ui1_q10 (nx22 : Int → HP) (Q : QT) (E : ET) : Exit → Tau → Heap → Prop := (xthen (ui1_14_M nx22 Q E) (ui1_q9 nx22 Q E))

@[reducible] noncomputable def ui1_p19 : Code := sA ui1_p17

def ui1_16 (nx22 : Int → HP) (Q : QT) (E : ET) (x0 : OA) (x3 : Int) (x4 : Int) (x5 : Bool) (H : Heap) : Prop :=
 sel (!x5)
 (ui1_14 nx22 Q E x0 x3 x4 true H)
 (sel ((x4 : Int) == 124)
 (ui1_14 nx22 Q E x0 x3 x4 true H)
 (ui1_14 nx22 Q E x0 x3 x4 ((x4 : Int) == 41) H))

def ui1_16_M (nx22 : Int → HP) (Q : QT) (E : ET) (τ : Tau) (H : Heap) : Prop := mP (τ 0) fun x0 => mI .i64 (τ 3) fun x3 => mI .u8 (τ 4) fun x4 => mB (τ 5) fun x5 => ui1_16 nx22 Q E x0 x3 x4 x5 H

theorem ui1_17ok (nx22 : Int → HP) (Q : QT) (E : ET) (τ : Tau) (H : Heap) (h : ui1_16_M nx22 Q E τ H) : vc Pr ui1_p19 τ (ui1_q10 nx22 Q E) E H :=
  vP (i := 0) h (fun x0 h => vI (i := 3) h (fun x3 h => vI (i := 4) h (fun x4 h => vB (i := 5) h (fun x5 h => (conv (by kernel_rfl) h)))))

theorem ui1_18ok (nx22 : Int → HP) (Q : QT) (E : ET) (τ : Tau) (H : Heap) (h : ui1_16_M nx22 Q E τ H) : vc Pr ui1_p17 τ (ui1_q9 nx22 Q E) E H :=
  (conv (B := vc Pr ui1_p17 τ (ui1_q9 nx22 Q E) E H) (by kernel_rfl) (vc_seq (K := (ui1_14_M nx22 Q E)) (ui1_17ok nx22 Q E τ H h) (ui1_15ok nx22 Q E)))

theorem ui1_19ok (nx22 : Int → HP) (Q : QT) (E : ET) (τ : Tau) (H : Heap) (h : ui1_16_M nx22 Q E τ H) : vc Pr ui1_p11 τ (ui1_q6 nx22 Q E) E H :=
  (conv (B := vc Pr ui1_p11 τ (ui1_q6 nx22 Q E) E H) (by kernel_rfl) (vc_seq (K := (ui1_11_M nx22 Q E)) (ui1_18ok nx22 Q E τ H h) (ui1_13ok nx22 Q E)))

@[reducible] noncomputable def ui1_q11 (nx22 : Int → HP) (Q : QT) (E : ET) : Exit → Tau → Heap → Prop := (xthen (ui1_16_M nx22 Q E) (ui1_q6 nx22 Q E))

@[reducible] noncomputable def ui1_p20 : Code := sA ui1_p10

@[reducible] noncomputable def ui1_p21 : Code := sB ui1_p20

def ui1_20 (nx22 : Int → HP) (Q : QT) (E : ET) (x0 : OA) (x3 : Int) (x4 : Int) (x5 : Bool) (x23 : Bool) (H : Heap) : Prop :=
 sel x23
 (Does Pr 103 #[(.pointer x0), (.int .i64 83)] H (fun v46 H47 =>
 ∃ n48 : Int, v46 = (.int .i64 n48) ∧ ui1_16 nx22 Q E x0 x3 x4 x5 H47) E)
 (ui1_16 nx22 Q E x0 x3 x4 x5 H)

def ui1_20_M (nx22 : Int → HP) (Q : QT) (E : ET) (τ : Tau) (H : Heap) : Prop := mP (τ 0) fun x0 => mI .i64 (τ 3) fun x3 => mI .u8 (τ 4) fun x4 => mB (τ 5) fun x5 => mB (τ 23) fun x23 => ui1_20 nx22 Q E x0 x3 x4 x5 x23 H

theorem ui1_21ok (nx22 : Int → HP) (Q : QT) (E : ET) (τ : Tau) (H : Heap) (h : ui1_20_M nx22 Q E τ H) : vc Pr ui1_p21 τ (ui1_q11 nx22 Q E) E H :=
  vP (i := 0) h (fun x0 h => vI (i := 3) h (fun x3 h => vI (i := 4) h (fun x4 h => vB (i := 5) h (fun x5 h => vB (i := 23) h (fun x23 h => (conv (by kernel_rfl) h))))))

@[reducible] noncomputable def ui1_q12 (nx22 : Int → HP) (Q : QT) (E : ET) : Exit → Tau → Heap → Prop := (xthen (ui1_20_M nx22 Q E) (ui1_q11 nx22 Q E))

@[reducible] noncomputable def ui1_p22 : Code := sA ui1_p20

def ui1_22 (nx22 : Int → HP) (Q : QT) (E : ET) (x0 : OA) (x3 : Int) (x4 : Int) (x5 : Bool) (H : Heap) : Prop :=
 sel x5
 (sel ((x4 : Int) == 41)
 (ptr x0 fun q49 =>
 ldI .i64 (Addr.add q49 2) H fun n50 =>
 ui1_20 nx22 Q E x0 x3 x4 x5 ((n50 : Int) == 0) H)
 (ui1_20 nx22 Q E x0 x3 x4 x5 false H))
 (ui1_20 nx22 Q E x0 x3 x4 x5 false H)

def ui1_22_M (nx22 : Int → HP) (Q : QT) (E : ET) (τ : Tau) (H : Heap) : Prop := mP (τ 0) fun x0 => mI .i64 (τ 3) fun x3 => mI .u8 (τ 4) fun x4 => mB (τ 5) fun x5 => ui1_22 nx22 Q E x0 x3 x4 x5 H

theorem ui1_23ok (nx22 : Int → HP) (Q : QT) (E : ET) (τ : Tau) (H : Heap) (h : ui1_22_M nx22 Q E τ H) : vc Pr ui1_p22 τ (ui1_q12 nx22 Q E) E H :=
  vP (i := 0) h (fun x0 h => vI (i := 3) h (fun x3 h => vI (i := 4) h (fun x4 h => vB (i := 5) h (fun x5 h => (conv (by kernel_rfl) h)))))

theorem ui1_24ok (nx22 : Int → HP) (Q : QT) (E : ET) (τ : Tau) (H : Heap) (h : ui1_22_M nx22 Q E τ H) : vc Pr ui1_p20 τ (ui1_q11 nx22 Q E) E H :=
  (conv (B := vc Pr ui1_p20 τ (ui1_q11 nx22 Q E) E H) (by kernel_rfl) (vc_seq (K := (ui1_20_M nx22 Q E)) (ui1_23ok nx22 Q E τ H h) (ui1_21ok nx22 Q E)))

theorem ui1_25ok (nx22 : Int → HP) (Q : QT) (E : ET) (τ : Tau) (H : Heap) (h : ui1_22_M nx22 Q E τ H) : vc Pr ui1_p10 τ (ui1_q6 nx22 Q E) E H :=
  (conv (B := vc Pr ui1_p10 τ (ui1_q6 nx22 Q E) E H) (by kernel_rfl) (vc_seq (K := (ui1_16_M nx22 Q E)) (ui1_24ok nx22 Q E τ H h) (ui1_19ok nx22 Q E)))

@[reducible] noncomputable def ui1_q13 (nx22 : Int → HP) (Q : QT) (E : ET) : Exit → Tau → Heap → Prop := (xthen (ui1_22_M nx22 Q E) (ui1_q6 nx22 Q E))

@[reducible] noncomputable def ui1_p23 : Code := sA ui1_p9

def ui1_26 (nx22 : Int → HP) (Q : QT) (E : ET) (x0 : OA) (x3 : Int) (H : Heap) : Prop :=
 Does Pr 94 #[(.pointer x0)] H (fun v51 H52 =>
 ∃ n53 : Int, ∃ b54 : Bool, v51 = (.tuple #[(.int .u8 n53), (.bool b54)]) ∧ ui1_22 nx22 Q E x0 x3 n53 b54 H52) E

def ui1_26_M (nx22 : Int → HP) (Q : QT) (E : ET) (τ : Tau) (H : Heap) : Prop := mP (τ 0) fun x0 => mI .i64 (τ 3) fun x3 => ui1_26 nx22 Q E x0 x3 H

theorem ui1_27ok (nx22 : Int → HP) (Q : QT) (E : ET) (τ : Tau) (H : Heap) (h : ui1_26_M nx22 Q E τ H) : vc Pr ui1_p23 τ (ui1_q13 nx22 Q E) E H :=
  vP (i := 0) h (fun x0 h => vI (i := 3) h (fun x3 h => (conv (by kernel_rfl) h)))

theorem ui1_28ok (nx22 : Int → HP) (Q : QT) (E : ET) (τ : Tau) (H : Heap) (h : ui1_26_M nx22 Q E τ H) : vc Pr ui1_p9 τ (ui1_q6 nx22 Q E) E H :=
  (conv (B := vc Pr ui1_p9 τ (ui1_q6 nx22 Q E) E H) (by kernel_rfl) (vc_seq (K := (ui1_22_M nx22 Q E)) (ui1_27ok nx22 Q E τ H h) (ui1_25ok nx22 Q E)))

theorem ui1_29ok (nx22 : Int → HP) (Q : QT) (E : ET) (τ : Tau) (H : Heap) (h : ui1_26_M nx22 Q E τ H) : vc Pr ui1_p8 τ (ui1_q5 nx22 Q E) E H :=
  (conv (B := vc Pr ui1_p8 τ (ui1_q5 nx22 Q E) E H) (by kernel_rfl) (ui1_28ok nx22 Q E τ H h))

def ui1_30 (Q : QT) (E : ET) (x0 : OA) (x3 : Int) (H : Heap) : Prop :=
 ∃ (I : Int → HP) (μ : Int → Heap → Nat), I x3 H ∧ ∀ (x3 : Int) (H : Heap), I x3 H →
 ui1_26 (fun x3' H1 => I x3' H1 ∧ μ x3' H1 < μ x3 H) Q E x0 x3 H

def ui1_30_M (Q : QT) (E : ET) (τ : Tau) (H : Heap) : Prop := mP (τ 0) fun x0 => mI .i64 (τ 3) fun x3 => ui1_30 Q E x0 x3 H

theorem ui1_31ok (Q : QT) (E : ET) (τ : Tau) (H : Heap) (h : ui1_30_M Q E τ H) : vc Pr ui1_p7 τ (ui1_q4 Q E) E H :=
  vP (i := 0) h (fun x0 h => vI (i := 3) h (fun x3 h => match h with | ⟨I, μ, h0, hr⟩ => (conv (B := vc Pr ui1_p7 (Tau.upd (Tau.upd τ 0 (.pointer x0)) 3 (.int .i64 x3)) (ui1_q4 Q E) E H) (by kernel_rfl) (vc_loop (c := sI ui1_p7) (τ := (Tau.upd (Tau.upd τ 0 (.pointer x0)) 3 (.int .i64 x3))) [0] (fun τ H => mI .i64 (τ 3) fun x3' => I x3' H) (fun τ H => μ (gI (τ 3)) H) (by kernel_rfl) h0 (fun τ1 H1 hf hI => fix_elim (τ := τ1) (i := 0) (v := (.pointer x0)) (G := fun τ => vc Pr (sI ui1_p7) τ (xthen (fun τ2 H2 => (mI .i64 (τ2 3) fun x3' => I x3' H2) ∧ μ (gI (τ2 3)) H2 < μ (gI (τ 3)) H1) (ui1_q4 Q E)) E H1) (hf 0 (by simp)) (mI_elim (i := 3) (G := fun τ => vc Pr (sI ui1_p7) τ (xthen (fun τ2 H2 => (mI .i64 (τ2 3) fun x3' => I x3' H2) ∧ μ (gI (τ2 3)) H2 < μ (gI (τ 3)) H1) (ui1_q4 Q E)) E H1) hI (fun x3r h => (conv (B := vc Pr (sI ui1_p7) (Tau.upd (Tau.upd τ1 0 (.pointer x0)) 3 (.int .i64 x3r)) (xthen (fun τ2 H2 => (mI .i64 (τ2 3) fun x3' => I x3' H2) ∧ μ (gI (τ2 3)) H2 < μ (gI ((Tau.upd (Tau.upd τ1 0 (.pointer x0)) 3 (.int .i64 x3r)) 3)) H1) (ui1_q4 Q E)) E H1) (by kernel_rfl) (vc_xthen (ui1_29ok (fun x3' H2 => I x3' H2 ∧ μ x3' H2 < μ x3r H1) Q E (Tau.upd (Tau.upd τ1 0 (.pointer x0)) 3 (.int .i64 x3r)) H1 (conv (B := ui1_26_M (fun x3' H2 => I x3' H2 ∧ μ x3' H2 < μ x3r H1) Q E (Tau.upd (Tau.upd τ1 0 (.pointer x0)) 3 (.int .i64 x3r)) H1) (by kernel_rfl) (hr x3r H1 h))) (fun τ2 H2 hk => mI_elim (i := 3) (G := fun τ => (mI .i64 (τ 3) fun x3' => I x3' H2) ∧ μ (gI (τ 3)) H2 < μ x3r H1) hk (fun x3' h => h)))))))))))

theorem ui1_32ok (Q : QT) (E : ET) (τ : Tau) (H : Heap) (h : ui1_30_M Q E τ H) : vc Pr ui1_p6 τ (ui1_q3 Q E) E H :=
  (conv (B := vc Pr ui1_p6 τ (ui1_q3 Q E) E H) (by kernel_rfl) (ui1_31ok Q E τ H h))

theorem ui1_33ok (Q : QT) (E : ET) (τ : Tau) (H : Heap) (h : ui1_30_M Q E τ H) : vc Pr ui1_p2 τ (ui1_q1 Q E) E H :=
  (conv (B := vc Pr ui1_p2 τ (ui1_q1 Q E) E H) (by kernel_rfl) (vc_seq (K := (ui1_3_M Q E)) (ui1_32ok Q E τ H h) (ui1_5ok Q E)))

@[reducible] noncomputable def ui1_q14 (Q : QT) (E : ET) : Exit → Tau → Heap → Prop := (xthen (ui1_30_M Q E) (ui1_q1 Q E))

@[reducible] noncomputable def ui1_p24 : Code := sA ui1_p1

def ui1_34 (Q : QT) (E : ET) (x0 : OA) (H : Heap) : Prop :=
 ui1_30 Q E x0 (-1) H

def ui1_34_M (Q : QT) (E : ET) (τ : Tau) (H : Heap) : Prop := mP (τ 0) fun x0 => ui1_34 Q E x0 H

theorem ui1_35ok (Q : QT) (E : ET) (τ : Tau) (H : Heap) (h : ui1_34_M Q E τ H) : vc Pr ui1_p24 τ (ui1_q14 Q E) E H :=
  vP (i := 0) h (fun x0 h => (conv (by kernel_rfl) h))

theorem ui1_36ok (Q : QT) (E : ET) (τ : Tau) (H : Heap) (h : ui1_34_M Q E τ H) : vc Pr ui1_p1 τ (ui1_q1 Q E) E H :=
  (conv (B := vc Pr ui1_p1 τ (ui1_q1 Q E) E H) (by kernel_rfl) (vc_seq (K := (ui1_30_M Q E)) (ui1_35ok Q E τ H h) (ui1_33ok Q E)))

@[reducible] noncomputable def ui1_q15 (Q : QT) (E : ET) : Exit → Tau → Heap → Prop := (xthen (ui1_34_M Q E) (ui1_q1 Q E))

@[reducible] noncomputable def ui1_p25 : Code := sA ui1_p0

def ui1 (Q : QT) (E : ET) (a0 : OA) (H : Heap) : Prop :=
 ui1_34 Q E a0 H

theorem ui1_fn (a0 : OA) (Q : QT) (E : ET) (H : Heap) (h : ui1 Q E a0 H)   : Does Pr 93 #[(.pointer a0)] H Q E :=
  Fn_of_vc (fn := Try.f93) (c := ui1_p0) (args := [(.pointer a0)]) mixed (by kernel_rfl) (by kernel_rfl) (by kernel_rfl) (by kernel_rfl) (by kernel_rfl) ((conv (B := vc Pr ui1_p0 (argT [(.pointer a0)]) (ui1_q1 Q E) E H) (by kernel_rfl) (vc_seq (K := (ui1_34_M Q E)) (conv (B := vc Pr ui1_p25 (argT [(.pointer a0)]) (ui1_q15 Q E) E H) (by kernel_rfl) h) (ui1_36ok Q E))))

/-! (*jobmux/regex.parser).next -/
@[reducible] noncomputable def uj1_q1 (Q : QT) (E : ET) : Exit → Tau → Heap → Prop := (retQ Pr (Try.f94).results.toList Q)

@[reducible] noncomputable def uj1_p0 : Code := bodyOf Try.f94

@[reducible] noncomputable def uj1_p1 : Code := sB uj1_p0

@[reducible] noncomputable def uj1_p2 : Code := sB uj1_p1

def uj1_1 (Q : QT) (E : ET) (x0 : OA) (H : Heap) : Prop :=
 ptr x0 fun q7 =>
 ldS q7 H fun s8 =>
 ptr x0 fun q9 =>
 ldI .i64 (Addr.add q9 1) H fun n10 =>
 (0 ≤ (n10 : Int) ∧ (n10 : Int) < ((ByteArray.size s8 : Nat) : Int)) ∧ Q (.tuple #[(.int .u8 (sAt s8 n10)), (.bool true)]) H

def uj1_1_M (Q : QT) (E : ET) (τ : Tau) (H : Heap) : Prop := mP (τ 0) fun x0 => uj1_1 Q E x0 H

theorem uj1_2ok (Q : QT) (E : ET) (τ : Tau) (H : Heap) (h : uj1_1_M Q E τ H) : vc Pr uj1_p2 τ (uj1_q1 Q E) E H :=
  vP (i := 0) h (fun x0 h => (conv (by kernel_rfl) h))

@[reducible] noncomputable def uj1_q2 (Q : QT) (E : ET) : Exit → Tau → Heap → Prop := (xthen (uj1_1_M Q E) (uj1_q1 Q E))

@[reducible] noncomputable def uj1_p3 : Code := sA uj1_p1

@[reducible] noncomputable def uj1_p4 : Code := sB uj1_p3

def uj1_3 (Q : QT) (E : ET) (x0 : OA) (x20 : Bool) (H : Heap) : Prop :=
 sel x20
 (Q (.tuple #[(.int .u8 0), (.bool false)]) H)
 (uj1_1 Q E x0 H)

def uj1_3_M (Q : QT) (E : ET) (τ : Tau) (H : Heap) : Prop := mP (τ 0) fun x0 => mB (τ 20) fun x20 => uj1_3 Q E x0 x20 H

theorem uj1_4ok (Q : QT) (E : ET) (τ : Tau) (H : Heap) (h : uj1_3_M Q E τ H) : vc Pr uj1_p4 τ (uj1_q2 Q E) E H :=
  vP (i := 0) h (fun x0 h => vB (i := 20) h (fun x20 h => (conv (by kernel_rfl) h)))

@[reducible] noncomputable def uj1_q3 (Q : QT) (E : ET) : Exit → Tau → Heap → Prop := (xthen (uj1_3_M Q E) (uj1_q2 Q E))

@[reducible] noncomputable def uj1_p5 : Code := sA uj1_p3

def uj1_5 (Q : QT) (E : ET) (x0 : OA) (H : Heap) : Prop :=
 ptr x0 fun q17 =>
 ldI .i64 (Addr.add q17 4) H fun n18 =>
 sel ((n18 : Int) != 0)
 (uj1_3 Q E x0 true H)
 (ptr x0 fun q19 =>
 ldI .i64 (Addr.add q19 1) H fun n20 =>
 ptr x0 fun q21 =>
 ldS q21 H fun s22 =>
 uj1_3 Q E x0 (decide ((n20 : Int) ≥ ((ByteArray.size s22 : Nat) : Int))) H)

def uj1_5_M (Q : QT) (E : ET) (τ : Tau) (H : Heap) : Prop := mP (τ 0) fun x0 => uj1_5 Q E x0 H

theorem uj1_6ok (Q : QT) (E : ET) (τ : Tau) (H : Heap) (h : uj1_5_M Q E τ H) : vc Pr uj1_p5 τ (uj1_q3 Q E) E H :=
  vP (i := 0) h (fun x0 h => (conv (by kernel_rfl) h))

theorem uj1_7ok (Q : QT) (E : ET) (τ : Tau) (H : Heap) (h : uj1_5_M Q E τ H) : vc Pr uj1_p3 τ (uj1_q2 Q E) E H :=
  (conv (B := vc Pr uj1_p3 τ (uj1_q2 Q E) E H) (by kernel_rfl) (vc_seq (K := (uj1_3_M Q E)) (uj1_6ok Q E τ H h) (uj1_4ok Q E)))

theorem uj1_8ok (Q : QT) (E : ET) (τ : Tau) (H : Heap) (h : uj1_5_M Q E τ H) : vc Pr uj1_p1 τ (uj1_q1 Q E) E H :=
  (conv (B := vc Pr uj1_p1 τ (uj1_q1 Q E) E H) (by kernel_rfl) (vc_seq (K := (uj1_1_M Q E)) (uj1_7ok Q E τ H h) (uj1_2ok Q E)))

@[reducible] noncomputable def uj1_q4 (Q : QT) (E : ET) : Exit → Tau → Heap → Prop := (xthen (uj1_5_M Q E) (uj1_q1 Q E))

@[reducible] noncomputable def uj1_p6 : Code := sA uj1_p0

def uj1 (Q : QT) (E : ET) (a0 : OA) (H : Heap) : Prop :=
 uj1_5 Q E a0 H

theorem uj1_fn (a0 : OA) (Q : QT) (E : ET) (H : Heap) (h : uj1 Q E a0 H)   : Does Pr 94 #[(.pointer a0)] H Q E :=
  Fn_of_vc (fn := Try.f94) (c := uj1_p0) (args := [(.pointer a0)]) mixed (by kernel_rfl) (by kernel_rfl) (by kernel_rfl) (by kernel_rfl) (by kernel_rfl) ((conv (B := vc Pr uj1_p0 (argT [(.pointer a0)]) (uj1_q1 Q E) E H) (by kernel_rfl) (vc_seq (K := (uj1_5_M Q E)) (conv (B := vc Pr uj1_p6 (argT [(.pointer a0)]) (uj1_q4 Q E) E H) (by kernel_rfl) h) (uj1_8ok Q E))))

/-! (*jobmux/regex.parser).put -/
@[reducible] noncomputable def uk1_q1 (Q : QT) (E : ET) : Exit → Tau → Heap → Prop := (retQ Pr (Try.f95).results.toList Q)

@[reducible] noncomputable def uk1_p0 : Code := bodyOf Try.f95

def uk1 (Q : QT) (E : ET) (a0 : OA) (a1_0 : Int) (a1_1 : Int) (a1_2 : Int) (a1_3 : Int) (a1_4 : Int) (a1_5 : Int) (a1_6 : Int) (H : Heap) : Prop :=
 nw (.cells #[(.int .i64 a1_0), (.int .i64 a1_1), (.int .i64 a1_2), (.int .u64 a1_3), (.int .u64 a1_4), (.int .u64 a1_5), (.int .u64 a1_6)] 48 (0, 0)) H fun i1 H2 =>
 ptr a0 fun q3 =>
 ldSl (Addr.add q3 3) H2 fun p4 l5 c6 =>
 ∃ n7 n8 n9 n10 n11 n12 n13 : Int, Heap.rd H2 ⟨i1, 0, none⟩ 0 [(.int .i64 n7), (.int .i64 n8), (.int .i64 n9), (.int .u64 n10), (.int .u64 n11), (.int .u64 n12), (.int .u64 n13)] ∧ nw (.cells #[(.int .i64 n7), (.int .i64 n8), (.int .i64 n9), (.int .u64 n10), (.int .u64 n11), (.int .u64 n12), (.int .u64 n13)] 48 (0, 0)) H2 fun i14 H15 =>
 app Pr 23 p4 l5 c6 (.slice (some ⟨i14, 0, none⟩) 1 1) H15 fun p16 l17 c18 H19 =>
 ptr a0 fun q20 =>
 wr (Addr.add q20 3) [(.slice p16 l17 c18)] H19 fun H21 =>
 ptr a0 fun q22 =>
 ldSl (Addr.add q22 3) H21 fun p23 l24 c25 =>
 Q (.int .i64 (IntKind.wrap .i64 (((l24 : Nat) : Int) - 1))) H21

theorem uk1_fn (a0 : OA) (a1_0 : Int) (a1_1 : Int) (a1_2 : Int) (a1_3 : Int) (a1_4 : Int) (a1_5 : Int) (a1_6 : Int) (Q : QT) (E : ET) (H : Heap) (h : uk1 Q E a0 a1_0 a1_1 a1_2 a1_3 a1_4 a1_5 a1_6 H)   : Does Pr 95 #[(.pointer a0), (.agg #[(.int .i64 a1_0), (.int .i64 a1_1), (.int .i64 a1_2), (.int .u64 a1_3), (.int .u64 a1_4), (.int .u64 a1_5), (.int .u64 a1_6)])] H Q E :=
  Fn_of_vc (fn := Try.f95) (c := uk1_p0) (args := [(.pointer a0), (.agg #[(.int .i64 a1_0), (.int .i64 a1_1), (.int .i64 a1_2), (.int .u64 a1_3), (.int .u64 a1_4), (.int .u64 a1_5), (.int .u64 a1_6)])]) mixed (by kernel_rfl) (by kernel_rfl) (by kernel_rfl) (by kernel_rfl) (by kernel_rfl) ((conv (B := vc Pr uk1_p0 (argT [(.pointer a0), (.agg #[(.int .i64 a1_0), (.int .i64 a1_1), (.int .i64 a1_2), (.int .u64 a1_3), (.int .u64 a1_4), (.int .u64 a1_5), (.int .u64 a1_6)])]) (uk1_q1 Q E) E H) (by kernel_rfl) h))

/-! (*jobmux/regex.parser).fail -/
@[reducible] noncomputable def ul1_q1 (Q : QT) (E : ET) : Exit → Tau → Heap → Prop := (retQ Pr (Try.f103).results.toList Q)

@[reducible] noncomputable def ul1_p0 : Code := bodyOf Try.f103

@[reducible] noncomputable def ul1_p1 : Code := sB ul1_p0

@[reducible] noncomputable def ul1_p2 : Code := sB ul1_p1

def ul1_1 (Q : QT) (E : ET) (x0 : OA) (H : Heap) : Prop :=
 ptr x0 fun q5 =>
 ldI .i64 (Addr.add q5 4) H fun n6 =>
 Q (.int .i64 n6) H

def ul1_1_M (Q : QT) (E : ET) (τ : Tau) (H : Heap) : Prop := mP (τ 0) fun x0 => ul1_1 Q E x0 H

theorem ul1_2ok (Q : QT) (E : ET) (τ : Tau) (H : Heap) (h : ul1_1_M Q E τ H) : vc Pr ul1_p2 τ (ul1_q1 Q E) E H :=
  vP (i := 0) h (fun x0 h => (conv (by kernel_rfl) h))

@[reducible] noncomputable def ul1_q2 (Q : QT) (E : ET) : Exit → Tau → Heap → Prop := (xthen (ul1_1_M Q E) (ul1_q1 Q E))

@[reducible] noncomputable def ul1_p3 : Code := sA ul1_p1

def ul1_3 (Q : QT) (E : ET) (x0 : OA) (x1 : Int) (H : Heap) : Prop :=
 ptr x0 fun q7 =>
 ldI .i64 (Addr.add q7 4) H fun n8 =>
 sel ((n8 : Int) == 0)
 (ptr x0 fun q9 =>
 wr (Addr.add q9 4) [(.int .i64 x1)] H fun H10 =>
 ul1_1 Q E x0 H10)
 (ul1_1 Q E x0 H)

def ul1_3_M (Q : QT) (E : ET) (τ : Tau) (H : Heap) : Prop := mP (τ 0) fun x0 => mI .i64 (τ 1) fun x1 => ul1_3 Q E x0 x1 H

theorem ul1_4ok (Q : QT) (E : ET) (τ : Tau) (H : Heap) (h : ul1_3_M Q E τ H) : vc Pr ul1_p3 τ (ul1_q2 Q E) E H :=
  vP (i := 0) h (fun x0 h => vI (i := 1) h (fun x1 h => (conv (by kernel_rfl) h)))

theorem ul1_5ok (Q : QT) (E : ET) (τ : Tau) (H : Heap) (h : ul1_3_M Q E τ H) : vc Pr ul1_p1 τ (ul1_q1 Q E) E H :=
  (conv (B := vc Pr ul1_p1 τ (ul1_q1 Q E) E H) (by kernel_rfl) (vc_seq (K := (ul1_1_M Q E)) (ul1_4ok Q E τ H h) (ul1_2ok Q E)))

@[reducible] noncomputable def ul1_q3 (Q : QT) (E : ET) : Exit → Tau → Heap → Prop := (xthen (ul1_3_M Q E) (ul1_q1 Q E))

@[reducible] noncomputable def ul1_p4 : Code := sA ul1_p0

def ul1 (Q : QT) (E : ET) (a0 : OA) (a1 : Int) (H : Heap) : Prop :=
 ul1_3 Q E a0 a1 H

theorem ul1_fn (a0 : OA) (a1 : Int) (Q : QT) (E : ET) (H : Heap) (h : ul1 Q E a0 a1 H)   : Does Pr 103 #[(.pointer a0), (.int .i64 a1)] H Q E :=
  Fn_of_vc (fn := Try.f103) (c := ul1_p0) (args := [(.pointer a0), (.int .i64 a1)]) mixed (by kernel_rfl) (by kernel_rfl) (by kernel_rfl) (by kernel_rfl) (by kernel_rfl) ((conv (B := vc Pr ul1_p0 (argT [(.pointer a0), (.int .i64 a1)]) (ul1_q1 Q E) E H) (by kernel_rfl) (vc_seq (K := (ul1_3_M Q E)) (conv (B := vc Pr ul1_p4 (argT [(.pointer a0), (.int .i64 a1)]) (ul1_q3 Q E) E H) (by kernel_rfl) h) (ul1_5ok Q E))))

/-! (*jobmux/regex.parser).part -/
@[reducible] noncomputable def um1_q1 (Q : QT) (E : ET) : Exit → Tau → Heap → Prop := (retQ Pr (Try.f104).results.toList Q)

@[reducible] noncomputable def um1_p0 : Code := bodyOf Try.f104

@[reducible] noncomputable def um1_p1 : Code := sB um1_p0

@[reducible] noncomputable def um1_p2 : Code := sB um1_p1

@[reducible] noncomputable def um1_q2 (Q : QT) (E : ET) : Exit → Tau → Heap → Prop := (xblock 0 (um1_q1 Q E))

@[reducible] noncomputable def um1_p3 : Code := sI um1_p2

@[reducible] noncomputable def um1_q3 (nx4 : Int → HP) (Q : QT) (E : ET) : Exit → Tau → Heap → Prop := (xthen (fun τ H => mI .i64 (τ 5) fun x5' => nx4 x5' H) (um1_q2 Q E))

@[reducible] noncomputable def um1_p4 : Code := sI um1_p3

@[reducible] noncomputable def um1_q4 (nx4 : Int → HP) (Q : QT) (E : ET) : Exit → Tau → Heap → Prop := (xblock 1 (um1_q3 nx4 Q E))

@[reducible] noncomputable def um1_p5 : Code := sI um1_p4

@[reducible] noncomputable def um1_p6 : Code := sB um1_p5

@[reducible] noncomputable def um1_p7 : Code := sB um1_p6

def um1_1 (nx4 : Int → HP) (Q : QT) (E : ET) (x0 : OA) (x5 : Int) (x6 : Int) (H : Heap) : Prop :=
 ptr x0 fun q9 =>
 ldI .i64 (Addr.add q9 1) H fun n10 =>
 ptr x0 fun q11 =>
 wr (Addr.add q11 1) [(.int .i64 (IntKind.wrap .i64 (n10 + 1)))] H fun H12 =>
 Does Pr 95 #[(.pointer x0), (.agg #[(.int .i64 x6), (.int .i64 x5), (.int .i64 0), (.int .u64 0), (.int .u64 0), (.int .u64 0), (.int .u64 0)])] H12 (fun v13 H14 =>
 ∃ n15 : Int, v13 = (.int .i64 n15) ∧ nx4 n15 H14) E

def um1_1_M (nx4 : Int → HP) (Q : QT) (E : ET) (τ : Tau) (H : Heap) : Prop := mP (τ 0) fun x0 => mI .i64 (τ 5) fun x5 => mI .i64 (τ 6) fun x6 => um1_1 nx4 Q E x0 x5 x6 H

theorem um1_2ok (nx4 : Int → HP) (Q : QT) (E : ET) (τ : Tau) (H : Heap) (h : um1_1_M nx4 Q E τ H) : vc Pr um1_p7 τ (um1_q4 nx4 Q E) E H :=
  vP (i := 0) h (fun x0 h => vI (i := 5) h (fun x5 h => vI (i := 6) h (fun x6 h => (conv (by kernel_rfl) h))))

@[reducible] noncomputable def um1_q5 (nx4 : Int → HP) (Q : QT) (E : ET) : Exit → Tau → Heap → Prop := (xthen (um1_1_M nx4 Q E) (um1_q4 nx4 Q E))

@[reducible] noncomputable def um1_p8 : Code := sA um1_p6

def um1_3 (nx4 : Int → HP) (Q : QT) (E : ET) (x0 : OA) (x5 : Int) (H : Heap) : Prop :=
 Does Pr 94 #[(.pointer x0)] H (fun v16 H17 =>
 ∃ n18 : Int, ∃ b19 : Bool, v16 = (.tuple #[(.int .u8 n18), (.bool b19)]) ∧ sel ((n18 : Int) == 42)
 (um1_1 nx4 Q E x0 x5 5 H17)
 (sel ((n18 : Int) == 43)
 (um1_1 nx4 Q E x0 x5 6 H17)
 (sel ((n18 : Int) == 63)
 (um1_1 nx4 Q E x0 x5 7 H17)
 (Q (.int .i64 x5) H17)))) E

def um1_3_M (nx4 : Int → HP) (Q : QT) (E : ET) (τ : Tau) (H : Heap) : Prop := mP (τ 0) fun x0 => mI .i64 (τ 5) fun x5 => um1_3 nx4 Q E x0 x5 H

theorem um1_4ok (nx4 : Int → HP) (Q : QT) (E : ET) (τ : Tau) (H : Heap) (h : um1_3_M nx4 Q E τ H) : vc Pr um1_p8 τ (um1_q5 nx4 Q E) E H :=
  vP (i := 0) h (fun x0 h => vI (i := 5) h (fun x5 h => (conv (by kernel_rfl) h)))

theorem um1_5ok (nx4 : Int → HP) (Q : QT) (E : ET) (τ : Tau) (H : Heap) (h : um1_3_M nx4 Q E τ H) : vc Pr um1_p6 τ (um1_q4 nx4 Q E) E H :=
  (conv (B := vc Pr um1_p6 τ (um1_q4 nx4 Q E) E H) (by kernel_rfl) (vc_seq (K := (um1_1_M nx4 Q E)) (um1_4ok nx4 Q E τ H h) (um1_2ok nx4 Q E)))

@[reducible] noncomputable def um1_q6 (nx4 : Int → HP) (Q : QT) (E : ET) : Exit → Tau → Heap → Prop := (xthen (um1_3_M nx4 Q E) (um1_q4 nx4 Q E))

@[reducible] noncomputable def um1_p9 : Code := sA um1_p5

def um1_6 (nx4 : Int → HP) (Q : QT) (E : ET) (x0 : OA) (x5 : Int) (H : Heap) : Prop :=
 um1_3 nx4 Q E x0 x5 H

def um1_6_M (nx4 : Int → HP) (Q : QT) (E : ET) (τ : Tau) (H : Heap) : Prop := mP (τ 0) fun x0 => mI .i64 (τ 5) fun x5 => um1_6 nx4 Q E x0 x5 H

theorem um1_7ok (nx4 : Int → HP) (Q : QT) (E : ET) (τ : Tau) (H : Heap) (h : um1_6_M nx4 Q E τ H) : vc Pr um1_p9 τ (um1_q6 nx4 Q E) E H :=
  vP (i := 0) h (fun x0 h => vI (i := 5) h (fun x5 h => (conv (by kernel_rfl) h)))

theorem um1_8ok (nx4 : Int → HP) (Q : QT) (E : ET) (τ : Tau) (H : Heap) (h : um1_6_M nx4 Q E τ H) : vc Pr um1_p5 τ (um1_q4 nx4 Q E) E H :=
  (conv (B := vc Pr um1_p5 τ (um1_q4 nx4 Q E) E H) (by kernel_rfl) (vc_seq (K := (um1_3_M nx4 Q E)) (um1_7ok nx4 Q E τ H h) (um1_5ok nx4 Q E)))

theorem um1_9ok (nx4 : Int → HP) (Q : QT) (E : ET) (τ : Tau) (H : Heap) (h : um1_6_M nx4 Q E τ H) : vc Pr um1_p4 τ (um1_q3 nx4 Q E) E H :=
  (conv (B := vc Pr um1_p4 τ (um1_q3 nx4 Q E) E H) (by kernel_rfl) (um1_8ok nx4 Q E τ H h))

def um1_10 (Q : QT) (E : ET) (x0 : OA) (x5 : Int) (H : Heap) : Prop :=
 ∃ (I : Int → HP) (μ : Int → Heap → Nat), I x5 H ∧ ∀ (x5 : Int) (H : Heap), I x5 H →
 um1_6 (fun x5' H1 => I x5' H1 ∧ μ x5' H1 < μ x5 H) Q E x0 x5 H

def um1_10_M (Q : QT) (E : ET) (τ : Tau) (H : Heap) : Prop := mP (τ 0) fun x0 => mI .i64 (τ 5) fun x5 => um1_10 Q E x0 x5 H

theorem um1_11ok (Q : QT) (E : ET) (τ : Tau) (H : Heap) (h : um1_10_M Q E τ H) : vc Pr um1_p3 τ (um1_q2 Q E) E H :=
  vP (i := 0) h (fun x0 h => vI (i := 5) h (fun x5 h => match h with | ⟨I, μ, h0, hr⟩ => (conv (B := vc Pr um1_p3 (Tau.upd (Tau.upd τ 0 (.pointer x0)) 5 (.int .i64 x5)) (um1_q2 Q E) E H) (by kernel_rfl) (vc_loop (c := sI um1_p3) (τ := (Tau.upd (Tau.upd τ 0 (.pointer x0)) 5 (.int .i64 x5))) [0] (fun τ H => mI .i64 (τ 5) fun x5' => I x5' H) (fun τ H => μ (gI (τ 5)) H) (by kernel_rfl) h0 (fun τ1 H1 hf hI => fix_elim (τ := τ1) (i := 0) (v := (.pointer x0)) (G := fun τ => vc Pr (sI um1_p3) τ (xthen (fun τ2 H2 => (mI .i64 (τ2 5) fun x5' => I x5' H2) ∧ μ (gI (τ2 5)) H2 < μ (gI (τ 5)) H1) (um1_q2 Q E)) E H1) (hf 0 (by simp)) (mI_elim (i := 5) (G := fun τ => vc Pr (sI um1_p3) τ (xthen (fun τ2 H2 => (mI .i64 (τ2 5) fun x5' => I x5' H2) ∧ μ (gI (τ2 5)) H2 < μ (gI (τ 5)) H1) (um1_q2 Q E)) E H1) hI (fun x5r h => (conv (B := vc Pr (sI um1_p3) (Tau.upd (Tau.upd τ1 0 (.pointer x0)) 5 (.int .i64 x5r)) (xthen (fun τ2 H2 => (mI .i64 (τ2 5) fun x5' => I x5' H2) ∧ μ (gI (τ2 5)) H2 < μ (gI ((Tau.upd (Tau.upd τ1 0 (.pointer x0)) 5 (.int .i64 x5r)) 5)) H1) (um1_q2 Q E)) E H1) (by kernel_rfl) (vc_xthen (um1_9ok (fun x5' H2 => I x5' H2 ∧ μ x5' H2 < μ x5r H1) Q E (Tau.upd (Tau.upd τ1 0 (.pointer x0)) 5 (.int .i64 x5r)) H1 (conv (B := um1_6_M (fun x5' H2 => I x5' H2 ∧ μ x5' H2 < μ x5r H1) Q E (Tau.upd (Tau.upd τ1 0 (.pointer x0)) 5 (.int .i64 x5r)) H1) (by kernel_rfl) (hr x5r H1 h))) (fun τ2 H2 hk => mI_elim (i := 5) (G := fun τ => (mI .i64 (τ 5) fun x5' => I x5' H2) ∧ μ (gI (τ 5)) H2 < μ x5r H1) hk (fun x5' h => h)))))))))))

theorem um1_12ok (Q : QT) (E : ET) (τ : Tau) (H : Heap) (h : um1_10_M Q E τ H) : vc Pr um1_p2 τ (um1_q1 Q E) E H :=
  (conv (B := vc Pr um1_p2 τ (um1_q1 Q E) E H) (by kernel_rfl) (um1_11ok Q E τ H h))

@[reducible] noncomputable def um1_q7 (Q : QT) (E : ET) : Exit → Tau → Heap → Prop := (xthen (um1_10_M Q E) (um1_q1 Q E))

@[reducible] noncomputable def um1_p10 : Code := sA um1_p1

def um1_13 (Q : QT) (E : ET) (x0 : OA) (x1 : Int) (H : Heap) : Prop :=
 Does Pr 106 #[(.pointer x0), (.int .u8 x1)] H (fun v20 H21 =>
 ∃ n22 : Int, v20 = (.int .i64 n22) ∧ um1_10 Q E x0 n22 H21) E

def um1_13_M (Q : QT) (E : ET) (τ : Tau) (H : Heap) : Prop := mP (τ 0) fun x0 => mI .u8 (τ 1) fun x1 => um1_13 Q E x0 x1 H

theorem um1_14ok (Q : QT) (E : ET) (τ : Tau) (H : Heap) (h : um1_13_M Q E τ H) : vc Pr um1_p10 τ (um1_q7 Q E) E H :=
  vP (i := 0) h (fun x0 h => vI (i := 1) h (fun x1 h => (conv (by kernel_rfl) h)))

theorem um1_15ok (Q : QT) (E : ET) (τ : Tau) (H : Heap) (h : um1_13_M Q E τ H) : vc Pr um1_p1 τ (um1_q1 Q E) E H :=
  (conv (B := vc Pr um1_p1 τ (um1_q1 Q E) E H) (by kernel_rfl) (vc_seq (K := (um1_10_M Q E)) (um1_14ok Q E τ H h) (um1_12ok Q E)))

@[reducible] noncomputable def um1_q8 (Q : QT) (E : ET) : Exit → Tau → Heap → Prop := (xthen (um1_13_M Q E) (um1_q1 Q E))

@[reducible] noncomputable def um1_p11 : Code := sA um1_p0

def um1 (Q : QT) (E : ET) (a0 : OA) (a1 : Int) (H : Heap) : Prop :=
 um1_13 Q E a0 a1 H

theorem um1_fn (a0 : OA) (a1 : Int) (Q : QT) (E : ET) (H : Heap) (h : um1 Q E a0 a1 H)   : Does Pr 104 #[(.pointer a0), (.int .u8 a1)] H Q E :=
  Fn_of_vc (fn := Try.f104) (c := um1_p0) (args := [(.pointer a0), (.int .u8 a1)]) mixed (by kernel_rfl) (by kernel_rfl) (by kernel_rfl) (by kernel_rfl) (by kernel_rfl) ((conv (B := vc Pr um1_p0 (argT [(.pointer a0), (.int .u8 a1)]) (um1_q1 Q E) E H) (by kernel_rfl) (vc_seq (K := (um1_13_M Q E)) (conv (B := vc Pr um1_p11 (argT [(.pointer a0), (.int .u8 a1)]) (um1_q8 Q E) E H) (by kernel_rfl) h) (um1_15ok Q E))))

/-! (*jobmux/regex.parser).atom -/
@[reducible] noncomputable def un1_q1 (Q : QT) (E : ET) : Exit → Tau → Heap → Prop := (retQ Pr (Try.f106).results.toList Q)

@[reducible] noncomputable def un1_p0 : Code := bodyOf Try.f106

@[reducible] noncomputable def un1_p1 : Code := sB un1_p0

@[reducible] noncomputable def un1_p2 : Code := sB un1_p1

@[reducible] noncomputable def un1_p3 : Code := sB un1_p2

def un1_1 (Q : QT) (E : ET)  (H : Heap) : Prop :=
 Q (.int .i64 0) H

def un1_1_M (Q : QT) (E : ET) (τ : Tau) (H : Heap) : Prop := un1_1 Q E  H

theorem un1_2ok (Q : QT) (E : ET) (τ : Tau) (H : Heap) (h : un1_1_M Q E τ H) : vc Pr un1_p3 τ (un1_q1 Q E) E H :=
  (conv (B := vc Pr un1_p3 τ (un1_q1 Q E) E H) (by kernel_rfl) h)

@[reducible] noncomputable def un1_q2 (Q : QT) (E : ET) : Exit → Tau → Heap → Prop := (xthen (un1_1_M Q E) (un1_q1 Q E))

@[reducible] noncomputable def un1_p4 : Code := sA un1_p2

@[reducible] noncomputable def un1_p5 : Code := sB un1_p4

@[reducible] noncomputable def un1_q3 (Q : QT) (E : ET) : Exit → Tau → Heap → Prop := (xblock 0 (un1_q2 Q E))

@[reducible] noncomputable def un1_p6 : Code := sI un1_p5

@[reducible] noncomputable def un1_p7 : Code := sB un1_p6

@[reducible] noncomputable def un1_p8 : Code := sT un1_p7

def un1_3 (Q : QT) (E : ET) (x0 : OA) (H : Heap) : Prop :=
 Does Pr 112 #[(.string ⟨[10].toArray⟩)] H (fun v99 H100 =>
 ∃ n101 n102 n103 n104 : Int, v99 = (.agg #[(.int .u64 n101), (.int .u64 n102), (.int .u64 n103), (.int .u64 n104)]) ∧ Does Pr 111 #[(.agg #[(.int .u64 n101), (.int .u64 n102), (.int .u64 n103), (.int .u64 n104)])] H100 (fun v105 H106 =>
 ∃ n107 n108 n109 n110 : Int, v105 = (.agg #[(.int .u64 n107), (.int .u64 n108), (.int .u64 n109), (.int .u64 n110)]) ∧ Does Pr 95 #[(.pointer x0), (.agg #[(.int .i64 2), (.int .i64 0), (.int .i64 0), (.int .u64 n107), (.int .u64 n108), (.int .u64 n109), (.int .u64 n110)])] H106 (fun v111 H112 =>
 ∃ n113 : Int, v111 = (.int .i64 n113) ∧ Q (.int .i64 n113) H112) E) E) E

def un1_3_M (Q : QT) (E : ET) (τ : Tau) (H : Heap) : Prop := mP (τ 0) fun x0 => un1_3 Q E x0 H

theorem un1_4ok (Q : QT) (E : ET) (τ : Tau) (H : Heap) (h : un1_3_M Q E τ H) : vc Pr un1_p8 τ (un1_q3 Q E) E H :=
  vP (i := 0) h (fun x0 h => (conv (by kernel_rfl) h))

@[reducible] noncomputable def un1_p9 : Code := sE un1_p7

@[reducible] noncomputable def un1_p10 : Code := sB un1_p9

@[reducible] noncomputable def un1_p11 : Code := sT un1_p10

def un1_5 (Q : QT) (E : ET) (x0 : OA) (H : Heap) : Prop :=
 Does Pr 95 #[(.pointer x0), (.agg #[(.int .i64 8), (.int .i64 0), (.int .i64 0), (.int .u64 0), (.int .u64 0), (.int .u64 0), (.int .u64 0)])] H (fun v114 H115 =>
 ∃ n116 : Int, v114 = (.int .i64 n116) ∧ Q (.int .i64 n116) H115) E

def un1_5_M (Q : QT) (E : ET) (τ : Tau) (H : Heap) : Prop := mP (τ 0) fun x0 => un1_5 Q E x0 H

theorem un1_6ok (Q : QT) (E : ET) (τ : Tau) (H : Heap) (h : un1_5_M Q E τ H) : vc Pr un1_p11 τ (un1_q3 Q E) E H :=
  vP (i := 0) h (fun x0 h => (conv (by kernel_rfl) h))

@[reducible] noncomputable def un1_p12 : Code := sE un1_p10

@[reducible] noncomputable def un1_p13 : Code := sB un1_p12

@[reducible] noncomputable def un1_p14 : Code := sT un1_p13

def un1_7 (Q : QT) (E : ET) (x0 : OA) (H : Heap) : Prop :=
 Does Pr 95 #[(.pointer x0), (.agg #[(.int .i64 9), (.int .i64 0), (.int .i64 0), (.int .u64 0), (.int .u64 0), (.int .u64 0), (.int .u64 0)])] H (fun v117 H118 =>
 ∃ n119 : Int, v117 = (.int .i64 n119) ∧ Q (.int .i64 n119) H118) E

def un1_7_M (Q : QT) (E : ET) (τ : Tau) (H : Heap) : Prop := mP (τ 0) fun x0 => un1_7 Q E x0 H

theorem un1_8ok (Q : QT) (E : ET) (τ : Tau) (H : Heap) (h : un1_7_M Q E τ H) : vc Pr un1_p14 τ (un1_q3 Q E) E H :=
  vP (i := 0) h (fun x0 h => (conv (by kernel_rfl) h))

@[reducible] noncomputable def un1_p15 : Code := sE un1_p13

@[reducible] noncomputable def un1_p16 : Code := sB un1_p15

@[reducible] noncomputable def un1_p17 : Code := sT un1_p16

def un1_9 (Q : QT) (E : ET) (x0 : OA) (H : Heap) : Prop :=
 Does Pr 113 #[(.pointer x0)] H (fun v120 H121 =>
 ∃ n122 n123 n124 n125 : Int, v120 = (.agg #[(.int .u64 n122), (.int .u64 n123), (.int .u64 n124), (.int .u64 n125)]) ∧ Does Pr 95 #[(.pointer x0), (.agg #[(.int .i64 2), (.int .i64 0), (.int .i64 0), (.int .u64 n122), (.int .u64 n123), (.int .u64 n124), (.int .u64 n125)])] H121 (fun v126 H127 =>
 ∃ n128 : Int, v126 = (.int .i64 n128) ∧ Q (.int .i64 n128) H127) E) E

def un1_9_M (Q : QT) (E : ET) (τ : Tau) (H : Heap) : Prop := mP (τ 0) fun x0 => un1_9 Q E x0 H

theorem un1_10ok (Q : QT) (E : ET) (τ : Tau) (H : Heap) (h : un1_9_M Q E τ H) : vc Pr un1_p17 τ (un1_q3 Q E) E H :=
  vP (i := 0) h (fun x0 h => (conv (by kernel_rfl) h))

@[reducible] noncomputable def un1_p18 : Code := sE un1_p16

@[reducible] noncomputable def un1_p19 : Code := sB un1_p18

@[reducible] noncomputable def un1_p20 : Code := sT un1_p19

def un1_11 (Q : QT) (E : ET) (x0 : OA) (H : Heap) : Prop :=
 Does Pr 103 #[(.pointer x0), (.int .i64 80)] H (fun v129 H130 =>
 ∃ n131 : Int, v129 = (.int .i64 n131) ∧ un1_1 Q E  H130) E

def un1_11_M (Q : QT) (E : ET) (τ : Tau) (H : Heap) : Prop := mP (τ 0) fun x0 => un1_11 Q E x0 H

theorem un1_12ok (Q : QT) (E : ET) (τ : Tau) (H : Heap) (h : un1_11_M Q E τ H) : vc Pr un1_p20 τ (un1_q3 Q E) E H :=
  vP (i := 0) h (fun x0 h => (conv (by kernel_rfl) h))

@[reducible] noncomputable def un1_p21 : Code := sE un1_p19

@[reducible] noncomputable def un1_p22 : Code := sB un1_p21

@[reducible] noncomputable def un1_p23 : Code := sT un1_p22

def un1_13 (Q : QT) (E : ET) (x0 : OA) (H : Heap) : Prop :=
 Does Pr 103 #[(.pointer x0), (.int .i64 81)] H (fun v132 H133 =>
 ∃ n134 : Int, v132 = (.int .i64 n134) ∧ un1_1 Q E  H133) E

def un1_13_M (Q : QT) (E : ET) (τ : Tau) (H : Heap) : Prop := mP (τ 0) fun x0 => un1_13 Q E x0 H

theorem un1_14ok (Q : QT) (E : ET) (τ : Tau) (H : Heap) (h : un1_13_M Q E τ H) : vc Pr un1_p23 τ (un1_q3 Q E) E H :=
  vP (i := 0) h (fun x0 h => (conv (by kernel_rfl) h))

@[reducible] noncomputable def un1_p24 : Code := sE un1_p22

@[reducible] noncomputable def un1_p25 : Code := sB un1_p24

@[reducible] noncomputable def un1_p26 : Code := sT un1_p25

def un1_15 (Q : QT) (E : ET) (x0 : OA) (H : Heap) : Prop :=
 ptr x0 fun q135 =>
 ldI .i64 (Addr.add q135 1) H fun n136 =>
 ptr x0 fun q137 =>
 wr (Addr.add q137 1) [(.int .i64 (IntKind.wrap .i64 (n136 - 1)))] H fun H138 =>
 Does Pr 114 #[(.pointer x0)] H138 (fun v139 H140 =>
 ∃ n141 n142 n143 n144 n145 : Int, ∃ b146 : Bool, v139 = (.tuple #[(.int .u8 n141), (.agg #[(.int .u64 n142), (.int .u64 n143), (.int .u64 n144), (.int .u64 n145)]), (.bool b146)]) ∧ nw (.cells #[(.int .u64 0), (.int .u64 0), (.int .u64 0), (.int .u64 0)] 46 (0, 0)) H140 fun i147 H148 =>
 wr ⟨i147, 0, none⟩ [(.int .u64 n142), (.int .u64 n143), (.int .u64 n144), (.int .u64 n145)] H148 fun H149 =>
 ∃ n150 n151 n152 n153 : Int, Heap.rd H149 ⟨i147, 0, none⟩ 0 [(.int .u64 n150), (.int .u64 n151), (.int .u64 n152), (.int .u64 n153)] ∧ Does Pr 95 #[(.pointer x0), (.agg #[(.int .i64 2), (.int .i64 0), (.int .i64 0), (.int .u64 n150), (.int .u64 n151), (.int .u64 n152), (.int .u64 n153)])] H149 (fun v154 H155 =>
 ∃ n156 : Int, v154 = (.int .i64 n156) ∧ Q (.int .i64 n156) H155) E) E

def un1_15_M (Q : QT) (E : ET) (τ : Tau) (H : Heap) : Prop := mP (τ 0) fun x0 => un1_15 Q E x0 H

theorem un1_16ok (Q : QT) (E : ET) (τ : Tau) (H : Heap) (h : un1_15_M Q E τ H) : vc Pr un1_p26 τ (un1_q3 Q E) E H :=
  vP (i := 0) h (fun x0 h => (conv (by kernel_rfl) h))

@[reducible] noncomputable def un1_p27 : Code := sE un1_p25

@[reducible] noncomputable def un1_p28 : Code := sB un1_p27

@[reducible] noncomputable def un1_p29 : Code := sT un1_p28

@[reducible] noncomputable def un1_p30 : Code := sB un1_p29

@[reducible] noncomputable def un1_p31 : Code := sB un1_p30

@[reducible] noncomputable def un1_p32 : Code := sB un1_p31

def un1_17 (Q : QT) (E : ET) (x0 : OA) (x8 : Int) (H : Heap) : Prop :=
 ptr x0 fun q180 =>
 ldI .i64 (Addr.add q180 2) H fun n181 =>
 ptr x0 fun q182 =>
 wr (Addr.add q182 2) [(.int .i64 (IntKind.wrap .i64 (n181 - 1)))] H fun H183 =>
 Q (.int .i64 x8) H183

def un1_17_M (Q : QT) (E : ET) (τ : Tau) (H : Heap) : Prop := mP (τ 0) fun x0 => mI .i64 (τ 8) fun x8 => un1_17 Q E x0 x8 H

theorem un1_18ok (Q : QT) (E : ET) (τ : Tau) (H : Heap) (h : un1_17_M Q E τ H) : vc Pr un1_p32 τ (un1_q3 Q E) E H :=
  vP (i := 0) h (fun x0 h => vI (i := 8) h (fun x8 h => (conv (by kernel_rfl) h)))

@[reducible] noncomputable def un1_q4 (Q : QT) (E : ET) : Exit → Tau → Heap → Prop := (xthen (un1_17_M Q E) (un1_q3 Q E))

@[reducible] noncomputable def un1_p33 : Code := sA un1_p31

@[reducible] noncomputable def un1_p34 : Code := sB un1_p33

@[reducible] noncomputable def un1_p35 : Code := sB un1_p34

def un1_19 (Q : QT) (E : ET) (x0 : OA) (x8 : Int) (x106 : Bool) (H : Heap) : Prop :=
 sel x106
 (ptr x0 fun q188 =>
 ldI .i64 (Addr.add q188 1) H fun n189 =>
 ptr x0 fun q190 =>
 wr (Addr.add q190 1) [(.int .i64 (IntKind.wrap .i64 (n189 + 1)))] H fun H191 =>
 un1_17 Q E x0 x8 H191)
 (Does Pr 103 #[(.pointer x0), (.int .i64 83)] H (fun v192 H193 =>
 ∃ n194 : Int, v192 = (.int .i64 n194) ∧ un1_17 Q E x0 x8 H193) E)

def un1_19_M (Q : QT) (E : ET) (τ : Tau) (H : Heap) : Prop := mP (τ 0) fun x0 => mI .i64 (τ 8) fun x8 => mB (τ 106) fun x106 => un1_19 Q E x0 x8 x106 H

theorem un1_20ok (Q : QT) (E : ET) (τ : Tau) (H : Heap) (h : un1_19_M Q E τ H) : vc Pr un1_p35 τ (un1_q4 Q E) E H :=
  vP (i := 0) h (fun x0 h => vI (i := 8) h (fun x8 h => vB (i := 106) h (fun x106 h => (conv (by kernel_rfl) h))))

@[reducible] noncomputable def un1_q5 (Q : QT) (E : ET) : Exit → Tau → Heap → Prop := (xthen (un1_19_M Q E) (un1_q4 Q E))

@[reducible] noncomputable def un1_p36 : Code := sA un1_p34

def un1_21 (Q : QT) (E : ET) (x0 : OA) (x8 : Int) (x9 : Int) (x10 : Bool) (H : Heap) : Prop :=
 sel x10
 (un1_19 Q E x0 x8 ((x9 : Int) == 41) H)
 (un1_19 Q E x0 x8 false H)

def un1_21_M (Q : QT) (E : ET) (τ : Tau) (H : Heap) : Prop := mP (τ 0) fun x0 => mI .i64 (τ 8) fun x8 => mI .u8 (τ 9) fun x9 => mB (τ 10) fun x10 => un1_21 Q E x0 x8 x9 x10 H

theorem un1_22ok (Q : QT) (E : ET) (τ : Tau) (H : Heap) (h : un1_21_M Q E τ H) : vc Pr un1_p36 τ (un1_q5 Q E) E H :=
  vP (i := 0) h (fun x0 h => vI (i := 8) h (fun x8 h => vI (i := 9) h (fun x9 h => vB (i := 10) h (fun x10 h => (conv (by kernel_rfl) h)))))

theorem un1_23ok (Q : QT) (E : ET) (τ : Tau) (H : Heap) (h : un1_21_M Q E τ H) : vc Pr un1_p34 τ (un1_q4 Q E) E H :=
  (conv (B := vc Pr un1_p34 τ (un1_q4 Q E) E H) (by kernel_rfl) (vc_seq (K := (un1_19_M Q E)) (un1_22ok Q E τ H h) (un1_20ok Q E)))

@[reducible] noncomputable def un1_q6 (Q : QT) (E : ET) : Exit → Tau → Heap → Prop := (xthen (un1_21_M Q E) (un1_q4 Q E))

@[reducible] noncomputable def un1_p37 : Code := sA un1_p33

def un1_24 (Q : QT) (E : ET) (x0 : OA) (x8 : Int) (H : Heap) : Prop :=
 Does Pr 94 #[(.pointer x0)] H (fun v195 H196 =>
 ∃ n197 : Int, ∃ b198 : Bool, v195 = (.tuple #[(.int .u8 n197), (.bool b198)]) ∧ un1_21 Q E x0 x8 n197 b198 H196) E

def un1_24_M (Q : QT) (E : ET) (τ : Tau) (H : Heap) : Prop := mP (τ 0) fun x0 => mI .i64 (τ 8) fun x8 => un1_24 Q E x0 x8 H

theorem un1_25ok (Q : QT) (E : ET) (τ : Tau) (H : Heap) (h : un1_24_M Q E τ H) : vc Pr un1_p37 τ (un1_q6 Q E) E H :=
  vP (i := 0) h (fun x0 h => vI (i := 8) h (fun x8 h => (conv (by kernel_rfl) h)))

theorem un1_26ok (Q : QT) (E : ET) (τ : Tau) (H : Heap) (h : un1_24_M Q E τ H) : vc Pr un1_p33 τ (un1_q4 Q E) E H :=
  (conv (B := vc Pr un1_p33 τ (un1_q4 Q E) E H) (by kernel_rfl) (vc_seq (K := (un1_21_M Q E)) (un1_25ok Q E τ H h) (un1_23ok Q E)))

theorem un1_27ok (Q : QT) (E : ET) (τ : Tau) (H : Heap) (h : un1_24_M Q E τ H) : vc Pr un1_p31 τ (un1_q3 Q E) E H :=
  (conv (B := vc Pr un1_p31 τ (un1_q3 Q E) E H) (by kernel_rfl) (vc_seq (K := (un1_17_M Q E)) (un1_26ok Q E τ H h) (un1_18ok Q E)))

@[reducible] noncomputable def un1_q7 (Q : QT) (E : ET) : Exit → Tau → Heap → Prop := (xthen (un1_24_M Q E) (un1_q3 Q E))

@[reducible] noncomputable def un1_p38 : Code := sA un1_p30

def un1_28 (Q : QT) (E : ET) (x0 : OA) (H : Heap) : Prop :=
 Does Pr 60 #[(.pointer x0)] H (fun v199 H200 =>
 ∃ n201 : Int, v199 = (.int .i64 n201) ∧ un1_24 Q E x0 n201 H200) E

def un1_28_M (Q : QT) (E : ET) (τ : Tau) (H : Heap) : Prop := mP (τ 0) fun x0 => un1_28 Q E x0 H

theorem un1_29ok (Q : QT) (E : ET) (τ : Tau) (H : Heap) (h : un1_28_M Q E τ H) : vc Pr un1_p38 τ (un1_q7 Q E) E H :=
  vP (i := 0) h (fun x0 h => (conv (by kernel_rfl) h))

theorem un1_30ok (Q : QT) (E : ET) (τ : Tau) (H : Heap) (h : un1_28_M Q E τ H) : vc Pr un1_p30 τ (un1_q3 Q E) E H :=
  (conv (B := vc Pr un1_p30 τ (un1_q3 Q E) E H) (by kernel_rfl) (vc_seq (K := (un1_24_M Q E)) (un1_29ok Q E τ H h) (un1_27ok Q E)))

@[reducible] noncomputable def un1_q8 (Q : QT) (E : ET) : Exit → Tau → Heap → Prop := (xthen (un1_28_M Q E) (un1_q3 Q E))

@[reducible] noncomputable def un1_p39 : Code := sA un1_p29

def un1_31 (Q : QT) (E : ET) (x0 : OA) (H : Heap) : Prop :=
 ptr x0 fun q202 =>
 ldI .i64 (Addr.add q202 2) H fun n203 =>
 ptr x0 fun q204 =>
 wr (Addr.add q204 2) [(.int .i64 (IntKind.wrap .i64 (n203 + 1)))] H fun H205 =>
 ptr x0 fun q206 =>
 ldI .i64 (Addr.add q206 2) H205 fun n207 =>
 sel (decide ((n207 : Int) > 24))
 (Does Pr 103 #[(.pointer x0), (.int .i64 84)] H205 (fun v208 H209 =>
 ∃ n210 : Int, v208 = (.int .i64 n210) ∧ Q (.int .i64 0) H209) E)
 (un1_28 Q E x0 H205)

def un1_31_M (Q : QT) (E : ET) (τ : Tau) (H : Heap) : Prop := mP (τ 0) fun x0 => un1_31 Q E x0 H

theorem un1_32ok (Q : QT) (E : ET) (τ : Tau) (H : Heap) (h : un1_31_M Q E τ H) : vc Pr un1_p39 τ (un1_q8 Q E) E H :=
  vP (i := 0) h (fun x0 h => (conv (by kernel_rfl) h))

theorem un1_33ok (Q : QT) (E : ET) (τ : Tau) (H : Heap) (h : un1_31_M Q E τ H) : vc Pr un1_p29 τ (un1_q3 Q E) E H :=
  (conv (B := vc Pr un1_p29 τ (un1_q3 Q E) E H) (by kernel_rfl) (vc_seq (K := (un1_28_M Q E)) (un1_32ok Q E τ H h) (un1_30ok Q E)))

@[reducible] noncomputable def un1_p40 : Code := sE un1_p28

def un1_34 (Q : QT) (E : ET) (x0 : OA) (x1 : Int) (H : Heap) : Prop :=
 Does Pr 115 #[(.agg #[(.int .u64 0), (.int .u64 0), (.int .u64 0), (.int .u64 0)]), (.int .u8 x1), (.int .u8 x1)] H (fun v211 H212 =>
 ∃ n213 n214 n215 n216 : Int, v211 = (.agg #[(.int .u64 n213), (.int .u64 n214), (.int .u64 n215), (.int .u64 n216)]) ∧ Does Pr 95 #[(.pointer x0), (.agg #[(.int .i64 2), (.int .i64 0), (.int .i64 0), (.int .u64 n213), (.int .u64 n214), (.int .u64 n215), (.int .u64 n216)])] H212 (fun v217 H218 =>
 ∃ n219 : Int, v217 = (.int .i64 n219) ∧ Q (.int .i64 n219) H218) E) E

def un1_34_M (Q : QT) (E : ET) (τ : Tau) (H : Heap) : Prop := mP (τ 0) fun x0 => mI .u8 (τ 1) fun x1 => un1_34 Q E x0 x1 H

theorem un1_35ok (Q : QT) (E : ET) (τ : Tau) (H : Heap) (h : un1_34_M Q E τ H) : vc Pr un1_p40 τ (un1_q3 Q E) E H :=
  vP (i := 0) h (fun x0 h => vI (i := 1) h (fun x1 h => (conv (by kernel_rfl) h)))

def un1_36 (Q : QT) (E : ET) (x0 : OA) (x1 : Int) (x79 : Bool) (H : Heap) : Prop :=
 sel x79
 (un1_31 Q E x0 H)
 (un1_34 Q E x0 x1 H)

def un1_36_M (Q : QT) (E : ET) (τ : Tau) (H : Heap) : Prop := mP (τ 0) fun x0 => mI .u8 (τ 1) fun x1 => mB (τ 79) fun x79 => un1_36 Q E x0 x1 x79 H

theorem un1_37ok (Q : QT) (E : ET) (τ : Tau) (H : Heap) (h : un1_36_M Q E τ H) : vc Pr un1_p28 τ (un1_q3 Q E) E H :=
  vP (i := 0) h (fun x0 h => vI (i := 1) h (fun x1 h => vB (i := 79) h (fun x79 h => (conv (B := vc Pr un1_p28 (Tau.upd (Tau.upd (Tau.upd τ 0 (.pointer x0)) 1 (.int .u8 x1)) 79 (.bool x79)) (un1_q3 Q E) E H) (by kernel_rfl) (sel_map (un1_33ok Q E (Tau.upd (Tau.upd (Tau.upd τ 0 (.pointer x0)) 1 (.int .u8 x1)) 79 (.bool x79)) H) (un1_35ok Q E (Tau.upd (Tau.upd (Tau.upd τ 0 (.pointer x0)) 1 (.int .u8 x1)) 79 (.bool x79)) H) (conv (B := sel x79 (un1_31_M Q E (Tau.upd (Tau.upd (Tau.upd τ 0 (.pointer x0)) 1 (.int .u8 x1)) 79 (.bool x79)) H) (un1_34_M Q E (Tau.upd (Tau.upd (Tau.upd τ 0 (.pointer x0)) 1 (.int .u8 x1)) 79 (.bool x79)) H)) (by kernel_rfl) h))))))

@[reducible] noncomputable def un1_q9 (Q : QT) (E : ET) : Exit → Tau → Heap → Prop := (xthen (un1_36_M Q E) (un1_q3 Q E))

@[reducible] noncomputable def un1_p41 : Code := sA un1_p27

def un1_38 (Q : QT) (E : ET) (x0 : OA) (x1 : Int) (x18 : Int) (H : Heap) : Prop :=
 un1_36 Q E x0 x1 ((x18 : Int) == 40) H

def un1_38_M (Q : QT) (E : ET) (τ : Tau) (H : Heap) : Prop := mP (τ 0) fun x0 => mI .u8 (τ 1) fun x1 => mI .u8 (τ 18) fun x18 => un1_38 Q E x0 x1 x18 H

theorem un1_39ok (Q : QT) (E : ET) (τ : Tau) (H : Heap) (h : un1_38_M Q E τ H) : vc Pr un1_p41 τ (un1_q9 Q E) E H :=
  vP (i := 0) h (fun x0 h => vI (i := 1) h (fun x1 h => vI (i := 18) h (fun x18 h => (conv (by kernel_rfl) h))))

theorem un1_40ok (Q : QT) (E : ET) (τ : Tau) (H : Heap) (h : un1_38_M Q E τ H) : vc Pr un1_p27 τ (un1_q3 Q E) E H :=
  (conv (B := vc Pr un1_p27 τ (un1_q3 Q E) E H) (by kernel_rfl) (vc_seq (K := (un1_36_M Q E)) (un1_39ok Q E τ H h) (un1_37ok Q E)))

def un1_41 (Q : QT) (E : ET) (x0 : OA) (x1 : Int) (x18 : Int) (x60 : Bool) (H : Heap) : Prop :=
 sel x60
 (un1_15 Q E x0 H)
 (un1_38 Q E x0 x1 x18 H)

def un1_41_M (Q : QT) (E : ET) (τ : Tau) (H : Heap) : Prop := mP (τ 0) fun x0 => mI .u8 (τ 1) fun x1 => mI .u8 (τ 18) fun x18 => mB (τ 60) fun x60 => un1_41 Q E x0 x1 x18 x60 H

theorem un1_42ok (Q : QT) (E : ET) (τ : Tau) (H : Heap) (h : un1_41_M Q E τ H) : vc Pr un1_p25 τ (un1_q3 Q E) E H :=
  vP (i := 0) h (fun x0 h => vI (i := 1) h (fun x1 h => vI (i := 18) h (fun x18 h => vB (i := 60) h (fun x60 h => (conv (B := vc Pr un1_p25 (Tau.upd (Tau.upd (Tau.upd (Tau.upd τ 0 (.pointer x0)) 1 (.int .u8 x1)) 18 (.int .u8 x18)) 60 (.bool x60)) (un1_q3 Q E) E H) (by kernel_rfl) (sel_map (un1_16ok Q E (Tau.upd (Tau.upd (Tau.upd (Tau.upd τ 0 (.pointer x0)) 1 (.int .u8 x1)) 18 (.int .u8 x18)) 60 (.bool x60)) H) (un1_40ok Q E (Tau.upd (Tau.upd (Tau.upd (Tau.upd τ 0 (.pointer x0)) 1 (.int .u8 x1)) 18 (.int .u8 x18)) 60 (.bool x60)) H) (conv (B := sel x60 (un1_15_M Q E (Tau.upd (Tau.upd (Tau.upd (Tau.upd τ 0 (.pointer x0)) 1 (.int .u8 x1)) 18 (.int .u8 x18)) 60 (.bool x60)) H) (un1_38_M Q E (Tau.upd (Tau.upd (Tau.upd (Tau.upd τ 0 (.pointer x0)) 1 (.int .u8 x1)) 18 (.int .u8 x18)) 60 (.bool x60)) H)) (by kernel_rfl) h)))))))

@[reducible] noncomputable def un1_q10 (Q : QT) (E : ET) : Exit → Tau → Heap → Prop := (xthen (un1_41_M Q E) (un1_q3 Q E))

@[reducible] noncomputable def un1_p42 : Code := sA un1_p24

def un1_43 (Q : QT) (E : ET) (x0 : OA) (x1 : Int) (x18 : Int) (H : Heap) : Prop :=
 un1_41 Q E x0 x1 x18 ((x18 : Int) == 92) H

def un1_43_M (Q : QT) (E : ET) (τ : Tau) (H : Heap) : Prop := mP (τ 0) fun x0 => mI .u8 (τ 1) fun x1 => mI .u8 (τ 18) fun x18 => un1_43 Q E x0 x1 x18 H

theorem un1_44ok (Q : QT) (E : ET) (τ : Tau) (H : Heap) (h : un1_43_M Q E τ H) : vc Pr un1_p42 τ (un1_q10 Q E) E H :=
  vP (i := 0) h (fun x0 h => vI (i := 1) h (fun x1 h => vI (i := 18) h (fun x18 h => (conv (by kernel_rfl) h))))

theorem un1_45ok (Q : QT) (E : ET) (τ : Tau) (H : Heap) (h : un1_43_M Q E τ H) : vc Pr un1_p24 τ (un1_q3 Q E) E H :=
  (conv (B := vc Pr un1_p24 τ (un1_q3 Q E) E H) (by kernel_rfl) (vc_seq (K := (un1_41_M Q E)) (un1_44ok Q E τ H h) (un1_42ok Q E)))

def un1_46 (Q : QT) (E : ET) (x0 : OA) (x1 : Int) (x18 : Int) (x54 : Bool) (H : Heap) : Prop :=
 sel x54
 (un1_13 Q E x0 H)
 (un1_43 Q E x0 x1 x18 H)

def un1_46_M (Q : QT) (E : ET) (τ : Tau) (H : Heap) : Prop := mP (τ 0) fun x0 => mI .u8 (τ 1) fun x1 => mI .u8 (τ 18) fun x18 => mB (τ 54) fun x54 => un1_46 Q E x0 x1 x18 x54 H

theorem un1_47ok (Q : QT) (E : ET) (τ : Tau) (H : Heap) (h : un1_46_M Q E τ H) : vc Pr un1_p22 τ (un1_q3 Q E) E H :=
  vP (i := 0) h (fun x0 h => vI (i := 1) h (fun x1 h => vI (i := 18) h (fun x18 h => vB (i := 54) h (fun x54 h => (conv (B := vc Pr un1_p22 (Tau.upd (Tau.upd (Tau.upd (Tau.upd τ 0 (.pointer x0)) 1 (.int .u8 x1)) 18 (.int .u8 x18)) 54 (.bool x54)) (un1_q3 Q E) E H) (by kernel_rfl) (sel_map (un1_14ok Q E (Tau.upd (Tau.upd (Tau.upd (Tau.upd τ 0 (.pointer x0)) 1 (.int .u8 x1)) 18 (.int .u8 x18)) 54 (.bool x54)) H) (un1_45ok Q E (Tau.upd (Tau.upd (Tau.upd (Tau.upd τ 0 (.pointer x0)) 1 (.int .u8 x1)) 18 (.int .u8 x18)) 54 (.bool x54)) H) (conv (B := sel x54 (un1_13_M Q E (Tau.upd (Tau.upd (Tau.upd (Tau.upd τ 0 (.pointer x0)) 1 (.int .u8 x1)) 18 (.int .u8 x18)) 54 (.bool x54)) H) (un1_43_M Q E (Tau.upd (Tau.upd (Tau.upd (Tau.upd τ 0 (.pointer x0)) 1 (.int .u8 x1)) 18 (.int .u8 x18)) 54 (.bool x54)) H)) (by kernel_rfl) h)))))))

@[reducible] noncomputable def un1_q11 (Q : QT) (E : ET) : Exit → Tau → Heap → Prop := (xthen (un1_46_M Q E) (un1_q3 Q E))

@[reducible] noncomputable def un1_p43 : Code := sA un1_p21

def un1_48 (Q : QT) (E : ET) (x0 : OA) (x1 : Int) (x18 : Int) (H : Heap) : Prop :=
 sel ((x18 : Int) == 42)
 (un1_46 Q E x0 x1 x18 ((x18 : Int) == 42) H)
 (sel ((x18 : Int) == 43)
 (un1_46 Q E x0 x1 x18 ((x18 : Int) == 43) H)
 (un1_46 Q E x0 x1 x18 ((x18 : Int) == 63) H))

def un1_48_M (Q : QT) (E : ET) (τ : Tau) (H : Heap) : Prop := mP (τ 0) fun x0 => mI .u8 (τ 1) fun x1 => mI .u8 (τ 18) fun x18 => un1_48 Q E x0 x1 x18 H

theorem un1_49ok (Q : QT) (E : ET) (τ : Tau) (H : Heap) (h : un1_48_M Q E τ H) : vc Pr un1_p43 τ (un1_q11 Q E) E H :=
  vP (i := 0) h (fun x0 h => vI (i := 1) h (fun x1 h => vI (i := 18) h (fun x18 h => (conv (by kernel_rfl) h))))

theorem un1_50ok (Q : QT) (E : ET) (τ : Tau) (H : Heap) (h : un1_48_M Q E τ H) : vc Pr un1_p21 τ (un1_q3 Q E) E H :=
  (conv (B := vc Pr un1_p21 τ (un1_q3 Q E) E H) (by kernel_rfl) (vc_seq (K := (un1_46_M Q E)) (un1_49ok Q E τ H h) (un1_47ok Q E)))

def un1_51 (Q : QT) (E : ET) (x0 : OA) (x1 : Int) (x18 : Int) (x50 : Bool) (H : Heap) : Prop :=
 sel x50
 (un1_11 Q E x0 H)
 (un1_48 Q E x0 x1 x18 H)

def un1_51_M (Q : QT) (E : ET) (τ : Tau) (H : Heap) : Prop := mP (τ 0) fun x0 => mI .u8 (τ 1) fun x1 => mI .u8 (τ 18) fun x18 => mB (τ 50) fun x50 => un1_51 Q E x0 x1 x18 x50 H

theorem un1_52ok (Q : QT) (E : ET) (τ : Tau) (H : Heap) (h : un1_51_M Q E τ H) : vc Pr un1_p19 τ (un1_q3 Q E) E H :=
  vP (i := 0) h (fun x0 h => vI (i := 1) h (fun x1 h => vI (i := 18) h (fun x18 h => vB (i := 50) h (fun x50 h => (conv (B := vc Pr un1_p19 (Tau.upd (Tau.upd (Tau.upd (Tau.upd τ 0 (.pointer x0)) 1 (.int .u8 x1)) 18 (.int .u8 x18)) 50 (.bool x50)) (un1_q3 Q E) E H) (by kernel_rfl) (sel_map (un1_12ok Q E (Tau.upd (Tau.upd (Tau.upd (Tau.upd τ 0 (.pointer x0)) 1 (.int .u8 x1)) 18 (.int .u8 x18)) 50 (.bool x50)) H) (un1_50ok Q E (Tau.upd (Tau.upd (Tau.upd (Tau.upd τ 0 (.pointer x0)) 1 (.int .u8 x1)) 18 (.int .u8 x18)) 50 (.bool x50)) H) (conv (B := sel x50 (un1_11_M Q E (Tau.upd (Tau.upd (Tau.upd (Tau.upd τ 0 (.pointer x0)) 1 (.int .u8 x1)) 18 (.int .u8 x18)) 50 (.bool x50)) H) (un1_48_M Q E (Tau.upd (Tau.upd (Tau.upd (Tau.upd τ 0 (.pointer x0)) 1 (.int .u8 x1)) 18 (.int .u8 x18)) 50 (.bool x50)) H)) (by kernel_rfl) h)))))))

@[reducible] noncomputable def un1_q12 (Q : QT) (E : ET) : Exit → Tau → Heap → Prop := (xthen (un1_51_M Q E) (un1_q3 Q E))

@[reducible] noncomputable def un1_p44 : Code := sA un1_p18

def un1_53 (Q : QT) (E : ET) (x0 : OA) (x1 : Int) (x18 : Int) (H : Heap) : Prop :=
 un1_51 Q E x0 x1 x18 ((x18 : Int) == 93) H

def un1_53_M (Q : QT) (E : ET) (τ : Tau) (H : Heap) : Prop := mP (τ 0) fun x0 => mI .u8 (τ 1) fun x1 => mI .u8 (τ 18) fun x18 => un1_53 Q E x0 x1 x18 H

theorem un1_54ok (Q : QT) (E : ET) (τ : Tau) (H : Heap) (h : un1_53_M Q E τ H) : vc Pr un1_p44 τ (un1_q12 Q E) E H :=
  vP (i := 0) h (fun x0 h => vI (i := 1) h (fun x1 h => vI (i := 18) h (fun x18 h => (conv (by kernel_rfl) h))))

theorem un1_55ok (Q : QT) (E : ET) (τ : Tau) (H : Heap) (h : un1_53_M Q E τ H) : vc Pr un1_p18 τ (un1_q3 Q E) E H :=
  (conv (B := vc Pr un1_p18 τ (un1_q3 Q E) E H) (by kernel_rfl) (vc_seq (K := (un1_51_M Q E)) (un1_54ok Q E τ H h) (un1_52ok Q E)))

def un1_56 (Q : QT) (E : ET) (x0 : OA) (x1 : Int) (x18 : Int) (x43 : Bool) (H : Heap) : Prop :=
 sel x43
 (un1_9 Q E x0 H)
 (un1_53 Q E x0 x1 x18 H)

def un1_56_M (Q : QT) (E : ET) (τ : Tau) (H : Heap) : Prop := mP (τ 0) fun x0 => mI .u8 (τ 1) fun x1 => mI .u8 (τ 18) fun x18 => mB (τ 43) fun x43 => un1_56 Q E x0 x1 x18 x43 H

theorem un1_57ok (Q : QT) (E : ET) (τ : Tau) (H : Heap) (h : un1_56_M Q E τ H) : vc Pr un1_p16 τ (un1_q3 Q E) E H :=
  vP (i := 0) h (fun x0 h => vI (i := 1) h (fun x1 h => vI (i := 18) h (fun x18 h => vB (i := 43) h (fun x43 h => (conv (B := vc Pr un1_p16 (Tau.upd (Tau.upd (Tau.upd (Tau.upd τ 0 (.pointer x0)) 1 (.int .u8 x1)) 18 (.int .u8 x18)) 43 (.bool x43)) (un1_q3 Q E) E H) (by kernel_rfl) (sel_map (un1_10ok Q E (Tau.upd (Tau.upd (Tau.upd (Tau.upd τ 0 (.pointer x0)) 1 (.int .u8 x1)) 18 (.int .u8 x18)) 43 (.bool x43)) H) (un1_55ok Q E (Tau.upd (Tau.upd (Tau.upd (Tau.upd τ 0 (.pointer x0)) 1 (.int .u8 x1)) 18 (.int .u8 x18)) 43 (.bool x43)) H) (conv (B := sel x43 (un1_9_M Q E (Tau.upd (Tau.upd (Tau.upd (Tau.upd τ 0 (.pointer x0)) 1 (.int .u8 x1)) 18 (.int .u8 x18)) 43 (.bool x43)) H) (un1_53_M Q E (Tau.upd (Tau.upd (Tau.upd (Tau.upd τ 0 (.pointer x0)) 1 (.int .u8 x1)) 18 (.int .u8 x18)) 43 (.bool x43)) H)) (by kernel_rfl) h)))))))

@[reducible] noncomputable def un1_q13 (Q : QT) (E : ET) : Exit → Tau → Heap → Prop := (xthen (un1_56_M Q E) (un1_q3 Q E))

@[reducible] noncomputable def un1_p45 : Code := sA un1_p15

def un1_58 (Q : QT) (E : ET) (x0 : OA) (x1 : Int) (x18 : Int) (H : Heap) : Prop :=
 un1_56 Q E x0 x1 x18 ((x18 : Int) == 91) H

def un1_58_M (Q : QT) (E : ET) (τ : Tau) (H : Heap) : Prop := mP (τ 0) fun x0 => mI .u8 (τ 1) fun x1 => mI .u8 (τ 18) fun x18 => un1_58 Q E x0 x1 x18 H

theorem un1_59ok (Q : QT) (E : ET) (τ : Tau) (H : Heap) (h : un1_58_M Q E τ H) : vc Pr un1_p45 τ (un1_q13 Q E) E H :=
  vP (i := 0) h (fun x0 h => vI (i := 1) h (fun x1 h => vI (i := 18) h (fun x18 h => (conv (by kernel_rfl) h))))

theorem un1_60ok (Q : QT) (E : ET) (τ : Tau) (H : Heap) (h : un1_58_M Q E τ H) : vc Pr un1_p15 τ (un1_q3 Q E) E H :=
  (conv (B := vc Pr un1_p15 τ (un1_q3 Q E) E H) (by kernel_rfl) (vc_seq (K := (un1_56_M Q E)) (un1_59ok Q E τ H h) (un1_57ok Q E)))

def un1_61 (Q : QT) (E : ET) (x0 : OA) (x1 : Int) (x18 : Int) (x38 : Bool) (H : Heap) : Prop :=
 sel x38
 (un1_7 Q E x0 H)
 (un1_58 Q E x0 x1 x18 H)

def un1_61_M (Q : QT) (E : ET) (τ : Tau) (H : Heap) : Prop := mP (τ 0) fun x0 => mI .u8 (τ 1) fun x1 => mI .u8 (τ 18) fun x18 => mB (τ 38) fun x38 => un1_61 Q E x0 x1 x18 x38 H

theorem un1_62ok (Q : QT) (E : ET) (τ : Tau) (H : Heap) (h : un1_61_M Q E τ H) : vc Pr un1_p13 τ (un1_q3 Q E) E H :=
  vP (i := 0) h (fun x0 h => vI (i := 1) h (fun x1 h => vI (i := 18) h (fun x18 h => vB (i := 38) h (fun x38 h => (conv (B := vc Pr un1_p13 (Tau.upd (Tau.upd (Tau.upd (Tau.upd τ 0 (.pointer x0)) 1 (.int .u8 x1)) 18 (.int .u8 x18)) 38 (.bool x38)) (un1_q3 Q E) E H) (by kernel_rfl) (sel_map (un1_8ok Q E (Tau.upd (Tau.upd (Tau.upd (Tau.upd τ 0 (.pointer x0)) 1 (.int .u8 x1)) 18 (.int .u8 x18)) 38 (.bool x38)) H) (un1_60ok Q E (Tau.upd (Tau.upd (Tau.upd (Tau.upd τ 0 (.pointer x0)) 1 (.int .u8 x1)) 18 (.int .u8 x18)) 38 (.bool x38)) H) (conv (B := sel x38 (un1_7_M Q E (Tau.upd (Tau.upd (Tau.upd (Tau.upd τ 0 (.pointer x0)) 1 (.int .u8 x1)) 18 (.int .u8 x18)) 38 (.bool x38)) H) (un1_58_M Q E (Tau.upd (Tau.upd (Tau.upd (Tau.upd τ 0 (.pointer x0)) 1 (.int .u8 x1)) 18 (.int .u8 x18)) 38 (.bool x38)) H)) (by kernel_rfl) h)))))))

@[reducible] noncomputable def un1_q14 (Q : QT) (E : ET) : Exit → Tau → Heap → Prop := (xthen (un1_61_M Q E) (un1_q3 Q E))

@[reducible] noncomputable def un1_p46 : Code := sA un1_p12

def un1_63 (Q : QT) (E : ET) (x0 : OA) (x1 : Int) (x18 : Int) (H : Heap) : Prop :=
 un1_61 Q E x0 x1 x18 ((x18 : Int) == 36) H

def un1_63_M (Q : QT) (E : ET) (τ : Tau) (H : Heap) : Prop := mP (τ 0) fun x0 => mI .u8 (τ 1) fun x1 => mI .u8 (τ 18) fun x18 => un1_63 Q E x0 x1 x18 H

theorem un1_64ok (Q : QT) (E : ET) (τ : Tau) (H : Heap) (h : un1_63_M Q E τ H) : vc Pr un1_p46 τ (un1_q14 Q E) E H :=
  vP (i := 0) h (fun x0 h => vI (i := 1) h (fun x1 h => vI (i := 18) h (fun x18 h => (conv (by kernel_rfl) h))))

theorem un1_65ok (Q : QT) (E : ET) (τ : Tau) (H : Heap) (h : un1_63_M Q E τ H) : vc Pr un1_p12 τ (un1_q3 Q E) E H :=
  (conv (B := vc Pr un1_p12 τ (un1_q3 Q E) E H) (by kernel_rfl) (vc_seq (K := (un1_61_M Q E)) (un1_64ok Q E τ H h) (un1_62ok Q E)))

def un1_66 (Q : QT) (E : ET) (x0 : OA) (x1 : Int) (x18 : Int) (x33 : Bool) (H : Heap) : Prop :=
 sel x33
 (un1_5 Q E x0 H)
 (un1_63 Q E x0 x1 x18 H)

def un1_66_M (Q : QT) (E : ET) (τ : Tau) (H : Heap) : Prop := mP (τ 0) fun x0 => mI .u8 (τ 1) fun x1 => mI .u8 (τ 18) fun x18 => mB (τ 33) fun x33 => un1_66 Q E x0 x1 x18 x33 H

theorem un1_67ok (Q : QT) (E : ET) (τ : Tau) (H : Heap) (h : un1_66_M Q E τ H) : vc Pr un1_p10 τ (un1_q3 Q E) E H :=
  vP (i := 0) h (fun x0 h => vI (i := 1) h (fun x1 h => vI (i := 18) h (fun x18 h => vB (i := 33) h (fun x33 h => (conv (B := vc Pr un1_p10 (Tau.upd (Tau.upd (Tau.upd (Tau.upd τ 0 (.pointer x0)) 1 (.int .u8 x1)) 18 (.int .u8 x18)) 33 (.bool x33)) (un1_q3 Q E) E H) (by kernel_rfl) (sel_map (un1_6ok Q E (Tau.upd (Tau.upd (Tau.upd (Tau.upd τ 0 (.pointer x0)) 1 (.int .u8 x1)) 18 (.int .u8 x18)) 33 (.bool x33)) H) (un1_65ok Q E (Tau.upd (Tau.upd (Tau.upd (Tau.upd τ 0 (.pointer x0)) 1 (.int .u8 x1)) 18 (.int .u8 x18)) 33 (.bool x33)) H) (conv (B := sel x33 (un1_5_M Q E (Tau.upd (Tau.upd (Tau.upd (Tau.upd τ 0 (.pointer x0)) 1 (.int .u8 x1)) 18 (.int .u8 x18)) 33 (.bool x33)) H) (un1_63_M Q E (Tau.upd (Tau.upd (Tau.upd (Tau.upd τ 0 (.pointer x0)) 1 (.int .u8 x1)) 18 (.int .u8 x18)) 33 (.bool x33)) H)) (by kernel_rfl) h)))))))

@[reducible] noncomputable def un1_q15 (Q : QT) (E : ET) : Exit → Tau → Heap → Prop := (xthen (un1_66_M Q E) (un1_q3 Q E))

@[reducible] noncomputable def un1_p47 : Code := sA un1_p9

def un1_68 (Q : QT) (E : ET) (x0 : OA) (x1 : Int) (x18 : Int) (H : Heap) : Prop :=
 un1_66 Q E x0 x1 x18 ((x18 : Int) == 94) H

def un1_68_M (Q : QT) (E : ET) (τ : Tau) (H : Heap) : Prop := mP (τ 0) fun x0 => mI .u8 (τ 1) fun x1 => mI .u8 (τ 18) fun x18 => un1_68 Q E x0 x1 x18 H

theorem un1_69ok (Q : QT) (E : ET) (τ : Tau) (H : Heap) (h : un1_68_M Q E τ H) : vc Pr un1_p47 τ (un1_q15 Q E) E H :=
  vP (i := 0) h (fun x0 h => vI (i := 1) h (fun x1 h => vI (i := 18) h (fun x18 h => (conv (by kernel_rfl) h))))

theorem un1_70ok (Q : QT) (E : ET) (τ : Tau) (H : Heap) (h : un1_68_M Q E τ H) : vc Pr un1_p9 τ (un1_q3 Q E) E H :=
  (conv (B := vc Pr un1_p9 τ (un1_q3 Q E) E H) (by kernel_rfl) (vc_seq (K := (un1_66_M Q E)) (un1_69ok Q E τ H h) (un1_67ok Q E)))

def un1_71 (Q : QT) (E : ET) (x0 : OA) (x1 : Int) (x18 : Int) (x26 : Bool) (H : Heap) : Prop :=
 sel x26
 (un1_3 Q E x0 H)
 (un1_68 Q E x0 x1 x18 H)

def un1_71_M (Q : QT) (E : ET) (τ : Tau) (H : Heap) : Prop := mP (τ 0) fun x0 => mI .u8 (τ 1) fun x1 => mI .u8 (τ 18) fun x18 => mB (τ 26) fun x26 => un1_71 Q E x0 x1 x18 x26 H

theorem un1_72ok (Q : QT) (E : ET) (τ : Tau) (H : Heap) (h : un1_71_M Q E τ H) : vc Pr un1_p7 τ (un1_q3 Q E) E H :=
  vP (i := 0) h (fun x0 h => vI (i := 1) h (fun x1 h => vI (i := 18) h (fun x18 h => vB (i := 26) h (fun x26 h => (conv (B := vc Pr un1_p7 (Tau.upd (Tau.upd (Tau.upd (Tau.upd τ 0 (.pointer x0)) 1 (.int .u8 x1)) 18 (.int .u8 x18)) 26 (.bool x26)) (un1_q3 Q E) E H) (by kernel_rfl) (sel_map (un1_4ok Q E (Tau.upd (Tau.upd (Tau.upd (Tau.upd τ 0 (.pointer x0)) 1 (.int .u8 x1)) 18 (.int .u8 x18)) 26 (.bool x26)) H) (un1_70ok Q E (Tau.upd (Tau.upd (Tau.upd (Tau.upd τ 0 (.pointer x0)) 1 (.int .u8 x1)) 18 (.int .u8 x18)) 26 (.bool x26)) H) (conv (B := sel x26 (un1_3_M Q E (Tau.upd (Tau.upd (Tau.upd (Tau.upd τ 0 (.pointer x0)) 1 (.int .u8 x1)) 18 (.int .u8 x18)) 26 (.bool x26)) H) (un1_68_M Q E (Tau.upd (Tau.upd (Tau.upd (Tau.upd τ 0 (.pointer x0)) 1 (.int .u8 x1)) 18 (.int .u8 x18)) 26 (.bool x26)) H)) (by kernel_rfl) h)))))))

@[reducible] noncomputable def un1_q16 (Q : QT) (E : ET) : Exit → Tau → Heap → Prop := (xthen (un1_71_M Q E) (un1_q3 Q E))

@[reducible] noncomputable def un1_p48 : Code := sA un1_p6

def un1_73 (Q : QT) (E : ET) (x0 : OA) (x1 : Int) (x18 : Int) (H : Heap) : Prop :=
 un1_71 Q E x0 x1 x18 ((x18 : Int) == 46) H

def un1_73_M (Q : QT) (E : ET) (τ : Tau) (H : Heap) : Prop := mP (τ 0) fun x0 => mI .u8 (τ 1) fun x1 => mI .u8 (τ 18) fun x18 => un1_73 Q E x0 x1 x18 H

theorem un1_74ok (Q : QT) (E : ET) (τ : Tau) (H : Heap) (h : un1_73_M Q E τ H) : vc Pr un1_p48 τ (un1_q16 Q E) E H :=
  vP (i := 0) h (fun x0 h => vI (i := 1) h (fun x1 h => vI (i := 18) h (fun x18 h => (conv (by kernel_rfl) h))))

theorem un1_75ok (Q : QT) (E : ET) (τ : Tau) (H : Heap) (h : un1_73_M Q E τ H) : vc Pr un1_p6 τ (un1_q3 Q E) E H :=
  (conv (B := vc Pr un1_p6 τ (un1_q3 Q E) E H) (by kernel_rfl) (vc_seq (K := (un1_71_M Q E)) (un1_74ok Q E τ H h) (un1_72ok Q E)))

theorem un1_76ok (Q : QT) (E : ET) (τ : Tau) (H : Heap) (h : un1_73_M Q E τ H) : vc Pr un1_p5 τ (un1_q2 Q E) E H :=
  (conv (B := vc Pr un1_p5 τ (un1_q2 Q E) E H) (by kernel_rfl) (un1_75ok Q E τ H h))

@[reducible] noncomputable def un1_q17 (Q : QT) (E : ET) : Exit → Tau → Heap → Prop := (xthen (un1_73_M Q E) (un1_q2 Q E))

@[reducible] noncomputable def un1_p49 : Code := sA un1_p4

def un1_77 (Q : QT) (E : ET) (x0 : OA) (x1 : Int) (H : Heap) : Prop :=
 un1_73 Q E x0 x1 x1 H

def un1_77_M (Q : QT) (E : ET) (τ : Tau) (H : Heap) : Prop := mP (τ 0) fun x0 => mI .u8 (τ 1) fun x1 => un1_77 Q E x0 x1 H

theorem un1_78ok (Q : QT) (E : ET) (τ : Tau) (H : Heap) (h : un1_77_M Q E τ H) : vc Pr un1_p49 τ (un1_q17 Q E) E H :=
  vP (i := 0) h (fun x0 h => vI (i := 1) h (fun x1 h => (conv (by kernel_rfl) h)))

theorem un1_79ok (Q : QT) (E : ET) (τ : Tau) (H : Heap) (h : un1_77_M Q E τ H) : vc Pr un1_p4 τ (un1_q2 Q E) E H :=
  (conv (B := vc Pr un1_p4 τ (un1_q2 Q E) E H) (by kernel_rfl) (vc_seq (K := (un1_73_M Q E)) (un1_78ok Q E τ H h) (un1_76ok Q E)))

theorem un1_80ok (Q : QT) (E : ET) (τ : Tau) (H : Heap) (h : un1_77_M Q E τ H) : vc Pr un1_p2 τ (un1_q1 Q E) E H :=
  (conv (B := vc Pr un1_p2 τ (un1_q1 Q E) E H) (by kernel_rfl) (vc_seq (K := (un1_1_M Q E)) (un1_79ok Q E τ H h) (un1_2ok Q E)))

@[reducible] noncomputable def un1_q18 (Q : QT) (E : ET) : Exit → Tau → Heap → Prop := (xthen (un1_77_M Q E) (un1_q1 Q E))

@[reducible] noncomputable def un1_p50 : Code := sA un1_p1

def un1_81 (Q : QT) (E : ET) (x0 : OA) (x1 : Int) (H : Heap) : Prop :=
 ptr x0 fun q220 =>
 ldI .i64 (Addr.add q220 1) H fun n221 =>
 ptr x0 fun q222 =>
 wr (Addr.add q222 1) [(.int .i64 (IntKind.wrap .i64 (n221 + 1)))] H fun H223 =>
 un1_77 Q E x0 x1 H223

def un1_81_M (Q : QT) (E : ET) (τ : Tau) (H : Heap) : Prop := mP (τ 0) fun x0 => mI .u8 (τ 1) fun x1 => un1_81 Q E x0 x1 H

theorem un1_82ok (Q : QT) (E : ET) (τ : Tau) (H : Heap) (h : un1_81_M Q E τ H) : vc Pr un1_p50 τ (un1_q18 Q E) E H :=
  vP (i := 0) h (fun x0 h => vI (i := 1) h (fun x1 h => (conv (by kernel_rfl) h)))

theorem un1_83ok (Q : QT) (E : ET) (τ : Tau) (H : Heap) (h : un1_81_M Q E τ H) : vc Pr un1_p1 τ (un1_q1 Q E) E H :=
  (conv (B := vc Pr un1_p1 τ (un1_q1 Q E) E H) (by kernel_rfl) (vc_seq (K := (un1_77_M Q E)) (un1_82ok Q E τ H h) (un1_80ok Q E)))

@[reducible] noncomputable def un1_q19 (Q : QT) (E : ET) : Exit → Tau → Heap → Prop := (xthen (un1_81_M Q E) (un1_q1 Q E))

@[reducible] noncomputable def un1_p51 : Code := sA un1_p0

def un1 (Q : QT) (E : ET) (a0 : OA) (a1 : Int) (H : Heap) : Prop :=
 un1_81 Q E a0 a1 H

theorem un1_fn (a0 : OA) (a1 : Int) (Q : QT) (E : ET) (H : Heap) (h : un1 Q E a0 a1 H)   : Does Pr 106 #[(.pointer a0), (.int .u8 a1)] H Q E :=
  Fn_of_vc (fn := Try.f106) (c := un1_p0) (args := [(.pointer a0), (.int .u8 a1)]) mixed (by kernel_rfl) (by kernel_rfl) (by kernel_rfl) (by kernel_rfl) (by kernel_rfl) ((conv (B := vc Pr un1_p0 (argT [(.pointer a0), (.int .u8 a1)]) (un1_q1 Q E) E H) (by kernel_rfl) (vc_seq (K := (un1_81_M Q E)) (conv (B := vc Pr un1_p51 (argT [(.pointer a0), (.int .u8 a1)]) (un1_q19 Q E) E H) (by kernel_rfl) h) (un1_83ok Q E))))

end Go.Proofs.Ytaffcoiomggpfaa
