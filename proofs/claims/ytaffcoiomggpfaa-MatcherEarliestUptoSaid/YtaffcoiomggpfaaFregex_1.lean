import Derived.Test.YtaffcoiomggpfaaVPr
/- Printed by gen.py: the Go functions of package regex over a heap view, and that the model does so. -/
namespace Go.Proofs.Ytaffcoiomggpfaa
open Go.V
set_option linter.unusedVariables false
set_option maxRecDepth 100000
/-! jobmux/regex.Parse -/
@[reducible] noncomputable def ut1_q1 (Q : QT) (E : ET) : Exit → Tau → Heap → Prop := (retQ Pr (Try.f28).results.toList Q)

@[reducible] noncomputable def ut1_p0 : Code := bodyOf Try.f28

@[reducible] noncomputable def ut1_p1 : Code := sB ut1_p0

@[reducible] noncomputable def ut1_p2 : Code := sB ut1_p1

@[reducible] noncomputable def ut1_p3 : Code := sB ut1_p2

@[reducible] noncomputable def ut1_p4 : Code := sB ut1_p3

@[reducible] noncomputable def ut1_p5 : Code := sB ut1_p4

def ut1_1 (Q : QT) (E : ET) (x4 : OA) (H : Heap) : Prop :=
 ptr x4 fun q11 =>
 ldSl (Addr.add q11 3) H fun p12 l13 c14 =>
 Q (.tuple #[(.slice p12 l13 c14), (.int .i64 0)]) H

def ut1_1_M (Q : QT) (E : ET) (τ : Tau) (H : Heap) : Prop := mP (τ 4) fun x4 => ut1_1 Q E x4 H

theorem ut1_2ok (Q : QT) (E : ET) (τ : Tau) (H : Heap) (h : ut1_1_M Q E τ H) : vc Pr ut1_p5 τ (ut1_q1 Q E) E H :=
  vP (i := 4) h (fun x4 h => (conv (by kernel_rfl) h))

@[reducible] noncomputable def ut1_q2 (Q : QT) (E : ET) : Exit → Tau → Heap → Prop := (xthen (ut1_1_M Q E) (ut1_q1 Q E))

@[reducible] noncomputable def ut1_p6 : Code := sA ut1_p4

def ut1_3 (Q : QT) (E : ET) (x4 : OA) (H : Heap) : Prop :=
 ptr x4 fun q15 =>
 ldI .i64 (Addr.add q15 4) H fun n16 =>
 sel ((n16 : Int) != 0)
 (ptr x4 fun q17 =>
 ldI .i64 (Addr.add q17 4) H fun n18 =>
 Q (.tuple #[(.slice none 0 0), (.int .i64 n18)]) H)
 (ptr x4 fun q19 =>
 ldSl (Addr.add q19 3) H fun p20 l21 c22 =>
 sel (decide ((((l21 : Nat) : Int) : Int) > 256))
 (Q (.tuple #[(.slice none 0 0), (.int .i64 1)]) H)
 (ut1_1 Q E x4 H))

def ut1_3_M (Q : QT) (E : ET) (τ : Tau) (H : Heap) : Prop := mP (τ 4) fun x4 => ut1_3 Q E x4 H

theorem ut1_4ok (Q : QT) (E : ET) (τ : Tau) (H : Heap) (h : ut1_3_M Q E τ H) : vc Pr ut1_p6 τ (ut1_q2 Q E) E H :=
  vP (i := 4) h (fun x4 h => (conv (by kernel_rfl) h))

theorem ut1_5ok (Q : QT) (E : ET) (τ : Tau) (H : Heap) (h : ut1_3_M Q E τ H) : vc Pr ut1_p4 τ (ut1_q1 Q E) E H :=
  (conv (B := vc Pr ut1_p4 τ (ut1_q1 Q E) E H) (by kernel_rfl) (vc_seq (K := (ut1_1_M Q E)) (ut1_4ok Q E τ H h) (ut1_2ok Q E)))

@[reducible] noncomputable def ut1_q3 (Q : QT) (E : ET) : Exit → Tau → Heap → Prop := (xthen (ut1_3_M Q E) (ut1_q1 Q E))

@[reducible] noncomputable def ut1_p7 : Code := sA ut1_p3

def ut1_6 (Q : QT) (E : ET) (x4 : OA) (H : Heap) : Prop :=
 Does Pr 60 #[(.pointer x4)] H (fun v23 H24 =>
 ∃ n25 : Int, v23 = (.int .i64 n25) ∧ ut1_3 Q E x4 H24) E

def ut1_6_M (Q : QT) (E : ET) (τ : Tau) (H : Heap) : Prop := mP (τ 4) fun x4 => ut1_6 Q E x4 H

theorem ut1_7ok (Q : QT) (E : ET) (τ : Tau) (H : Heap) (h : ut1_6_M Q E τ H) : vc Pr ut1_p7 τ (ut1_q3 Q E) E H :=
  vP (i := 4) h (fun x4 h => (conv (by kernel_rfl) h))

theorem ut1_8ok (Q : QT) (E : ET) (τ : Tau) (H : Heap) (h : ut1_6_M Q E τ H) : vc Pr ut1_p3 τ (ut1_q1 Q E) E H :=
  (conv (B := vc Pr ut1_p3 τ (ut1_q1 Q E) E H) (by kernel_rfl) (vc_seq (K := (ut1_3_M Q E)) (ut1_7ok Q E τ H h) (ut1_5ok Q E)))

@[reducible] noncomputable def ut1_q4 (Q : QT) (E : ET) : Exit → Tau → Heap → Prop := (xthen (ut1_6_M Q E) (ut1_q1 Q E))

@[reducible] noncomputable def ut1_p8 : Code := sA ut1_p2

def ut1_9 (Q : QT) (E : ET) (x0 : ByteArray) (H : Heap) : Prop :=
 nw (.cells #[(.string x0), (.int .i64 0), (.int .i64 0), (.slice none 0 0), (.int .i64 0)] 89 (0, 0)) H fun i26 H27 =>
 ut1_6 Q E (some ⟨i26, 0, none⟩) H27

def ut1_9_M (Q : QT) (E : ET) (τ : Tau) (H : Heap) : Prop := mS (τ 0) fun x0 => ut1_9 Q E x0 H

theorem ut1_10ok (Q : QT) (E : ET) (τ : Tau) (H : Heap) (h : ut1_9_M Q E τ H) : vc Pr ut1_p8 τ (ut1_q4 Q E) E H :=
  vS (i := 0) h (fun x0 h => (conv (by kernel_rfl) h))

theorem ut1_11ok (Q : QT) (E : ET) (τ : Tau) (H : Heap) (h : ut1_9_M Q E τ H) : vc Pr ut1_p2 τ (ut1_q1 Q E) E H :=
  (conv (B := vc Pr ut1_p2 τ (ut1_q1 Q E) E H) (by kernel_rfl) (vc_seq (K := (ut1_6_M Q E)) (ut1_10ok Q E τ H h) (ut1_8ok Q E)))

@[reducible] noncomputable def ut1_q5 (Q : QT) (E : ET) : Exit → Tau → Heap → Prop := (xthen (ut1_9_M Q E) (ut1_q1 Q E))

@[reducible] noncomputable def ut1_p9 : Code := sA ut1_p1

def ut1_12 (Q : QT) (E : ET) (x0 : ByteArray) (H : Heap) : Prop :=
 sel (decide ((((ByteArray.size x0 : Nat) : Int) : Int) > 128))
 (Q (.tuple #[(.slice none 0 0), (.int .i64 1)]) H)
 (ut1_9 Q E x0 H)

def ut1_12_M (Q : QT) (E : ET) (τ : Tau) (H : Heap) : Prop := mS (τ 0) fun x0 => ut1_12 Q E x0 H

theorem ut1_13ok (Q : QT) (E : ET) (τ : Tau) (H : Heap) (h : ut1_12_M Q E τ H) : vc Pr ut1_p9 τ (ut1_q5 Q E) E H :=
  vS (i := 0) h (fun x0 h => (conv (by kernel_rfl) h))

theorem ut1_14ok (Q : QT) (E : ET) (τ : Tau) (H : Heap) (h : ut1_12_M Q E τ H) : vc Pr ut1_p1 τ (ut1_q1 Q E) E H :=
  (conv (B := vc Pr ut1_p1 τ (ut1_q1 Q E) E H) (by kernel_rfl) (vc_seq (K := (ut1_9_M Q E)) (ut1_13ok Q E τ H h) (ut1_11ok Q E)))

@[reducible] noncomputable def ut1_q6 (Q : QT) (E : ET) : Exit → Tau → Heap → Prop := (xthen (ut1_12_M Q E) (ut1_q1 Q E))

@[reducible] noncomputable def ut1_p10 : Code := sA ut1_p0

def ut1 (Q : QT) (E : ET) (a0 : ByteArray) (H : Heap) : Prop :=
 ut1_12 Q E a0 H

theorem ut1_fn (a0 : ByteArray) (Q : QT) (E : ET) (H : Heap) (h : ut1 Q E a0 H)   : Does Pr 28 #[(.string a0)] H Q E :=
  Fn_of_vc (fn := Try.f28) (c := ut1_p0) (args := [(.string a0)]) mixed (by kernel_rfl) (by kernel_rfl) (by kernel_rfl) (by kernel_rfl) (by kernel_rfl) ((conv (B := vc Pr ut1_p0 (argT [(.string a0)]) (ut1_q1 Q E) E H) (by kernel_rfl) (vc_seq (K := (ut1_12_M Q E)) (conv (B := vc Pr ut1_p10 (argT [(.string a0)]) (ut1_q6 Q E) E H) (by kernel_rfl) h) (ut1_14ok Q E))))

/-! jobmux/regex.Valid -/
@[reducible] noncomputable def uu1_q1 (Q : QT) (E : ET) : Exit → Tau → Heap → Prop := (retQ Pr (Try.f40).results.toList Q)

@[reducible] noncomputable def uu1_p0 : Code := bodyOf Try.f40

@[reducible] noncomputable def uu1_p1 : Code := sB uu1_p0

@[reducible] noncomputable def uu1_p2 : Code := sB uu1_p1

@[reducible] noncomputable def uu1_p3 : Code := sB uu1_p2

@[reducible] noncomputable def uu1_p4 : Code := sB uu1_p3

def uu1_1 (Q : QT) (E : ET) (x0 : OA) (l0 : Nat) (c0 : Nat) (x3 : OA) (l3 : Nat) (c3 : Nat) (H : Heap) : Prop :=
 (0 ≤ ((IntKind.wrap .i64 (((l0 : Nat) : Int) - 1)) : Int) ∧ ((IntKind.wrap .i64 (((l0 : Nat) : Int) - 1)) : Int) < ((l3 : Nat) : Int)) ∧ ptr x3 fun q33 =>
 ldI .i64 (Addr.add q33 (((IntKind.wrap .i64 (((l0 : Nat) : Int) - 1)) : Int).toNat * 1)) H fun n34 =>
 Q (.bool ((n34 : Int) == ((l0 : Nat) : Int))) H

def uu1_1_M (Q : QT) (E : ET) (τ : Tau) (H : Heap) : Prop := mSl (τ 0) fun x0 l0 c0 => mSl (τ 3) fun x3 l3 c3 => uu1_1 Q E x0 l0 c0 x3 l3 c3 H

theorem uu1_2ok (Q : QT) (E : ET) (τ : Tau) (H : Heap) (h : uu1_1_M Q E τ H) : vc Pr uu1_p4 τ (uu1_q1 Q E) E H :=
  vSl (i := 0) h (fun x0 l0 c0 h => vSl (i := 3) h (fun x3 l3 c3 h => (conv (by kernel_rfl) h)))

@[reducible] noncomputable def uu1_q2 (Q : QT) (E : ET) : Exit → Tau → Heap → Prop := (xthen (uu1_1_M Q E) (uu1_q1 Q E))

@[reducible] noncomputable def uu1_p5 : Code := sA uu1_p3

@[reducible] noncomputable def uu1_p6 : Code := sB uu1_p5

@[reducible] noncomputable def uu1_q3 (Q : QT) (E : ET) : Exit → Tau → Heap → Prop := (xblock 0 (uu1_q2 Q E))

@[reducible] noncomputable def uu1_p7 : Code := sI uu1_p6

@[reducible] noncomputable def uu1_q4 (nx35 : Int → HP) (Q : QT) (E : ET) : Exit → Tau → Heap → Prop := (xthen (fun τ H => mI .i64 (τ 21) fun x21' => nx35 x21' H) (uu1_q3 Q E))

@[reducible] noncomputable def uu1_p8 : Code := sI uu1_p7

@[reducible] noncomputable def uu1_p9 : Code := sB uu1_p8

@[reducible] noncomputable def uu1_p10 : Code := sB uu1_p9

@[reducible] noncomputable def uu1_p11 : Code := sB uu1_p10

def uu1_3 (nx35 : Int → HP) (Q : QT) (E : ET) (x0 : OA) (l0 : Nat) (c0 : Nat) (x3 : OA) (l3 : Nat) (c3 : Nat) (x19 : OA) (l19 : Nat) (c19 : Nat) (x20 : Int) (x21 : Int) (H : Heap) : Prop :=
 nx35 (IntKind.wrap .i64 (x21 + 1)) H

def uu1_3_M (nx35 : Int → HP) (Q : QT) (E : ET) (τ : Tau) (H : Heap) : Prop := mSl (τ 0) fun x0 l0 c0 => mSl (τ 3) fun x3 l3 c3 => mSl (τ 19) fun x19 l19 c19 => mI .i64 (τ 20) fun x20 => mI .i64 (τ 21) fun x21 => uu1_3 nx35 Q E x0 l0 c0 x3 l3 c3 x19 l19 c19 x20 x21 H

theorem uu1_4ok (nx35 : Int → HP) (Q : QT) (E : ET) (τ : Tau) (H : Heap) (h : uu1_3_M nx35 Q E τ H) : vc Pr uu1_p11 τ (uu1_q4 nx35 Q E) E H :=
  vSl (i := 0) h (fun x0 l0 c0 h => vSl (i := 3) h (fun x3 l3 c3 h => vSl (i := 19) h (fun x19 l19 c19 h => vI (i := 20) h (fun x20 h => vI (i := 21) h (fun x21 h => (conv (by kernel_rfl) h))))))

@[reducible] noncomputable def uu1_q5 (nx35 : Int → HP) (Q : QT) (E : ET) : Exit → Tau → Heap → Prop := (xthen (uu1_3_M nx35 Q E) (uu1_q4 nx35 Q E))

@[reducible] noncomputable def uu1_p12 : Code := sA uu1_p10

@[reducible] noncomputable def uu1_q6 (nx35 : Int → HP) (Q : QT) (E : ET) : Exit → Tau → Heap → Prop := (xblock 1 (uu1_q5 nx35 Q E))

@[reducible] noncomputable def uu1_p13 : Code := sI uu1_p12

@[reducible] noncomputable def uu1_p14 : Code := sB uu1_p13

@[reducible] noncomputable def uu1_p15 : Code := sB uu1_p14

@[reducible] noncomputable def uu1_p16 : Code := sB uu1_p15

@[reducible] noncomputable def uu1_p17 : Code := sB uu1_p16

@[reducible] noncomputable def uu1_p18 : Code := sB uu1_p17

@[reducible] noncomputable def uu1_p19 : Code := sB uu1_p18

def uu1_5 (nx35 : Int → HP) (Q : QT) (E : ET) (x0 : OA) (l0 : Nat) (c0 : Nat) (x3 : OA) (l3 : Nat) (c3 : Nat) (x19 : OA) (l19 : Nat) (c19 : Nat) (x20 : Int) (x21 : Int) (x88 : Bool) (H : Heap) : Prop :=
 sel x88
 (Q (.bool false) H)
 (uu1_3 nx35 Q E x0 l0 c0 x3 l3 c3 x19 l19 c19 x20 x21 H)

def uu1_5_M (nx35 : Int → HP) (Q : QT) (E : ET) (τ : Tau) (H : Heap) : Prop := mSl (τ 0) fun x0 l0 c0 => mSl (τ 3) fun x3 l3 c3 => mSl (τ 19) fun x19 l19 c19 => mI .i64 (τ 20) fun x20 => mI .i64 (τ 21) fun x21 => mB (τ 88) fun x88 => uu1_5 nx35 Q E x0 l0 c0 x3 l3 c3 x19 l19 c19 x20 x21 x88 H

theorem uu1_6ok (nx35 : Int → HP) (Q : QT) (E : ET) (τ : Tau) (H : Heap) (h : uu1_5_M nx35 Q E τ H) : vc Pr uu1_p19 τ (uu1_q6 nx35 Q E) E H :=
  vSl (i := 0) h (fun x0 l0 c0 h => vSl (i := 3) h (fun x3 l3 c3 h => vSl (i := 19) h (fun x19 l19 c19 h => vI (i := 20) h (fun x20 h => vI (i := 21) h (fun x21 h => vB (i := 88) h (fun x88 h => (conv (by kernel_rfl) h)))))))

@[reducible] noncomputable def uu1_q7 (nx35 : Int → HP) (Q : QT) (E : ET) : Exit → Tau → Heap → Prop := (xthen (uu1_5_M nx35 Q E) (uu1_q6 nx35 Q E))

@[reducible] noncomputable def uu1_p20 : Code := sA uu1_p18

def uu1_7 (nx35 : Int → HP) (Q : QT) (E : ET) (x0 : OA) (l0 : Nat) (c0 : Nat) (x3 : OA) (l3 : Nat) (c3 : Nat) (x5 : OA) (x6 : Int) (x7 : Int) (x19 : OA) (l19 : Nat) (c19 : Nat) (x20 : Int) (x21 : Int) (H : Heap) : Prop :=
 ptr x5 fun q112 =>
 ldI .i64 (Addr.add q112 1) H fun n113 =>
 sel ((n113 : Int) != x6)
 (uu1_5 nx35 Q E x0 l0 c0 x3 l3 c3 x19 l19 c19 x20 x21 true H)
 (ptr x5 fun q114 =>
 ldI .i64 (Addr.add q114 2) H fun n115 =>
 uu1_5 nx35 Q E x0 l0 c0 x3 l3 c3 x19 l19 c19 x20 x21 ((n115 : Int) != x7) H)

def uu1_7_M (nx35 : Int → HP) (Q : QT) (E : ET) (τ : Tau) (H : Heap) : Prop := mSl (τ 0) fun x0 l0 c0 => mSl (τ 3) fun x3 l3 c3 => mP (τ 5) fun x5 => mI .i64 (τ 6) fun x6 => mI .i64 (τ 7) fun x7 => mSl (τ 19) fun x19 l19 c19 => mI .i64 (τ 20) fun x20 => mI .i64 (τ 21) fun x21 => uu1_7 nx35 Q E x0 l0 c0 x3 l3 c3 x5 x6 x7 x19 l19 c19 x20 x21 H

theorem uu1_8ok (nx35 : Int → HP) (Q : QT) (E : ET) (τ : Tau) (H : Heap) (h : uu1_7_M nx35 Q E τ H) : vc Pr uu1_p20 τ (uu1_q7 nx35 Q E) E H :=
  vSl (i := 0) h (fun x0 l0 c0 h => vSl (i := 3) h (fun x3 l3 c3 h => vP (i := 5) h (fun x5 h => vI (i := 6) h (fun x6 h => vI (i := 7) h (fun x7 h => vSl (i := 19) h (fun x19 l19 c19 h => vI (i := 20) h (fun x20 h => vI (i := 21) h (fun x21 h => (conv (by kernel_rfl) h)))))))))

theorem uu1_9ok (nx35 : Int → HP) (Q : QT) (E : ET) (τ : Tau) (H : Heap) (h : uu1_7_M nx35 Q E τ H) : vc Pr uu1_p18 τ (uu1_q6 nx35 Q E) E H :=
  (conv (B := vc Pr uu1_p18 τ (uu1_q6 nx35 Q E) E H) (by kernel_rfl) (vc_seq (K := (uu1_5_M nx35 Q E)) (uu1_8ok nx35 Q E τ H h) (uu1_6ok nx35 Q E)))

@[reducible] noncomputable def uu1_q8 (nx35 : Int → HP) (Q : QT) (E : ET) : Exit → Tau → Heap → Prop := (xthen (uu1_7_M nx35 Q E) (uu1_q6 nx35 Q E))

@[reducible] noncomputable def uu1_p21 : Code := sA uu1_p17

@[reducible] noncomputable def uu1_p22 : Code := sB uu1_p21

@[reducible] noncomputable def uu1_q9 (nx35 : Int → HP) (Q : QT) (E : ET) : Exit → Tau → Heap → Prop := (xblock 2 (uu1_q8 nx35 Q E))

@[reducible] noncomputable def uu1_p23 : Code := sI uu1_p22

@[reducible] noncomputable def uu1_p24 : Code := sB uu1_p23

def uu1_10 (nx35 : Int → HP) (Q : QT) (E : ET)  (H : Heap) : Prop :=
 Q (.bool false) H

def uu1_10_M (nx35 : Int → HP) (Q : QT) (E : ET) (τ : Tau) (H : Heap) : Prop := uu1_10 nx35 Q E  H

theorem uu1_11ok (nx35 : Int → HP) (Q : QT) (E : ET) (τ : Tau) (H : Heap) (h : uu1_10_M nx35 Q E τ H) : vc Pr uu1_p24 τ (uu1_q9 nx35 Q E) E H :=
  (conv (B := vc Pr uu1_p24 τ (uu1_q9 nx35 Q E) E H) (by kernel_rfl) h)

@[reducible] noncomputable def uu1_q10 (nx35 : Int → HP) (Q : QT) (E : ET) : Exit → Tau → Heap → Prop := (xthen (uu1_10_M nx35 Q E) (uu1_q9 nx35 Q E))

@[reducible] noncomputable def uu1_p25 : Code := sA uu1_p23

@[reducible] noncomputable def uu1_q11 (nx35 : Int → HP) (Q : QT) (E : ET) : Exit → Tau → Heap → Prop := (xblock 6 (uu1_q10 nx35 Q E))

@[reducible] noncomputable def uu1_p26 : Code := sI uu1_p25

@[reducible] noncomputable def uu1_p27 : Code := sB uu1_p26

@[reducible] noncomputable def uu1_q12 (nx35 : Int → HP) (Q : QT) (E : ET) : Exit → Tau → Heap → Prop := (xthen (fun τ H => vc Pr (sB uu1_p27) τ (uu1_q11 nx35 Q E) E H) (uu1_q11 nx35 Q E))

@[reducible] noncomputable def uu1_p28 : Code := sA uu1_p27

@[reducible] noncomputable def uu1_p29 : Code := sB uu1_p28

@[reducible] noncomputable def uu1_p30 : Code := sB uu1_p29

def uu1_12 (nx35 : Int → HP) (Q : QT) (E : ET) (x0 : OA) (l0 : Nat) (c0 : Nat) (x3 : OA) (l3 : Nat) (c3 : Nat) (x4 : Int) (x5 : OA) (x6 : Int) (x7 : Int) (x19 : OA) (l19 : Nat) (c19 : Nat) (x20 : Int) (x21 : Int) (H : Heap) : Prop :=
 (0 ≤ (x4 : Int) ∧ (x4 : Int) < ((l3 : Nat) : Int)) ∧ ptr x3 fun q150 =>
 ldI .i64 (Addr.add q150 ((x4 : Int).toNat * 1)) H fun n151 =>
 (0 ≤ (x6 : Int) ∧ (x6 : Int) < ((l3 : Nat) : Int)) ∧ ptr x3 fun q152 =>
 ldI .i64 (Addr.add q152 ((x6 : Int).toNat * 1)) H fun n153 =>
 (0 ≤ (x4 : Int) ∧ (x4 : Int) < ((l3 : Nat) : Int)) ∧ ptr x3 fun q154 =>
 wr (Addr.add q154 ((x4 : Int).toNat * 1)) [(.int .i64 (IntKind.wrap .i64 (n151 + n153)))] H fun H155 =>
 uu1_7 nx35 Q E x0 l0 c0 x3 l3 c3 x5 x6 x7 x19 l19 c19 x20 x21 H155

def uu1_12_M (nx35 : Int → HP) (Q : QT) (E : ET) (τ : Tau) (H : Heap) : Prop := mSl (τ 0) fun x0 l0 c0 => mSl (τ 3) fun x3 l3 c3 => mI .i64 (τ 4) fun x4 => mP (τ 5) fun x5 => mI .i64 (τ 6) fun x6 => mI .i64 (τ 7) fun x7 => mSl (τ 19) fun x19 l19 c19 => mI .i64 (τ 20) fun x20 => mI .i64 (τ 21) fun x21 => uu1_12 nx35 Q E x0 l0 c0 x3 l3 c3 x4 x5 x6 x7 x19 l19 c19 x20 x21 H

theorem uu1_13ok (nx35 : Int → HP) (Q : QT) (E : ET) (τ : Tau) (H : Heap) (h : uu1_12_M nx35 Q E τ H) : vc Pr uu1_p30 τ (uu1_q12 nx35 Q E) E H :=
  vSl (i := 0) h (fun x0 l0 c0 h => vSl (i := 3) h (fun x3 l3 c3 h => vI (i := 4) h (fun x4 h => vP (i := 5) h (fun x5 h => vI (i := 6) h (fun x6 h => vI (i := 7) h (fun x7 h => vSl (i := 19) h (fun x19 l19 c19 h => vI (i := 20) h (fun x20 h => vI (i := 21) h (fun x21 h => (conv (by kernel_rfl) h))))))))))

@[reducible] noncomputable def uu1_q13 (nx35 : Int → HP) (Q : QT) (E : ET) : Exit → Tau → Heap → Prop := (xthen (uu1_12_M nx35 Q E) (uu1_q12 nx35 Q E))

@[reducible] noncomputable def uu1_p31 : Code := sA uu1_p29

def uu1_14 (nx35 : Int → HP) (Q : QT) (E : ET) (x0 : OA) (l0 : Nat) (c0 : Nat) (x3 : OA) (l3 : Nat) (c3 : Nat) (x4 : Int) (x5 : OA) (x6 : Int) (x7 : Int) (x19 : OA) (l19 : Nat) (c19 : Nat) (x20 : Int) (x21 : Int) (H : Heap) : Prop :=
 sel (decide ((x6 : Int) < 0))
 (Q (.bool false) H)
 (uu1_12 nx35 Q E x0 l0 c0 x3 l3 c3 x4 x5 x6 x7 x19 l19 c19 x20 x21 H)

def uu1_14_M (nx35 : Int → HP) (Q : QT) (E : ET) (τ : Tau) (H : Heap) : Prop := mSl (τ 0) fun x0 l0 c0 => mSl (τ 3) fun x3 l3 c3 => mI .i64 (τ 4) fun x4 => mP (τ 5) fun x5 => mI .i64 (τ 6) fun x6 => mI .i64 (τ 7) fun x7 => mSl (τ 19) fun x19 l19 c19 => mI .i64 (τ 20) fun x20 => mI .i64 (τ 21) fun x21 => uu1_14 nx35 Q E x0 l0 c0 x3 l3 c3 x4 x5 x6 x7 x19 l19 c19 x20 x21 H

theorem uu1_15ok (nx35 : Int → HP) (Q : QT) (E : ET) (τ : Tau) (H : Heap) (h : uu1_14_M nx35 Q E τ H) : vc Pr uu1_p31 τ (uu1_q13 nx35 Q E) E H :=
  vSl (i := 0) h (fun x0 l0 c0 h => vSl (i := 3) h (fun x3 l3 c3 h => vI (i := 4) h (fun x4 h => vP (i := 5) h (fun x5 h => vI (i := 6) h (fun x6 h => vI (i := 7) h (fun x7 h => vSl (i := 19) h (fun x19 l19 c19 h => vI (i := 20) h (fun x20 h => vI (i := 21) h (fun x21 h => (conv (by kernel_rfl) h))))))))))

theorem uu1_16ok (nx35 : Int → HP) (Q : QT) (E : ET) (τ : Tau) (H : Heap) (h : uu1_14_M nx35 Q E τ H) : vc Pr uu1_p29 τ (uu1_q12 nx35 Q E) E H :=
  (conv (B := vc Pr uu1_p29 τ (uu1_q12 nx35 Q E) E H) (by kernel_rfl) (vc_seq (K := (uu1_12_M nx35 Q E)) (uu1_15ok nx35 Q E τ H h) (uu1_13ok nx35 Q E)))

@[reducible] noncomputable def uu1_q14 (nx35 : Int → HP) (Q : QT) (E : ET) : Exit → Tau → Heap → Prop := (xthen (uu1_14_M nx35 Q E) (uu1_q12 nx35 Q E))

@[reducible] noncomputable def uu1_p32 : Code := sA uu1_p28

def uu1_17 (nx35 : Int → HP) (Q : QT) (E : ET) (x0 : OA) (l0 : Nat) (c0 : Nat) (x3 : OA) (l3 : Nat) (c3 : Nat) (x4 : Int) (x5 : OA) (x7 : Int) (x19 : OA) (l19 : Nat) (c19 : Nat) (x20 : Int) (x21 : Int) (H : Heap) : Prop :=
 (0 ≤ (x4 : Int) ∧ (x4 : Int) < ((l3 : Nat) : Int)) ∧ ptr x3 fun q156 =>
 ldI .i64 (Addr.add q156 ((x4 : Int).toNat * 1)) H fun n157 =>
 uu1_14 nx35 Q E x0 l0 c0 x3 l3 c3 x4 x5 (IntKind.wrap .i64 (x4 - n157)) x7 x19 l19 c19 x20 x21 H

def uu1_17_M (nx35 : Int → HP) (Q : QT) (E : ET) (τ : Tau) (H : Heap) : Prop := mSl (τ 0) fun x0 l0 c0 => mSl (τ 3) fun x3 l3 c3 => mI .i64 (τ 4) fun x4 => mP (τ 5) fun x5 => mI .i64 (τ 7) fun x7 => mSl (τ 19) fun x19 l19 c19 => mI .i64 (τ 20) fun x20 => mI .i64 (τ 21) fun x21 => uu1_17 nx35 Q E x0 l0 c0 x3 l3 c3 x4 x5 x7 x19 l19 c19 x20 x21 H

theorem uu1_18ok (nx35 : Int → HP) (Q : QT) (E : ET) (τ : Tau) (H : Heap) (h : uu1_17_M nx35 Q E τ H) : vc Pr uu1_p32 τ (uu1_q14 nx35 Q E) E H :=
  vSl (i := 0) h (fun x0 l0 c0 h => vSl (i := 3) h (fun x3 l3 c3 h => vI (i := 4) h (fun x4 h => vP (i := 5) h (fun x5 h => vI (i := 7) h (fun x7 h => vSl (i := 19) h (fun x19 l19 c19 h => vI (i := 20) h (fun x20 h => vI (i := 21) h (fun x21 h => (conv (by kernel_rfl) h)))))))))

theorem uu1_19ok (nx35 : Int → HP) (Q : QT) (E : ET) (τ : Tau) (H : Heap) (h : uu1_17_M nx35 Q E τ H) : vc Pr uu1_p28 τ (uu1_q12 nx35 Q E) E H :=
  (conv (B := vc Pr uu1_p28 τ (uu1_q12 nx35 Q E) E H) (by kernel_rfl) (vc_seq (K := (uu1_14_M nx35 Q E)) (uu1_18ok nx35 Q E τ H h) (uu1_16ok nx35 Q E)))

theorem uu1_20ok (nx35 : Int → HP) (Q : QT) (E : ET) (τ : Tau) (H : Heap) (h : uu1_17_M nx35 Q E τ H) : vc Pr uu1_p27 τ (uu1_q11 nx35 Q E) E H :=
  (conv (B := vc Pr uu1_p27 τ (uu1_q11 nx35 Q E) E H) (by kernel_rfl) (uu1_19ok nx35 Q E τ H h))

@[reducible] noncomputable def uu1_q15 (nx35 : Int → HP) (Q : QT) (E : ET) : Exit → Tau → Heap → Prop := (xthen (uu1_17_M nx35 Q E) (uu1_q11 nx35 Q E))

@[reducible] noncomputable def uu1_p33 : Code := sA uu1_p26

@[reducible] noncomputable def uu1_q16 (nx35 : Int → HP) (Q : QT) (E : ET) : Exit → Tau → Heap → Prop := (xblock 5 (uu1_q15 nx35 Q E))

@[reducible] noncomputable def uu1_p34 : Code := sI uu1_p33

@[reducible] noncomputable def uu1_p35 : Code := sB uu1_p34

@[reducible] noncomputable def uu1_p36 : Code := sB uu1_p35

@[reducible] noncomputable def uu1_p37 : Code := sB uu1_p36

def uu1_21 (nx35 : Int → HP) (Q : QT) (E : ET) (x0 : OA) (l0 : Nat) (c0 : Nat) (x3 : OA) (l3 : Nat) (c3 : Nat) (x4 : Int) (x5 : OA) (x7 : Int) (x19 : OA) (l19 : Nat) (c19 : Nat) (x20 : Int) (x21 : Int) (H : Heap) : Prop :=
 (0 ≤ (x4 : Int) ∧ (x4 : Int) < ((l3 : Nat) : Int)) ∧ ptr x3 fun q158 =>
 ldI .i64 (Addr.add q158 ((x4 : Int).toNat * 1)) H fun n159 =>
 (0 ≤ (x7 : Int) ∧ (x7 : Int) < ((l3 : Nat) : Int)) ∧ ptr x3 fun q160 =>
 ldI .i64 (Addr.add q160 ((x7 : Int).toNat * 1)) H fun n161 =>
 (0 ≤ (x4 : Int) ∧ (x4 : Int) < ((l3 : Nat) : Int)) ∧ ptr x3 fun q162 =>
 wr (Addr.add q162 ((x4 : Int).toNat * 1)) [(.int .i64 (IntKind.wrap .i64 (n159 + n161)))] H fun H163 =>
 uu1_17 nx35 Q E x0 l0 c0 x3 l3 c3 x4 x5 x7 x19 l19 c19 x20 x21 H163

def uu1_21_M (nx35 : Int → HP) (Q : QT) (E : ET) (τ : Tau) (H : Heap) : Prop := mSl (τ 0) fun x0 l0 c0 => mSl (τ 3) fun x3 l3 c3 => mI .i64 (τ 4) fun x4 => mP (τ 5) fun x5 => mI .i64 (τ 7) fun x7 => mSl (τ 19) fun x19 l19 c19 => mI .i64 (τ 20) fun x20 => mI .i64 (τ 21) fun x21 => uu1_21 nx35 Q E x0 l0 c0 x3 l3 c3 x4 x5 x7 x19 l19 c19 x20 x21 H

theorem uu1_22ok (nx35 : Int → HP) (Q : QT) (E : ET) (τ : Tau) (H : Heap) (h : uu1_21_M nx35 Q E τ H) : vc Pr uu1_p37 τ (uu1_q16 nx35 Q E) E H :=
  vSl (i := 0) h (fun x0 l0 c0 h => vSl (i := 3) h (fun x3 l3 c3 h => vI (i := 4) h (fun x4 h => vP (i := 5) h (fun x5 h => vI (i := 7) h (fun x7 h => vSl (i := 19) h (fun x19 l19 c19 h => vI (i := 20) h (fun x20 h => vI (i := 21) h (fun x21 h => (conv (by kernel_rfl) h)))))))))

@[reducible] noncomputable def uu1_q17 (nx35 : Int → HP) (Q : QT) (E : ET) : Exit → Tau → Heap → Prop := (xthen (uu1_21_M nx35 Q E) (uu1_q16 nx35 Q E))

@[reducible] noncomputable def uu1_p38 : Code := sA uu1_p36

def uu1_23 (nx35 : Int → HP) (Q : QT) (E : ET) (x0 : OA) (l0 : Nat) (c0 : Nat) (x3 : OA) (l3 : Nat) (c3 : Nat) (x4 : Int) (x5 : OA) (x7 : Int) (x19 : OA) (l19 : Nat) (c19 : Nat) (x20 : Int) (x21 : Int) (H : Heap) : Prop :=
 sel (decide ((x7 : Int) < 0))
 (Q (.bool false) H)
 (uu1_21 nx35 Q E x0 l0 c0 x3 l3 c3 x4 x5 x7 x19 l19 c19 x20 x21 H)

def uu1_23_M (nx35 : Int → HP) (Q : QT) (E : ET) (τ : Tau) (H : Heap) : Prop := mSl (τ 0) fun x0 l0 c0 => mSl (τ 3) fun x3 l3 c3 => mI .i64 (τ 4) fun x4 => mP (τ 5) fun x5 => mI .i64 (τ 7) fun x7 => mSl (τ 19) fun x19 l19 c19 => mI .i64 (τ 20) fun x20 => mI .i64 (τ 21) fun x21 => uu1_23 nx35 Q E x0 l0 c0 x3 l3 c3 x4 x5 x7 x19 l19 c19 x20 x21 H

theorem uu1_24ok (nx35 : Int → HP) (Q : QT) (E : ET) (τ : Tau) (H : Heap) (h : uu1_23_M nx35 Q E τ H) : vc Pr uu1_p38 τ (uu1_q17 nx35 Q E) E H :=
  vSl (i := 0) h (fun x0 l0 c0 h => vSl (i := 3) h (fun x3 l3 c3 h => vI (i := 4) h (fun x4 h => vP (i := 5) h (fun x5 h => vI (i := 7) h (fun x7 h => vSl (i := 19) h (fun x19 l19 c19 h => vI (i := 20) h (fun x20 h => vI (i := 21) h (fun x21 h => (conv (by kernel_rfl) h)))))))))

theorem uu1_25ok (nx35 : Int → HP) (Q : QT) (E : ET) (τ : Tau) (H : Heap) (h : uu1_23_M nx35 Q E τ H) : vc Pr uu1_p36 τ (uu1_q16 nx35 Q E) E H :=
  (conv (B := vc Pr uu1_p36 τ (uu1_q16 nx35 Q E) E H) (by kernel_rfl) (vc_seq (K := (uu1_21_M nx35 Q E)) (uu1_24ok nx35 Q E τ H h) (uu1_22ok nx35 Q E)))

@[reducible] noncomputable def uu1_q18 (nx35 : Int → HP) (Q : QT) (E : ET) : Exit → Tau → Heap → Prop := (xthen (uu1_23_M nx35 Q E) (uu1_q16 nx35 Q E))

@[reducible] noncomputable def uu1_p39 : Code := sA uu1_p35

def uu1_26 (nx35 : Int → HP) (Q : QT) (E : ET) (x0 : OA) (l0 : Nat) (c0 : Nat) (x3 : OA) (l3 : Nat) (c3 : Nat) (x4 : Int) (x5 : OA) (x19 : OA) (l19 : Nat) (c19 : Nat) (x20 : Int) (x21 : Int) (H : Heap) : Prop :=
 uu1_23 nx35 Q E x0 l0 c0 x3 l3 c3 x4 x5 (IntKind.wrap .i64 (x4 - 1)) x19 l19 c19 x20 x21 H

def uu1_26_M (nx35 : Int → HP) (Q : QT) (E : ET) (τ : Tau) (H : Heap) : Prop := mSl (τ 0) fun x0 l0 c0 => mSl (τ 3) fun x3 l3 c3 => mI .i64 (τ 4) fun x4 => mP (τ 5) fun x5 => mSl (τ 19) fun x19 l19 c19 => mI .i64 (τ 20) fun x20 => mI .i64 (τ 21) fun x21 => uu1_26 nx35 Q E x0 l0 c0 x3 l3 c3 x4 x5 x19 l19 c19 x20 x21 H

theorem uu1_27ok (nx35 : Int → HP) (Q : QT) (E : ET) (τ : Tau) (H : Heap) (h : uu1_26_M nx35 Q E τ H) : vc Pr uu1_p39 τ (uu1_q18 nx35 Q E) E H :=
  vSl (i := 0) h (fun x0 l0 c0 h => vSl (i := 3) h (fun x3 l3 c3 h => vI (i := 4) h (fun x4 h => vP (i := 5) h (fun x5 h => vSl (i := 19) h (fun x19 l19 c19 h => vI (i := 20) h (fun x20 h => vI (i := 21) h (fun x21 h => (conv (by kernel_rfl) h))))))))

theorem uu1_28ok (nx35 : Int → HP) (Q : QT) (E : ET) (τ : Tau) (H : Heap) (h : uu1_26_M nx35 Q E τ H) : vc Pr uu1_p35 τ (uu1_q16 nx35 Q E) E H :=
  (conv (B := vc Pr uu1_p35 τ (uu1_q16 nx35 Q E) E H) (by kernel_rfl) (vc_seq (K := (uu1_23_M nx35 Q E)) (uu1_27ok nx35 Q E τ H h) (uu1_25ok nx35 Q E)))

@[reducible] noncomputable def uu1_q19 (nx35 : Int → HP) (Q : QT) (E : ET) : Exit → Tau → Heap → Prop := (xthen (uu1_26_M nx35 Q E) (uu1_q16 nx35 Q E))

@[reducible] noncomputable def uu1_p40 : Code := sA uu1_p34

@[reducible] noncomputable def uu1_q20 (nx35 : Int → HP) (Q : QT) (E : ET) : Exit → Tau → Heap → Prop := (xblock 4 (uu1_q19 nx35 Q E))

@[reducible] noncomputable def uu1_p41 : Code := sI uu1_p40

@[reducible] noncomputable def uu1_q21 (nx35 : Int → HP) (Q : QT) (E : ET) : Exit → Tau → Heap → Prop := (xthen (fun τ H => vc Pr (sB uu1_p41) τ (uu1_q20 nx35 Q E) E H) (uu1_q20 nx35 Q E))

@[reducible] noncomputable def uu1_p42 : Code := sA uu1_p41

@[reducible] noncomputable def uu1_q22 (nx35 : Int → HP) (Q : QT) (E : ET) : Exit → Tau → Heap → Prop := (xblock 3 (uu1_q21 nx35 Q E))

@[reducible] noncomputable def uu1_p43 : Code := sI uu1_p42

@[reducible] noncomputable def uu1_q23 (nx35 : Int → HP) (Q : QT) (E : ET) : Exit → Tau → Heap → Prop := (xthen (fun τ H => vc Pr (sB uu1_p43) τ (uu1_q22 nx35 Q E) E H) (uu1_q22 nx35 Q E))

@[reducible] noncomputable def uu1_p44 : Code := sA uu1_p43

@[reducible] noncomputable def uu1_p45 : Code := sB uu1_p44

@[reducible] noncomputable def uu1_p46 : Code := sB uu1_p45

def uu1_29 (nx35 : Int → HP) (Q : QT) (E : ET) (x0 : OA) (l0 : Nat) (c0 : Nat) (x3 : OA) (l3 : Nat) (c3 : Nat) (x4 : Int) (x5 : OA) (x7 : Int) (x19 : OA) (l19 : Nat) (c19 : Nat) (x20 : Int) (x21 : Int) (x40 : Int) (H : Heap) : Prop :=
 sel ((x40 : Int) == 1)
 (uu1_17 nx35 Q E x0 l0 c0 x3 l3 c3 x4 x5 x7 x19 l19 c19 x20 x21 H)
 (uu1_10 nx35 Q E  H)

def uu1_29_M (nx35 : Int → HP) (Q : QT) (E : ET) (τ : Tau) (H : Heap) : Prop := mSl (τ 0) fun x0 l0 c0 => mSl (τ 3) fun x3 l3 c3 => mI .i64 (τ 4) fun x4 => mP (τ 5) fun x5 => mI .i64 (τ 7) fun x7 => mSl (τ 19) fun x19 l19 c19 => mI .i64 (τ 20) fun x20 => mI .i64 (τ 21) fun x21 => mI .i64 (τ 40) fun x40 => uu1_29 nx35 Q E x0 l0 c0 x3 l3 c3 x4 x5 x7 x19 l19 c19 x20 x21 x40 H

theorem uu1_30ok (nx35 : Int → HP) (Q : QT) (E : ET) (τ : Tau) (H : Heap) (h : uu1_29_M nx35 Q E τ H) : vc Pr uu1_p46 τ (uu1_q23 nx35 Q E) E H :=
  vSl (i := 0) h (fun x0 l0 c0 h => vSl (i := 3) h (fun x3 l3 c3 h => vI (i := 4) h (fun x4 h => vP (i := 5) h (fun x5 h => vI (i := 7) h (fun x7 h => vSl (i := 19) h (fun x19 l19 c19 h => vI (i := 20) h (fun x20 h => vI (i := 21) h (fun x21 h => vI (i := 40) h (fun x40 h => (conv (by kernel_rfl) h))))))))))

@[reducible] noncomputable def uu1_q24 (nx35 : Int → HP) (Q : QT) (E : ET) : Exit → Tau → Heap → Prop := (xthen (uu1_29_M nx35 Q E) (uu1_q23 nx35 Q E))

@[reducible] noncomputable def uu1_p47 : Code := sA uu1_p45

def uu1_31 (nx35 : Int → HP) (Q : QT) (E : ET) (x0 : OA) (l0 : Nat) (c0 : Nat) (x3 : OA) (l3 : Nat) (c3 : Nat) (x4 : Int) (x5 : OA) (x7 : Int) (x19 : OA) (l19 : Nat) (c19 : Nat) (x20 : Int) (x21 : Int) (x40 : Int) (H : Heap) : Prop :=
 sel ((x40 : Int) == 2)
 (uu1_26 nx35 Q E x0 l0 c0 x3 l3 c3 x4 x5 x19 l19 c19 x20 x21 H)
 (uu1_29 nx35 Q E x0 l0 c0 x3 l3 c3 x4 x5 x7 x19 l19 c19 x20 x21 x40 H)

def uu1_31_M (nx35 : Int → HP) (Q : QT) (E : ET) (τ : Tau) (H : Heap) : Prop := mSl (τ 0) fun x0 l0 c0 => mSl (τ 3) fun x3 l3 c3 => mI .i64 (τ 4) fun x4 => mP (τ 5) fun x5 => mI .i64 (τ 7) fun x7 => mSl (τ 19) fun x19 l19 c19 => mI .i64 (τ 20) fun x20 => mI .i64 (τ 21) fun x21 => mI .i64 (τ 40) fun x40 => uu1_31 nx35 Q E x0 l0 c0 x3 l3 c3 x4 x5 x7 x19 l19 c19 x20 x21 x40 H

theorem uu1_32ok (nx35 : Int → HP) (Q : QT) (E : ET) (τ : Tau) (H : Heap) (h : uu1_31_M nx35 Q E τ H) : vc Pr uu1_p47 τ (uu1_q24 nx35 Q E) E H :=
  vSl (i := 0) h (fun x0 l0 c0 h => vSl (i := 3) h (fun x3 l3 c3 h => vI (i := 4) h (fun x4 h => vP (i := 5) h (fun x5 h => vI (i := 7) h (fun x7 h => vSl (i := 19) h (fun x19 l19 c19 h => vI (i := 20) h (fun x20 h => vI (i := 21) h (fun x21 h => vI (i := 40) h (fun x40 h => (conv (by kernel_rfl) h))))))))))

theorem uu1_33ok (nx35 : Int → HP) (Q : QT) (E : ET) (τ : Tau) (H : Heap) (h : uu1_31_M nx35 Q E τ H) : vc Pr uu1_p45 τ (uu1_q23 nx35 Q E) E H :=
  (conv (B := vc Pr uu1_p45 τ (uu1_q23 nx35 Q E) E H) (by kernel_rfl) (vc_seq (K := (uu1_29_M nx35 Q E)) (uu1_32ok nx35 Q E τ H h) (uu1_30ok nx35 Q E)))

@[reducible] noncomputable def uu1_q25 (nx35 : Int → HP) (Q : QT) (E : ET) : Exit → Tau → Heap → Prop := (xthen (uu1_31_M nx35 Q E) (uu1_q23 nx35 Q E))

@[reducible] noncomputable def uu1_p48 : Code := sA uu1_p44

def uu1_34 (nx35 : Int → HP) (Q : QT) (E : ET) (x0 : OA) (l0 : Nat) (c0 : Nat) (x3 : OA) (l3 : Nat) (c3 : Nat) (x4 : Int) (x5 : OA) (x6 : Int) (x7 : Int) (x19 : OA) (l19 : Nat) (c19 : Nat) (x20 : Int) (x21 : Int) (x40 : Int) (H : Heap) : Prop :=
 sel ((x40 : Int) == 0)
 (uu1_7 nx35 Q E x0 l0 c0 x3 l3 c3 x5 x6 x7 x19 l19 c19 x20 x21 H)
 (uu1_31 nx35 Q E x0 l0 c0 x3 l3 c3 x4 x5 x7 x19 l19 c19 x20 x21 x40 H)

def uu1_34_M (nx35 : Int → HP) (Q : QT) (E : ET) (τ : Tau) (H : Heap) : Prop := mSl (τ 0) fun x0 l0 c0 => mSl (τ 3) fun x3 l3 c3 => mI .i64 (τ 4) fun x4 => mP (τ 5) fun x5 => mI .i64 (τ 6) fun x6 => mI .i64 (τ 7) fun x7 => mSl (τ 19) fun x19 l19 c19 => mI .i64 (τ 20) fun x20 => mI .i64 (τ 21) fun x21 => mI .i64 (τ 40) fun x40 => uu1_34 nx35 Q E x0 l0 c0 x3 l3 c3 x4 x5 x6 x7 x19 l19 c19 x20 x21 x40 H

theorem uu1_35ok (nx35 : Int → HP) (Q : QT) (E : ET) (τ : Tau) (H : Heap) (h : uu1_34_M nx35 Q E τ H) : vc Pr uu1_p48 τ (uu1_q25 nx35 Q E) E H :=
  vSl (i := 0) h (fun x0 l0 c0 h => vSl (i := 3) h (fun x3 l3 c3 h => vI (i := 4) h (fun x4 h => vP (i := 5) h (fun x5 h => vI (i := 6) h (fun x6 h => vI (i := 7) h (fun x7 h => vSl (i := 19) h (fun x19 l19 c19 h => vI (i := 20) h (fun x20 h => vI (i := 21) h (fun x21 h => vI (i := 40) h (fun x40 h => (conv (by kernel_rfl) h)))))))))))

theorem uu1_36ok (nx35 : Int → HP) (Q : QT) (E : ET) (τ : Tau) (H : Heap) (h : uu1_34_M nx35 Q E τ H) : vc Pr uu1_p44 τ (uu1_q23 nx35 Q E) E H :=
  (conv (B := vc Pr uu1_p44 τ (uu1_q23 nx35 Q E) E H) (by kernel_rfl) (vc_seq (K := (uu1_31_M nx35 Q E)) (uu1_35ok nx35 Q E τ H h) (uu1_33ok nx35 Q E)))

theorem uu1_37ok (nx35 : Int → HP) (Q : QT) (E : ET) (τ : Tau) (H : Heap) (h : uu1_34_M nx35 Q E τ H) : vc Pr uu1_p43 τ (uu1_q22 nx35 Q E) E H :=
  (conv (B := vc Pr uu1_p43 τ (uu1_q22 nx35 Q E) E H) (by kernel_rfl) (uu1_36ok nx35 Q E τ H h))

theorem uu1_38ok (nx35 : Int → HP) (Q : QT) (E : ET) (τ : Tau) (H : Heap) (h : uu1_34_M nx35 Q E τ H) : vc Pr uu1_p42 τ (uu1_q21 nx35 Q E) E H :=
  (conv (B := vc Pr uu1_p42 τ (uu1_q21 nx35 Q E) E H) (by kernel_rfl) (uu1_37ok nx35 Q E τ H h))

theorem uu1_39ok (nx35 : Int → HP) (Q : QT) (E : ET) (τ : Tau) (H : Heap) (h : uu1_34_M nx35 Q E τ H) : vc Pr uu1_p41 τ (uu1_q20 nx35 Q E) E H :=
  (conv (B := vc Pr uu1_p41 τ (uu1_q20 nx35 Q E) E H) (by kernel_rfl) (uu1_38ok nx35 Q E τ H h))

theorem uu1_40ok (nx35 : Int → HP) (Q : QT) (E : ET) (τ : Tau) (H : Heap) (h : uu1_34_M nx35 Q E τ H) : vc Pr uu1_p40 τ (uu1_q19 nx35 Q E) E H :=
  (conv (B := vc Pr uu1_p40 τ (uu1_q19 nx35 Q E) E H) (by kernel_rfl) (uu1_39ok nx35 Q E τ H h))

theorem uu1_41ok (nx35 : Int → HP) (Q : QT) (E : ET) (τ : Tau) (H : Heap) (h : uu1_34_M nx35 Q E τ H) : vc Pr uu1_p34 τ (uu1_q16 nx35 Q E) E H :=
  (conv (B := vc Pr uu1_p34 τ (uu1_q16 nx35 Q E) E H) (by kernel_rfl) (vc_seq (K := (uu1_26_M nx35 Q E)) (uu1_40ok nx35 Q E τ H h) (uu1_28ok nx35 Q E)))

theorem uu1_42ok (nx35 : Int → HP) (Q : QT) (E : ET) (τ : Tau) (H : Heap) (h : uu1_34_M nx35 Q E τ H) : vc Pr uu1_p33 τ (uu1_q15 nx35 Q E) E H :=
  (conv (B := vc Pr uu1_p33 τ (uu1_q15 nx35 Q E) E H) (by kernel_rfl) (uu1_41ok nx35 Q E τ H h))

theorem uu1_43ok (nx35 : Int → HP) (Q : QT) (E : ET) (τ : Tau) (H : Heap) (h : uu1_34_M nx35 Q E τ H) : vc Pr uu1_p26 τ (uu1_q11 nx35 Q E) E H :=
  (conv (B := vc Pr uu1_p26 τ (uu1_q11 nx35 Q E) E H) (by kernel_rfl) (vc_seq (K := (uu1_17_M nx35 Q E)) (uu1_42ok nx35 Q E τ H h) (uu1_20ok nx35 Q E)))

theorem uu1_44ok (nx35 : Int → HP) (Q : QT) (E : ET) (τ : Tau) (H : Heap) (h : uu1_34_M nx35 Q E τ H) : vc Pr uu1_p25 τ (uu1_q10 nx35 Q E) E H :=
  (conv (B := vc Pr uu1_p25 τ (uu1_q10 nx35 Q E) E H) (by kernel_rfl) (uu1_43ok nx35 Q E τ H h))

theorem uu1_45ok (nx35 : Int → HP) (Q : QT) (E : ET) (τ : Tau) (H : Heap) (h : uu1_34_M nx35 Q E τ H) : vc Pr uu1_p23 τ (uu1_q9 nx35 Q E) E H :=
  (conv (B := vc Pr uu1_p23 τ (uu1_q9 nx35 Q E) E H) (by kernel_rfl) (vc_seq (K := (uu1_10_M nx35 Q E)) (uu1_44ok nx35 Q E τ H h) (uu1_11ok nx35 Q E)))

theorem uu1_46ok (nx35 : Int → HP) (Q : QT) (E : ET) (τ : Tau) (H : Heap) (h : uu1_34_M nx35 Q E τ H) : vc Pr uu1_p22 τ (uu1_q8 nx35 Q E) E H :=
  (conv (B := vc Pr uu1_p22 τ (uu1_q8 nx35 Q E) E H) (by kernel_rfl) (uu1_45ok nx35 Q E τ H h))

@[reducible] noncomputable def uu1_q26 (nx35 : Int → HP) (Q : QT) (E : ET) : Exit → Tau → Heap → Prop := (xthen (uu1_34_M nx35 Q E) (uu1_q8 nx35 Q E))

@[reducible] noncomputable def uu1_p49 : Code := sA uu1_p21

def uu1_47 (nx35 : Int → HP) (Q : QT) (E : ET) (x0 : OA) (l0 : Nat) (c0 : Nat) (x3 : OA) (l3 : Nat) (c3 : Nat) (x4 : Int) (x5 : OA) (x6 : Int) (x7 : Int) (x19 : OA) (l19 : Nat) (c19 : Nat) (x20 : Int) (x21 : Int) (H : Heap) : Prop :=
 ptr x5 fun q164 =>
 ldI .i64 q164 H fun n165 =>
 Does Pr 74 #[(.int .i64 n165)] H (fun v166 H167 =>
 ∃ n168 : Int, v166 = (.int .i64 n168) ∧ uu1_34 nx35 Q E x0 l0 c0 x3 l3 c3 x4 x5 x6 x7 x19 l19 c19 x20 x21 n168 H167) E

def uu1_47_M (nx35 : Int → HP) (Q : QT) (E : ET) (τ : Tau) (H : Heap) : Prop := mSl (τ 0) fun x0 l0 c0 => mSl (τ 3) fun x3 l3 c3 => mI .i64 (τ 4) fun x4 => mP (τ 5) fun x5 => mI .i64 (τ 6) fun x6 => mI .i64 (τ 7) fun x7 => mSl (τ 19) fun x19 l19 c19 => mI .i64 (τ 20) fun x20 => mI .i64 (τ 21) fun x21 => uu1_47 nx35 Q E x0 l0 c0 x3 l3 c3 x4 x5 x6 x7 x19 l19 c19 x20 x21 H

theorem uu1_48ok (nx35 : Int → HP) (Q : QT) (E : ET) (τ : Tau) (H : Heap) (h : uu1_47_M nx35 Q E τ H) : vc Pr uu1_p49 τ (uu1_q26 nx35 Q E) E H :=
  vSl (i := 0) h (fun x0 l0 c0 h => vSl (i := 3) h (fun x3 l3 c3 h => vI (i := 4) h (fun x4 h => vP (i := 5) h (fun x5 h => vI (i := 6) h (fun x6 h => vI (i := 7) h (fun x7 h => vSl (i := 19) h (fun x19 l19 c19 h => vI (i := 20) h (fun x20 h => vI (i := 21) h (fun x21 h => (conv (by kernel_rfl) h))))))))))

theorem uu1_49ok (nx35 : Int → HP) (Q : QT) (E : ET) (τ : Tau) (H : Heap) (h : uu1_47_M nx35 Q E τ H) : vc Pr uu1_p21 τ (uu1_q8 nx35 Q E) E H :=
  (conv (B := vc Pr uu1_p21 τ (uu1_q8 nx35 Q E) E H) (by kernel_rfl) (vc_seq (K := (uu1_34_M nx35 Q E)) (uu1_48ok nx35 Q E τ H h) (uu1_46ok nx35 Q E)))

theorem uu1_50ok (nx35 : Int → HP) (Q : QT) (E : ET) (τ : Tau) (H : Heap) (h : uu1_47_M nx35 Q E τ H) : vc Pr uu1_p17 τ (uu1_q6 nx35 Q E) E H :=
  (conv (B := vc Pr uu1_p17 τ (uu1_q6 nx35 Q E) E H) (by kernel_rfl) (vc_seq (K := (uu1_7_M nx35 Q E)) (uu1_49ok nx35 Q E τ H h) (uu1_9ok nx35 Q E)))

@[reducible] noncomputable def uu1_q27 (nx35 : Int → HP) (Q : QT) (E : ET) : Exit → Tau → Heap → Prop := (xthen (uu1_47_M nx35 Q E) (uu1_q6 nx35 Q E))

@[reducible] noncomputable def uu1_p50 : Code := sA uu1_p16

def uu1_51 (nx35 : Int → HP) (Q : QT) (E : ET) (x0 : OA) (l0 : Nat) (c0 : Nat) (x3 : OA) (l3 : Nat) (c3 : Nat) (x4 : Int) (x5 : OA) (x6 : Int) (x7 : Int) (x19 : OA) (l19 : Nat) (c19 : Nat) (x20 : Int) (x21 : Int) (H : Heap) : Prop :=
 (0 ≤ (x4 : Int) ∧ (x4 : Int) < ((l3 : Nat) : Int)) ∧ ptr x3 fun q169 =>
 wr (Addr.add q169 ((x4 : Int).toNat * 1)) [(.int .i64 1)] H fun H170 =>
 uu1_47 nx35 Q E x0 l0 c0 x3 l3 c3 x4 x5 x6 x7 x19 l19 c19 x20 x21 H170

def uu1_51_M (nx35 : Int → HP) (Q : QT) (E : ET) (τ : Tau) (H : Heap) : Prop := mSl (τ 0) fun x0 l0 c0 => mSl (τ 3) fun x3 l3 c3 => mI .i64 (τ 4) fun x4 => mP (τ 5) fun x5 => mI .i64 (τ 6) fun x6 => mI .i64 (τ 7) fun x7 => mSl (τ 19) fun x19 l19 c19 => mI .i64 (τ 20) fun x20 => mI .i64 (τ 21) fun x21 => uu1_51 nx35 Q E x0 l0 c0 x3 l3 c3 x4 x5 x6 x7 x19 l19 c19 x20 x21 H

theorem uu1_52ok (nx35 : Int → HP) (Q : QT) (E : ET) (τ : Tau) (H : Heap) (h : uu1_51_M nx35 Q E τ H) : vc Pr uu1_p50 τ (uu1_q27 nx35 Q E) E H :=
  vSl (i := 0) h (fun x0 l0 c0 h => vSl (i := 3) h (fun x3 l3 c3 h => vI (i := 4) h (fun x4 h => vP (i := 5) h (fun x5 h => vI (i := 6) h (fun x6 h => vI (i := 7) h (fun x7 h => vSl (i := 19) h (fun x19 l19 c19 h => vI (i := 20) h (fun x20 h => vI (i := 21) h (fun x21 h => (conv (by kernel_rfl) h))))))))))

theorem uu1_53ok (nx35 : Int → HP) (Q : QT) (E : ET) (τ : Tau) (H : Heap) (h : uu1_51_M nx35 Q E τ H) : vc Pr uu1_p16 τ (uu1_q6 nx35 Q E) E H :=
  (conv (B := vc Pr uu1_p16 τ (uu1_q6 nx35 Q E) E H) (by kernel_rfl) (vc_seq (K := (uu1_47_M nx35 Q E)) (uu1_52ok nx35 Q E τ H h) (uu1_50ok nx35 Q E)))

@[reducible] noncomputable def uu1_q28 (nx35 : Int → HP) (Q : QT) (E : ET) : Exit → Tau → Heap → Prop := (xthen (uu1_51_M nx35 Q E) (uu1_q6 nx35 Q E))

@[reducible] noncomputable def uu1_p51 : Code := sA uu1_p15

def uu1_54 (nx35 : Int → HP) (Q : QT) (E : ET) (x0 : OA) (l0 : Nat) (c0 : Nat) (x3 : OA) (l3 : Nat) (c3 : Nat) (x4 : Int) (x5 : OA) (x19 : OA) (l19 : Nat) (c19 : Nat) (x20 : Int) (x21 : Int) (H : Heap) : Prop :=
 uu1_51 nx35 Q E x0 l0 c0 x3 l3 c3 x4 x5 0 0 x19 l19 c19 x20 x21 H

def uu1_54_M (nx35 : Int → HP) (Q : QT) (E : ET) (τ : Tau) (H : Heap) : Prop := mSl (τ 0) fun x0 l0 c0 => mSl (τ 3) fun x3 l3 c3 => mI .i64 (τ 4) fun x4 => mP (τ 5) fun x5 => mSl (τ 19) fun x19 l19 c19 => mI .i64 (τ 20) fun x20 => mI .i64 (τ 21) fun x21 => uu1_54 nx35 Q E x0 l0 c0 x3 l3 c3 x4 x5 x19 l19 c19 x20 x21 H

theorem uu1_55ok (nx35 : Int → HP) (Q : QT) (E : ET) (τ : Tau) (H : Heap) (h : uu1_54_M nx35 Q E τ H) : vc Pr uu1_p51 τ (uu1_q28 nx35 Q E) E H :=
  vSl (i := 0) h (fun x0 l0 c0 h => vSl (i := 3) h (fun x3 l3 c3 h => vI (i := 4) h (fun x4 h => vP (i := 5) h (fun x5 h => vSl (i := 19) h (fun x19 l19 c19 h => vI (i := 20) h (fun x20 h => vI (i := 21) h (fun x21 h => (conv (by kernel_rfl) h))))))))

theorem uu1_56ok (nx35 : Int → HP) (Q : QT) (E : ET) (τ : Tau) (H : Heap) (h : uu1_54_M nx35 Q E τ H) : vc Pr uu1_p15 τ (uu1_q6 nx35 Q E) E H :=
  (conv (B := vc Pr uu1_p15 τ (uu1_q6 nx35 Q E) E H) (by kernel_rfl) (vc_seq (K := (uu1_51_M nx35 Q E)) (uu1_55ok nx35 Q E τ H h) (uu1_53ok nx35 Q E)))

@[reducible] noncomputable def uu1_q29 (nx35 : Int → HP) (Q : QT) (E : ET) : Exit → Tau → Heap → Prop := (xthen (uu1_54_M nx35 Q E) (uu1_q6 nx35 Q E))

@[reducible] noncomputable def uu1_p52 : Code := sA uu1_p14

@[reducible] noncomputable def uu1_p53 : Code := sB uu1_p52

def uu1_57 (nx35 : Int → HP) (Q : QT) (E : ET) (x0 : OA) (l0 : Nat) (c0 : Nat) (x3 : OA) (l3 : Nat) (c3 : Nat) (x4 : Int) (x5 : OA) (x19 : OA) (l19 : Nat) (c19 : Nat) (x20 : Int) (x21 : Int) (x34 : Bool) (H : Heap) : Prop :=
 sel x34
 (Q (.bool false) H)
 (uu1_54 nx35 Q E x0 l0 c0 x3 l3 c3 x4 x5 x19 l19 c19 x20 x21 H)

def uu1_57_M (nx35 : Int → HP) (Q : QT) (E : ET) (τ : Tau) (H : Heap) : Prop := mSl (τ 0) fun x0 l0 c0 => mSl (τ 3) fun x3 l3 c3 => mI .i64 (τ 4) fun x4 => mP (τ 5) fun x5 => mSl (τ 19) fun x19 l19 c19 => mI .i64 (τ 20) fun x20 => mI .i64 (τ 21) fun x21 => mB (τ 34) fun x34 => uu1_57 nx35 Q E x0 l0 c0 x3 l3 c3 x4 x5 x19 l19 c19 x20 x21 x34 H

theorem uu1_58ok (nx35 : Int → HP) (Q : QT) (E : ET) (τ : Tau) (H : Heap) (h : uu1_57_M nx35 Q E τ H) : vc Pr uu1_p53 τ (uu1_q29 nx35 Q E) E H :=
  vSl (i := 0) h (fun x0 l0 c0 h => vSl (i := 3) h (fun x3 l3 c3 h => vI (i := 4) h (fun x4 h => vP (i := 5) h (fun x5 h => vSl (i := 19) h (fun x19 l19 c19 h => vI (i := 20) h (fun x20 h => vI (i := 21) h (fun x21 h => vB (i := 34) h (fun x34 h => (conv (by kernel_rfl) h)))))))))

@[reducible] noncomputable def uu1_q30 (nx35 : Int → HP) (Q : QT) (E : ET) : Exit → Tau → Heap → Prop := (xthen (uu1_57_M nx35 Q E) (uu1_q29 nx35 Q E))

@[reducible] noncomputable def uu1_p54 : Code := sA uu1_p52

def uu1_59 (nx35 : Int → HP) (Q : QT) (E : ET) (x0 : OA) (l0 : Nat) (c0 : Nat) (x3 : OA) (l3 : Nat) (c3 : Nat) (x4 : Int) (x5 : OA) (x19 : OA) (l19 : Nat) (c19 : Nat) (x20 : Int) (x21 : Int) (H : Heap) : Prop :=
 ptr x5 fun q176 =>
 ldI .i64 q176 H fun n177 =>
 sel ((n177 : Int) != 2)
 (ptr x5 fun q178 =>
 ∃ n179 n180 n181 n182 : Int, Heap.rd H (Addr.add q178 3) 0 [(.int .u64 n179), (.int .u64 n180), (.int .u64 n181), (.int .u64 n182)] ∧ uu1_57 nx35 Q E x0 l0 c0 x3 l3 c3 x4 x5 x19 l19 c19 x20 x21 (!(eqVs [(.int .u64 n179), (.int .u64 n180), (.int .u64 n181), (.int .u64 n182)] [(.int .u64 0), (.int .u64 0), (.int .u64 0), (.int .u64 0)])) H)
 (uu1_57 nx35 Q E x0 l0 c0 x3 l3 c3 x4 x5 x19 l19 c19 x20 x21 false H)

def uu1_59_M (nx35 : Int → HP) (Q : QT) (E : ET) (τ : Tau) (H : Heap) : Prop := mSl (τ 0) fun x0 l0 c0 => mSl (τ 3) fun x3 l3 c3 => mI .i64 (τ 4) fun x4 => mP (τ 5) fun x5 => mSl (τ 19) fun x19 l19 c19 => mI .i64 (τ 20) fun x20 => mI .i64 (τ 21) fun x21 => uu1_59 nx35 Q E x0 l0 c0 x3 l3 c3 x4 x5 x19 l19 c19 x20 x21 H

theorem uu1_60ok (nx35 : Int → HP) (Q : QT) (E : ET) (τ : Tau) (H : Heap) (h : uu1_59_M nx35 Q E τ H) : vc Pr uu1_p54 τ (uu1_q30 nx35 Q E) E H :=
  vSl (i := 0) h (fun x0 l0 c0 h => vSl (i := 3) h (fun x3 l3 c3 h => vI (i := 4) h (fun x4 h => vP (i := 5) h (fun x5 h => vSl (i := 19) h (fun x19 l19 c19 h => vI (i := 20) h (fun x20 h => vI (i := 21) h (fun x21 h => (conv (by kernel_rfl) h))))))))

theorem uu1_61ok (nx35 : Int → HP) (Q : QT) (E : ET) (τ : Tau) (H : Heap) (h : uu1_59_M nx35 Q E τ H) : vc Pr uu1_p52 τ (uu1_q29 nx35 Q E) E H :=
  (conv (B := vc Pr uu1_p52 τ (uu1_q29 nx35 Q E) E H) (by kernel_rfl) (vc_seq (K := (uu1_57_M nx35 Q E)) (uu1_60ok nx35 Q E τ H h) (uu1_58ok nx35 Q E)))

theorem uu1_62ok (nx35 : Int → HP) (Q : QT) (E : ET) (τ : Tau) (H : Heap) (h : uu1_59_M nx35 Q E τ H) : vc Pr uu1_p14 τ (uu1_q6 nx35 Q E) E H :=
  (conv (B := vc Pr uu1_p14 τ (uu1_q6 nx35 Q E) E H) (by kernel_rfl) (vc_seq (K := (uu1_54_M nx35 Q E)) (uu1_61ok nx35 Q E τ H h) (uu1_56ok nx35 Q E)))

@[reducible] noncomputable def uu1_q31 (nx35 : Int → HP) (Q : QT) (E : ET) : Exit → Tau → Heap → Prop := (xthen (uu1_59_M nx35 Q E) (uu1_q6 nx35 Q E))

@[reducible] noncomputable def uu1_p55 : Code := sA uu1_p13

def uu1_63 (nx35 : Int → HP) (Q : QT) (E : ET) (x0 : OA) (l0 : Nat) (c0 : Nat) (x3 : OA) (l3 : Nat) (c3 : Nat) (x19 : OA) (l19 : Nat) (c19 : Nat) (x20 : Int) (x21 : Int) (H : Heap) : Prop :=
 (0 ≤ (x21 : Int) ∧ (x21 : Int) < ((l19 : Nat) : Int)) ∧ ptr x19 fun q183 =>
 ∃ n184 n185 n186 n187 n188 n189 n190 : Int, Heap.rd H (Addr.add q183 ((x21 : Int).toNat * 7)) 0 [(.int .i64 n184), (.int .i64 n185), (.int .i64 n186), (.int .u64 n187), (.int .u64 n188), (.int .u64 n189), (.int .u64 n190)] ∧ nw (.cells #[(.int .i64 0), (.int .i64 0), (.int .i64 0), (.int .u64 0), (.int .u64 0), (.int .u64 0), (.int .u64 0)] 48 (0, 0)) H fun i191 H192 =>
 wr ⟨i191, 0, none⟩ [(.int .i64 n184), (.int .i64 n185), (.int .i64 n186), (.int .u64 n187), (.int .u64 n188), (.int .u64 n189), (.int .u64 n190)] H192 fun H193 =>
 uu1_59 nx35 Q E x0 l0 c0 x3 l3 c3 x21 (some ⟨i191, 0, none⟩) x19 l19 c19 x20 x21 H193

def uu1_63_M (nx35 : Int → HP) (Q : QT) (E : ET) (τ : Tau) (H : Heap) : Prop := mSl (τ 0) fun x0 l0 c0 => mSl (τ 3) fun x3 l3 c3 => mSl (τ 19) fun x19 l19 c19 => mI .i64 (τ 20) fun x20 => mI .i64 (τ 21) fun x21 => uu1_63 nx35 Q E x0 l0 c0 x3 l3 c3 x19 l19 c19 x20 x21 H

theorem uu1_64ok (nx35 : Int → HP) (Q : QT) (E : ET) (τ : Tau) (H : Heap) (h : uu1_63_M nx35 Q E τ H) : vc Pr uu1_p55 τ (uu1_q31 nx35 Q E) E H :=
  vSl (i := 0) h (fun x0 l0 c0 h => vSl (i := 3) h (fun x3 l3 c3 h => vSl (i := 19) h (fun x19 l19 c19 h => vI (i := 20) h (fun x20 h => vI (i := 21) h (fun x21 h => (conv (by kernel_rfl) h))))))

theorem uu1_65ok (nx35 : Int → HP) (Q : QT) (E : ET) (τ : Tau) (H : Heap) (h : uu1_63_M nx35 Q E τ H) : vc Pr uu1_p13 τ (uu1_q6 nx35 Q E) E H :=
  (conv (B := vc Pr uu1_p13 τ (uu1_q6 nx35 Q E) E H) (by kernel_rfl) (vc_seq (K := (uu1_59_M nx35 Q E)) (uu1_64ok nx35 Q E τ H h) (uu1_62ok nx35 Q E)))

theorem uu1_66ok (nx35 : Int → HP) (Q : QT) (E : ET) (τ : Tau) (H : Heap) (h : uu1_63_M nx35 Q E τ H) : vc Pr uu1_p12 τ (uu1_q5 nx35 Q E) E H :=
  (conv (B := vc Pr uu1_p12 τ (uu1_q5 nx35 Q E) E H) (by kernel_rfl) (uu1_65ok nx35 Q E τ H h))

theorem uu1_67ok (nx35 : Int → HP) (Q : QT) (E : ET) (τ : Tau) (H : Heap) (h : uu1_63_M nx35 Q E τ H) : vc Pr uu1_p10 τ (uu1_q4 nx35 Q E) E H :=
  (conv (B := vc Pr uu1_p10 τ (uu1_q4 nx35 Q E) E H) (by kernel_rfl) (vc_seq (K := (uu1_3_M nx35 Q E)) (uu1_66ok nx35 Q E τ H h) (uu1_4ok nx35 Q E)))

@[reducible] noncomputable def uu1_q32 (nx35 : Int → HP) (Q : QT) (E : ET) : Exit → Tau → Heap → Prop := (xthen (uu1_63_M nx35 Q E) (uu1_q4 nx35 Q E))

@[reducible] noncomputable def uu1_p56 : Code := sA uu1_p9

def uu1_68 (nx35 : Int → HP) (Q : QT) (E : ET) (x0 : OA) (l0 : Nat) (c0 : Nat) (x3 : OA) (l3 : Nat) (c3 : Nat) (x19 : OA) (l19 : Nat) (c19 : Nat) (x20 : Int) (x21 : Int) (x22 : Bool) (H : Heap) : Prop :=
 sel x22
 (uu1_63 nx35 Q E x0 l0 c0 x3 l3 c3 x19 l19 c19 x20 x21 H)
 (uu1_1 Q E x0 l0 c0 x3 l3 c3 H)

def uu1_68_M (nx35 : Int → HP) (Q : QT) (E : ET) (τ : Tau) (H : Heap) : Prop := mSl (τ 0) fun x0 l0 c0 => mSl (τ 3) fun x3 l3 c3 => mSl (τ 19) fun x19 l19 c19 => mI .i64 (τ 20) fun x20 => mI .i64 (τ 21) fun x21 => mB (τ 22) fun x22 => uu1_68 nx35 Q E x0 l0 c0 x3 l3 c3 x19 l19 c19 x20 x21 x22 H

theorem uu1_69ok (nx35 : Int → HP) (Q : QT) (E : ET) (τ : Tau) (H : Heap) (h : uu1_68_M nx35 Q E τ H) : vc Pr uu1_p56 τ (uu1_q32 nx35 Q E) E H :=
  vSl (i := 0) h (fun x0 l0 c0 h => vSl (i := 3) h (fun x3 l3 c3 h => vSl (i := 19) h (fun x19 l19 c19 h => vI (i := 20) h (fun x20 h => vI (i := 21) h (fun x21 h => vB (i := 22) h (fun x22 h => (conv (by kernel_rfl) h)))))))

theorem uu1_70ok (nx35 : Int → HP) (Q : QT) (E : ET) (τ : Tau) (H : Heap) (h : uu1_68_M nx35 Q E τ H) : vc Pr uu1_p9 τ (uu1_q4 nx35 Q E) E H :=
  (conv (B := vc Pr uu1_p9 τ (uu1_q4 nx35 Q E) E H) (by kernel_rfl) (vc_seq (K := (uu1_63_M nx35 Q E)) (uu1_69ok nx35 Q E τ H h) (uu1_67ok nx35 Q E)))

@[reducible] noncomputable def uu1_q33 (nx35 : Int → HP) (Q : QT) (E : ET) : Exit → Tau → Heap → Prop := (xthen (uu1_68_M nx35 Q E) (uu1_q4 nx35 Q E))

@[reducible] noncomputable def uu1_p57 : Code := sA uu1_p8

def uu1_71 (nx35 : Int → HP) (Q : QT) (E : ET) (x0 : OA) (l0 : Nat) (c0 : Nat) (x3 : OA) (l3 : Nat) (c3 : Nat) (x19 : OA) (l19 : Nat) (c19 : Nat) (x20 : Int) (x21 : Int) (H : Heap) : Prop :=
 uu1_68 nx35 Q E x0 l0 c0 x3 l3 c3 x19 l19 c19 x20 x21 (decide ((x21 : Int) < x20)) H

def uu1_71_M (nx35 : Int → HP) (Q : QT) (E : ET) (τ : Tau) (H : Heap) : Prop := mSl (τ 0) fun x0 l0 c0 => mSl (τ 3) fun x3 l3 c3 => mSl (τ 19) fun x19 l19 c19 => mI .i64 (τ 20) fun x20 => mI .i64 (τ 21) fun x21 => uu1_71 nx35 Q E x0 l0 c0 x3 l3 c3 x19 l19 c19 x20 x21 H

theorem uu1_72ok (nx35 : Int → HP) (Q : QT) (E : ET) (τ : Tau) (H : Heap) (h : uu1_71_M nx35 Q E τ H) : vc Pr uu1_p57 τ (uu1_q33 nx35 Q E) E H :=
  vSl (i := 0) h (fun x0 l0 c0 h => vSl (i := 3) h (fun x3 l3 c3 h => vSl (i := 19) h (fun x19 l19 c19 h => vI (i := 20) h (fun x20 h => vI (i := 21) h (fun x21 h => (conv (by kernel_rfl) h))))))

theorem uu1_73ok (nx35 : Int → HP) (Q : QT) (E : ET) (τ : Tau) (H : Heap) (h : uu1_71_M nx35 Q E τ H) : vc Pr uu1_p8 τ (uu1_q4 nx35 Q E) E H :=
  (conv (B := vc Pr uu1_p8 τ (uu1_q4 nx35 Q E) E H) (by kernel_rfl) (vc_seq (K := (uu1_68_M nx35 Q E)) (uu1_72ok nx35 Q E τ H h) (uu1_70ok nx35 Q E)))

def uu1_74 (Q : QT) (E : ET) (x0 : OA) (l0 : Nat) (c0 : Nat) (x3 : OA) (l3 : Nat) (c3 : Nat) (x19 : OA) (l19 : Nat) (c19 : Nat) (x20 : Int) (x21 : Int) (H : Heap) : Prop :=
 ∃ (I : Int → HP) (μ : Int → Heap → Nat), I x21 H ∧ ∀ (x21 : Int) (H : Heap), I x21 H →
 uu1_71 (fun x21' H1 => I x21' H1 ∧ μ x21' H1 < μ x21 H) Q E x0 l0 c0 x3 l3 c3 x19 l19 c19 x20 x21 H

def uu1_74_M (Q : QT) (E : ET) (τ : Tau) (H : Heap) : Prop := mSl (τ 0) fun x0 l0 c0 => mSl (τ 3) fun x3 l3 c3 => mSl (τ 19) fun x19 l19 c19 => mI .i64 (τ 20) fun x20 => mI .i64 (τ 21) fun x21 => uu1_74 Q E x0 l0 c0 x3 l3 c3 x19 l19 c19 x20 x21 H

theorem uu1_75ok (Q : QT) (E : ET) (τ : Tau) (H : Heap) (h : uu1_74_M Q E τ H) : vc Pr uu1_p7 τ (uu1_q3 Q E) E H :=
  vSl (i := 0) h (fun x0 l0 c0 h => vSl (i := 3) h (fun x3 l3 c3 h => vSl (i := 19) h (fun x19 l19 c19 h => vI (i := 20) h (fun x20 h => vI (i := 21) h (fun x21 h => match h with | ⟨I, μ, h0, hr⟩ => (conv (B := vc Pr uu1_p7 (Tau.upd (Tau.upd (Tau.upd (Tau.upd (Tau.upd τ 0 (.slice x0 l0 c0)) 3 (.slice x3 l3 c3)) 19 (.slice x19 l19 c19)) 20 (.int .i64 x20)) 21 (.int .i64 x21)) (uu1_q3 Q E) E H) (by kernel_rfl) (vc_loop (c := sI uu1_p7) (τ := (Tau.upd (Tau.upd (Tau.upd (Tau.upd (Tau.upd τ 0 (.slice x0 l0 c0)) 3 (.slice x3 l3 c3)) 19 (.slice x19 l19 c19)) 20 (.int .i64 x20)) 21 (.int .i64 x21))) [0, 3, 19, 20] (fun τ H => mI .i64 (τ 21) fun x21' => I x21' H) (fun τ H => μ (gI (τ 21)) H) (by kernel_rfl) h0 (fun τ1 H1 hf hI => fix_elim (τ := τ1) (i := 0) (v := (.slice x0 l0 c0)) (G := fun τ => vc Pr (sI uu1_p7) τ (xthen (fun τ2 H2 => (mI .i64 (τ2 21) fun x21' => I x21' H2) ∧ μ (gI (τ2 21)) H2 < μ (gI (τ 21)) H1) (uu1_q3 Q E)) E H1) (hf 0 (by simp)) (fix_elim (τ := (Tau.upd τ1 0 (.slice x0 l0 c0))) (i := 3) (v := (.slice x3 l3 c3)) (G := fun τ => vc Pr (sI uu1_p7) τ (xthen (fun τ2 H2 => (mI .i64 (τ2 21) fun x21' => I x21' H2) ∧ μ (gI (τ2 21)) H2 < μ (gI (τ 21)) H1) (uu1_q3 Q E)) E H1) (hf 3 (by simp)) (fix_elim (τ := (Tau.upd (Tau.upd τ1 0 (.slice x0 l0 c0)) 3 (.slice x3 l3 c3))) (i := 19) (v := (.slice x19 l19 c19)) (G := fun τ => vc Pr (sI uu1_p7) τ (xthen (fun τ2 H2 => (mI .i64 (τ2 21) fun x21' => I x21' H2) ∧ μ (gI (τ2 21)) H2 < μ (gI (τ 21)) H1) (uu1_q3 Q E)) E H1) (hf 19 (by simp)) (fix_elim (τ := (Tau.upd (Tau.upd (Tau.upd τ1 0 (.slice x0 l0 c0)) 3 (.slice x3 l3 c3)) 19 (.slice x19 l19 c19))) (i := 20) (v := (.int .i64 x20)) (G := fun τ => vc Pr (sI uu1_p7) τ (xthen (fun τ2 H2 => (mI .i64 (τ2 21) fun x21' => I x21' H2) ∧ μ (gI (τ2 21)) H2 < μ (gI (τ 21)) H1) (uu1_q3 Q E)) E H1) (hf 20 (by simp)) (mI_elim (i := 21) (G := fun τ => vc Pr (sI uu1_p7) τ (xthen (fun τ2 H2 => (mI .i64 (τ2 21) fun x21' => I x21' H2) ∧ μ (gI (τ2 21)) H2 < μ (gI (τ 21)) H1) (uu1_q3 Q E)) E H1) hI (fun x21r h => (conv (B := vc Pr (sI uu1_p7) (Tau.upd (Tau.upd (Tau.upd (Tau.upd (Tau.upd τ1 0 (.slice x0 l0 c0)) 3 (.slice x3 l3 c3)) 19 (.slice x19 l19 c19)) 20 (.int .i64 x20)) 21 (.int .i64 x21r)) (xthen (fun τ2 H2 => (mI .i64 (τ2 21) fun x21' => I x21' H2) ∧ μ (gI (τ2 21)) H2 < μ (gI ((Tau.upd (Tau.upd (Tau.upd (Tau.upd (Tau.upd τ1 0 (.slice x0 l0 c0)) 3 (.slice x3 l3 c3)) 19 (.slice x19 l19 c19)) 20 (.int .i64 x20)) 21 (.int .i64 x21r)) 21)) H1) (uu1_q3 Q E)) E H1) (by kernel_rfl) (vc_xthen (uu1_73ok (fun x21' H2 => I x21' H2 ∧ μ x21' H2 < μ x21r H1) Q E (Tau.upd (Tau.upd (Tau.upd (Tau.upd (Tau.upd τ1 0 (.slice x0 l0 c0)) 3 (.slice x3 l3 c3)) 19 (.slice x19 l19 c19)) 20 (.int .i64 x20)) 21 (.int .i64 x21r)) H1 (conv (B := uu1_71_M (fun x21' H2 => I x21' H2 ∧ μ x21' H2 < μ x21r H1) Q E (Tau.upd (Tau.upd (Tau.upd (Tau.upd (Tau.upd τ1 0 (.slice x0 l0 c0)) 3 (.slice x3 l3 c3)) 19 (.slice x19 l19 c19)) 20 (.int .i64 x20)) 21 (.int .i64 x21r)) H1) (by kernel_rfl) (hr x21r H1 h))) (fun τ2 H2 hk => mI_elim (i := 21) (G := fun τ => (mI .i64 (τ 21) fun x21' => I x21' H2) ∧ μ (gI (τ 21)) H2 < μ x21r H1) hk (fun x21' h => h)))))))))))))))))

theorem uu1_76ok (Q : QT) (E : ET) (τ : Tau) (H : Heap) (h : uu1_74_M Q E τ H) : vc Pr uu1_p6 τ (uu1_q2 Q E) E H :=
  (conv (B := vc Pr uu1_p6 τ (uu1_q2 Q E) E H) (by kernel_rfl) (uu1_75ok Q E τ H h))

@[reducible] noncomputable def uu1_q34 (Q : QT) (E : ET) : Exit → Tau → Heap → Prop := (xthen (uu1_74_M Q E) (uu1_q2 Q E))

@[reducible] noncomputable def uu1_p58 : Code := sA uu1_p5

def uu1_77 (Q : QT) (E : ET) (x0 : OA) (l0 : Nat) (c0 : Nat) (x3 : OA) (l3 : Nat) (c3 : Nat) (H : Heap) : Prop :=
 uu1_74 Q E x0 l0 c0 x3 l3 c3 x0 l0 c0 ((l0 : Nat) : Int) 0 H

def uu1_77_M (Q : QT) (E : ET) (τ : Tau) (H : Heap) : Prop := mSl (τ 0) fun x0 l0 c0 => mSl (τ 3) fun x3 l3 c3 => uu1_77 Q E x0 l0 c0 x3 l3 c3 H

theorem uu1_78ok (Q : QT) (E : ET) (τ : Tau) (H : Heap) (h : uu1_77_M Q E τ H) : vc Pr uu1_p58 τ (uu1_q34 Q E) E H :=
  vSl (i := 0) h (fun x0 l0 c0 h => vSl (i := 3) h (fun x3 l3 c3 h => (conv (by kernel_rfl) h)))

theorem uu1_79ok (Q : QT) (E : ET) (τ : Tau) (H : Heap) (h : uu1_77_M Q E τ H) : vc Pr uu1_p5 τ (uu1_q2 Q E) E H :=
  (conv (B := vc Pr uu1_p5 τ (uu1_q2 Q E) E H) (by kernel_rfl) (vc_seq (K := (uu1_74_M Q E)) (uu1_78ok Q E τ H h) (uu1_76ok Q E)))

theorem uu1_80ok (Q : QT) (E : ET) (τ : Tau) (H : Heap) (h : uu1_77_M Q E τ H) : vc Pr uu1_p3 τ (uu1_q1 Q E) E H :=
  (conv (B := vc Pr uu1_p3 τ (uu1_q1 Q E) E H) (by kernel_rfl) (vc_seq (K := (uu1_1_M Q E)) (uu1_79ok Q E τ H h) (uu1_2ok Q E)))

@[reducible] noncomputable def uu1_q35 (Q : QT) (E : ET) : Exit → Tau → Heap → Prop := (xthen (uu1_77_M Q E) (uu1_q1 Q E))

@[reducible] noncomputable def uu1_p59 : Code := sA uu1_p2

def uu1_81 (Q : QT) (E : ET) (x0 : OA) (l0 : Nat) (c0 : Nat) (H : Heap) : Prop :=
 (0 ≤ (((l0 : Nat) : Int) : Int) ∧ (((l0 : Nat) : Int) : Int) ≤ ((l0 : Nat) : Int) ∧ (((l0 : Nat) : Int) : Int) ≤ 281474976710656 ∧ ((8 : Nat) : Int) * ((l0 : Nat) : Int) ≤ 281474976710656) ∧ nw (.cells (rep (((l0 : Nat) : Int) : Int).toNat [(.int .i64 0)]).toArray 3 (0, 0)) H fun i194 H195 =>
 uu1_77 Q E x0 l0 c0 (some ⟨i194, 0, none⟩) ((((l0 : Nat) : Int) : Int).toNat) ((((l0 : Nat) : Int) : Int).toNat) H195

def uu1_81_M (Q : QT) (E : ET) (τ : Tau) (H : Heap) : Prop := mSl (τ 0) fun x0 l0 c0 => uu1_81 Q E x0 l0 c0 H

theorem uu1_82ok (Q : QT) (E : ET) (τ : Tau) (H : Heap) (h : uu1_81_M Q E τ H) : vc Pr uu1_p59 τ (uu1_q35 Q E) E H :=
  vSl (i := 0) h (fun x0 l0 c0 h => (conv (by kernel_rfl) h))

theorem uu1_83ok (Q : QT) (E : ET) (τ : Tau) (H : Heap) (h : uu1_81_M Q E τ H) : vc Pr uu1_p2 τ (uu1_q1 Q E) E H :=
  (conv (B := vc Pr uu1_p2 τ (uu1_q1 Q E) E H) (by kernel_rfl) (vc_seq (K := (uu1_77_M Q E)) (uu1_82ok Q E τ H h) (uu1_80ok Q E)))

@[reducible] noncomputable def uu1_q36 (Q : QT) (E : ET) : Exit → Tau → Heap → Prop := (xthen (uu1_81_M Q E) (uu1_q1 Q E))

@[reducible] noncomputable def uu1_p60 : Code := sA uu1_p1

@[reducible] noncomputable def uu1_p61 : Code := sB uu1_p60

def uu1_84 (Q : QT) (E : ET) (x0 : OA) (l0 : Nat) (c0 : Nat) (x15 : Bool) (H : Heap) : Prop :=
 sel x15
 (Q (.bool false) H)
 (uu1_81 Q E x0 l0 c0 H)

def uu1_84_M (Q : QT) (E : ET) (τ : Tau) (H : Heap) : Prop := mSl (τ 0) fun x0 l0 c0 => mB (τ 15) fun x15 => uu1_84 Q E x0 l0 c0 x15 H

theorem uu1_85ok (Q : QT) (E : ET) (τ : Tau) (H : Heap) (h : uu1_84_M Q E τ H) : vc Pr uu1_p61 τ (uu1_q36 Q E) E H :=
  vSl (i := 0) h (fun x0 l0 c0 h => vB (i := 15) h (fun x15 h => (conv (by kernel_rfl) h)))

@[reducible] noncomputable def uu1_q37 (Q : QT) (E : ET) : Exit → Tau → Heap → Prop := (xthen (uu1_84_M Q E) (uu1_q36 Q E))

@[reducible] noncomputable def uu1_p62 : Code := sA uu1_p60

def uu1_86 (Q : QT) (E : ET) (x0 : OA) (l0 : Nat) (c0 : Nat) (H : Heap) : Prop :=
 sel ((((l0 : Nat) : Int) : Int) == 0)
 (uu1_84 Q E x0 l0 c0 true H)
 (uu1_84 Q E x0 l0 c0 (decide ((((l0 : Nat) : Int) : Int) > 256)) H)

def uu1_86_M (Q : QT) (E : ET) (τ : Tau) (H : Heap) : Prop := mSl (τ 0) fun x0 l0 c0 => uu1_86 Q E x0 l0 c0 H

theorem uu1_87ok (Q : QT) (E : ET) (τ : Tau) (H : Heap) (h : uu1_86_M Q E τ H) : vc Pr uu1_p62 τ (uu1_q37 Q E) E H :=
  vSl (i := 0) h (fun x0 l0 c0 h => (conv (by kernel_rfl) h))

theorem uu1_88ok (Q : QT) (E : ET) (τ : Tau) (H : Heap) (h : uu1_86_M Q E τ H) : vc Pr uu1_p60 τ (uu1_q36 Q E) E H :=
  (conv (B := vc Pr uu1_p60 τ (uu1_q36 Q E) E H) (by kernel_rfl) (vc_seq (K := (uu1_84_M Q E)) (uu1_87ok Q E τ H h) (uu1_85ok Q E)))

theorem uu1_89ok (Q : QT) (E : ET) (τ : Tau) (H : Heap) (h : uu1_86_M Q E τ H) : vc Pr uu1_p1 τ (uu1_q1 Q E) E H :=
  (conv (B := vc Pr uu1_p1 τ (uu1_q1 Q E) E H) (by kernel_rfl) (vc_seq (K := (uu1_81_M Q E)) (uu1_88ok Q E τ H h) (uu1_83ok Q E)))

@[reducible] noncomputable def uu1_q38 (Q : QT) (E : ET) : Exit → Tau → Heap → Prop := (xthen (uu1_86_M Q E) (uu1_q1 Q E))

@[reducible] noncomputable def uu1_p63 : Code := sA uu1_p0

def uu1 (Q : QT) (E : ET) (a0 : OA) (a0l : Nat) (a0c : Nat) (H : Heap) : Prop :=
 uu1_86 Q E a0 a0l a0c H

theorem uu1_fn (a0 : OA) (a0l : Nat) (a0c : Nat) (Q : QT) (E : ET) (H : Heap) (h : uu1 Q E a0 a0l a0c H)   : Does Pr 40 #[(.slice a0 a0l a0c)] H Q E :=
  Fn_of_vc (fn := Try.f40) (c := uu1_p0) (args := [(.slice a0 a0l a0c)]) mixed (by kernel_rfl) (by kernel_rfl) (by kernel_rfl) (by kernel_rfl) (by kernel_rfl) ((conv (B := vc Pr uu1_p0 (argT [(.slice a0 a0l a0c)]) (uu1_q1 Q E) E H) (by kernel_rfl) (vc_seq (K := (uu1_86_M Q E)) (conv (B := vc Pr uu1_p63 (argT [(.slice a0 a0l a0c)]) (uu1_q38 Q E) E H) (by kernel_rfl) h) (uu1_89ok Q E))))

/-! (*jobmux/regex.parser).pattern -/
@[reducible] noncomputable def uv1_q1 (Q : QT) (E : ET) : Exit → Tau → Heap → Prop := (retQ Pr (Try.f60).results.toList Q)

@[reducible] noncomputable def uv1_p0 : Code := bodyOf Try.f60

@[reducible] noncomputable def uv1_p1 : Code := sB uv1_p0

@[reducible] noncomputable def uv1_p2 : Code := sB uv1_p1

@[reducible] noncomputable def uv1_q2 (Q : QT) (E : ET) : Exit → Tau → Heap → Prop := (xblock 0 (uv1_q1 Q E))

@[reducible] noncomputable def uv1_p3 : Code := sI uv1_p2

@[reducible] noncomputable def uv1_q3 (nx4 : Int → HP) (Q : QT) (E : ET) : Exit → Tau → Heap → Prop := (xthen (fun τ H => mI .i64 (τ 3) fun x3' => nx4 x3' H) (uv1_q2 Q E))

@[reducible] noncomputable def uv1_p4 : Code := sI uv1_p3

@[reducible] noncomputable def uv1_q4 (nx4 : Int → HP) (Q : QT) (E : ET) : Exit → Tau → Heap → Prop := (xblock 1 (uv1_q3 nx4 Q E))

@[reducible] noncomputable def uv1_p5 : Code := sI uv1_p4

@[reducible] noncomputable def uv1_p6 : Code := sB uv1_p5

def uv1_1 (nx4 : Int → HP) (Q : QT) (E : ET) (x0 : OA) (x3 : Int) (H : Heap) : Prop :=
 ptr x0 fun q9 =>
 ldI .i64 (Addr.add q9 1) H fun n10 =>
 ptr x0 fun q11 =>
 wr (Addr.add q11 1) [(.int .i64 (IntKind.wrap .i64 (n10 + 1)))] H fun H12 =>
 Does Pr 93 #[(.pointer x0)] H12 (fun v13 H14 =>
 ∃ n15 : Int, v13 = (.int .i64 n15) ∧ Does Pr 95 #[(.pointer x0), (.agg #[(.int .i64 4), (.int .i64 x3), (.int .i64 n15), (.int .u64 0), (.int .u64 0), (.int .u64 0), (.int .u64 0)])] H14 (fun v16 H17 =>
 ∃ n18 : Int, v16 = (.int .i64 n18) ∧ nx4 n18 H17) E) E

def uv1_1_M (nx4 : Int → HP) (Q : QT) (E : ET) (τ : Tau) (H : Heap) : Prop := mP (τ 0) fun x0 => mI .i64 (τ 3) fun x3 => uv1_1 nx4 Q E x0 x3 H

theorem uv1_2ok (nx4 : Int → HP) (Q : QT) (E : ET) (τ : Tau) (H : Heap) (h : uv1_1_M nx4 Q E τ H) : vc Pr uv1_p6 τ (uv1_q4 nx4 Q E) E H :=
  vP (i := 0) h (fun x0 h => vI (i := 3) h (fun x3 h => (conv (by kernel_rfl) h)))

@[reducible] noncomputable def uv1_q5 (nx4 : Int → HP) (Q : QT) (E : ET) : Exit → Tau → Heap → Prop := (xthen (uv1_1_M nx4 Q E) (uv1_q4 nx4 Q E))

@[reducible] noncomputable def uv1_p7 : Code := sA uv1_p5

@[reducible] noncomputable def uv1_p8 : Code := sB uv1_p7

@[reducible] noncomputable def uv1_p9 : Code := sB uv1_p8

def uv1_3 (nx4 : Int → HP) (Q : QT) (E : ET) (x0 : OA) (x3 : Int) (x18 : Bool) (H : Heap) : Prop :=
 sel x18
 (Q (.int .i64 x3) H)
 (uv1_1 nx4 Q E x0 x3 H)

def uv1_3_M (nx4 : Int → HP) (Q : QT) (E : ET) (τ : Tau) (H : Heap) : Prop := mP (τ 0) fun x0 => mI .i64 (τ 3) fun x3 => mB (τ 18) fun x18 => uv1_3 nx4 Q E x0 x3 x18 H

theorem uv1_4ok (nx4 : Int → HP) (Q : QT) (E : ET) (τ : Tau) (H : Heap) (h : uv1_3_M nx4 Q E τ H) : vc Pr uv1_p9 τ (uv1_q5 nx4 Q E) E H :=
  vP (i := 0) h (fun x0 h => vI (i := 3) h (fun x3 h => vB (i := 18) h (fun x18 h => (conv (by kernel_rfl) h))))

@[reducible] noncomputable def uv1_q6 (nx4 : Int → HP) (Q : QT) (E : ET) : Exit → Tau → Heap → Prop := (xthen (uv1_3_M nx4 Q E) (uv1_q5 nx4 Q E))

@[reducible] noncomputable def uv1_p10 : Code := sA uv1_p8

def uv1_5 (nx4 : Int → HP) (Q : QT) (E : ET) (x0 : OA) (x3 : Int) (x4 : Int) (x5 : Bool) (H : Heap) : Prop :=
 sel (!x5)
 (uv1_3 nx4 Q E x0 x3 true H)
 (uv1_3 nx4 Q E x0 x3 ((x4 : Int) != 124) H)

def uv1_5_M (nx4 : Int → HP) (Q : QT) (E : ET) (τ : Tau) (H : Heap) : Prop := mP (τ 0) fun x0 => mI .i64 (τ 3) fun x3 => mI .u8 (τ 4) fun x4 => mB (τ 5) fun x5 => uv1_5 nx4 Q E x0 x3 x4 x5 H

theorem uv1_6ok (nx4 : Int → HP) (Q : QT) (E : ET) (τ : Tau) (H : Heap) (h : uv1_5_M nx4 Q E τ H) : vc Pr uv1_p10 τ (uv1_q6 nx4 Q E) E H :=
  vP (i := 0) h (fun x0 h => vI (i := 3) h (fun x3 h => vI (i := 4) h (fun x4 h => vB (i := 5) h (fun x5 h => (conv (by kernel_rfl) h)))))

theorem uv1_7ok (nx4 : Int → HP) (Q : QT) (E : ET) (τ : Tau) (H : Heap) (h : uv1_5_M nx4 Q E τ H) : vc Pr uv1_p8 τ (uv1_q5 nx4 Q E) E H :=
  (conv (B := vc Pr uv1_p8 τ (uv1_q5 nx4 Q E) E H) (by kernel_rfl) (vc_seq (K := (uv1_3_M nx4 Q E)) (uv1_6ok nx4 Q E τ H h) (uv1_4ok nx4 Q E)))

@[reducible] noncomputable def uv1_q7 (nx4 : Int → HP) (Q : QT) (E : ET) : Exit → Tau → Heap → Prop := (xthen (uv1_5_M nx4 Q E) (uv1_q5 nx4 Q E))

@[reducible] noncomputable def uv1_p11 : Code := sA uv1_p7

def uv1_8 (nx4 : Int → HP) (Q : QT) (E : ET) (x0 : OA) (x3 : Int) (H : Heap) : Prop :=
 Does Pr 94 #[(.pointer x0)] H (fun v23 H24 =>
 ∃ n25 : Int, ∃ b26 : Bool, v23 = (.tuple #[(.int .u8 n25), (.bool b26)]) ∧ uv1_5 nx4 Q E x0 x3 n25 b26 H24) E

def uv1_8_M (nx4 : Int → HP) (Q : QT) (E : ET) (τ : Tau) (H : Heap) : Prop := mP (τ 0) fun x0 => mI .i64 (τ 3) fun x3 => uv1_8 nx4 Q E x0 x3 H

theorem uv1_9ok (nx4 : Int → HP) (Q : QT) (E : ET) (τ : Tau) (H : Heap) (h : uv1_8_M nx4 Q E τ H) : vc Pr uv1_p11 τ (uv1_q7 nx4 Q E) E H :=
  vP (i := 0) h (fun x0 h => vI (i := 3) h (fun x3 h => (conv (by kernel_rfl) h)))

theorem uv1_10ok (nx4 : Int → HP) (Q : QT) (E : ET) (τ : Tau) (H : Heap) (h : uv1_8_M nx4 Q E τ H) : vc Pr uv1_p7 τ (uv1_q5 nx4 Q E) E H :=
  (conv (B := vc Pr uv1_p7 τ (uv1_q5 nx4 Q E) E H) (by kernel_rfl) (vc_seq (K := (uv1_5_M nx4 Q E)) (uv1_9ok nx4 Q E τ H h) (uv1_7ok nx4 Q E)))

theorem uv1_11ok (nx4 : Int → HP) (Q : QT) (E : ET) (τ : Tau) (H : Heap) (h : uv1_8_M nx4 Q E τ H) : vc Pr uv1_p5 τ (uv1_q4 nx4 Q E) E H :=
  (conv (B := vc Pr uv1_p5 τ (uv1_q4 nx4 Q E) E H) (by kernel_rfl) (vc_seq (K := (uv1_1_M nx4 Q E)) (uv1_10ok nx4 Q E τ H h) (uv1_2ok nx4 Q E)))

theorem uv1_12ok (nx4 : Int → HP) (Q : QT) (E : ET) (τ : Tau) (H : Heap) (h : uv1_8_M nx4 Q E τ H) : vc Pr uv1_p4 τ (uv1_q3 nx4 Q E) E H :=
  (conv (B := vc Pr uv1_p4 τ (uv1_q3 nx4 Q E) E H) (by kernel_rfl) (uv1_11ok nx4 Q E τ H h))

def uv1_13 (Q : QT) (E : ET) (x0 : OA) (x3 : Int) (H : Heap) : Prop :=
 ∃ (I : Int → HP) (μ : Int → Heap → Nat), I x3 H ∧ ∀ (x3 : Int) (H : Heap), I x3 H →
 uv1_8 (fun x3' H1 => I x3' H1 ∧ μ x3' H1 < μ x3 H) Q E x0 x3 H

def uv1_13_M (Q : QT) (E : ET) (τ : Tau) (H : Heap) : Prop := mP (τ 0) fun x0 => mI .i64 (τ 3) fun x3 => uv1_13 Q E x0 x3 H

theorem uv1_14ok (Q : QT) (E : ET) (τ : Tau) (H : Heap) (h : uv1_13_M Q E τ H) : vc Pr uv1_p3 τ (uv1_q2 Q E) E H :=
  vP (i := 0) h (fun x0 h => vI (i := 3) h (fun x3 h => match h with | ⟨I, μ, h0, hr⟩ => (conv (B := vc Pr uv1_p3 (Tau.upd (Tau.upd τ 0 (.pointer x0)) 3 (.int .i64 x3)) (uv1_q2 Q E) E H) (by kernel_rfl) (vc_loop (c := sI uv1_p3) (τ := (Tau.upd (Tau.upd τ 0 (.pointer x0)) 3 (.int .i64 x3))) [0] (fun τ H => mI .i64 (τ 3) fun x3' => I x3' H) (fun τ H => μ (gI (τ 3)) H) (by kernel_rfl) h0 (fun τ1 H1 hf hI => fix_elim (τ := τ1) (i := 0) (v := (.pointer x0)) (G := fun τ => vc Pr (sI uv1_p3) τ (xthen (fun τ2 H2 => (mI .i64 (τ2 3) fun x3' => I x3' H2) ∧ μ (gI (τ2 3)) H2 < μ (gI (τ 3)) H1) (uv1_q2 Q E)) E H1) (hf 0 (by simp)) (mI_elim (i := 3) (G := fun τ => vc Pr (sI uv1_p3) τ (xthen (fun τ2 H2 => (mI .i64 (τ2 3) fun x3' => I x3' H2) ∧ μ (gI (τ2 3)) H2 < μ (gI (τ 3)) H1) (uv1_q2 Q E)) E H1) hI (fun x3r h => (conv (B := vc Pr (sI uv1_p3) (Tau.upd (Tau.upd τ1 0 (.pointer x0)) 3 (.int .i64 x3r)) (xthen (fun τ2 H2 => (mI .i64 (τ2 3) fun x3' => I x3' H2) ∧ μ (gI (τ2 3)) H2 < μ (gI ((Tau.upd (Tau.upd τ1 0 (.pointer x0)) 3 (.int .i64 x3r)) 3)) H1) (uv1_q2 Q E)) E H1) (by kernel_rfl) (vc_xthen (uv1_12ok (fun x3' H2 => I x3' H2 ∧ μ x3' H2 < μ x3r H1) Q E (Tau.upd (Tau.upd τ1 0 (.pointer x0)) 3 (.int .i64 x3r)) H1 (conv (B := uv1_8_M (fun x3' H2 => I x3' H2 ∧ μ x3' H2 < μ x3r H1) Q E (Tau.upd (Tau.upd τ1 0 (.pointer x0)) 3 (.int .i64 x3r)) H1) (by kernel_rfl) (hr x3r H1 h))) (fun τ2 H2 hk => mI_elim (i := 3) (G := fun τ => (mI .i64 (τ 3) fun x3' => I x3' H2) ∧ μ (gI (τ 3)) H2 < μ x3r H1) hk (fun x3' h => h)))))))))))

theorem uv1_15ok (Q : QT) (E : ET) (τ : Tau) (H : Heap) (h : uv1_13_M Q E τ H) : vc Pr uv1_p2 τ (uv1_q1 Q E) E H :=
  (conv (B := vc Pr uv1_p2 τ (uv1_q1 Q E) E H) (by kernel_rfl) (uv1_14ok Q E τ H h))

@[reducible] noncomputable def uv1_q8 (Q : QT) (E : ET) : Exit → Tau → Heap → Prop := (xthen (uv1_13_M Q E) (uv1_q1 Q E))

@[reducible] noncomputable def uv1_p12 : Code := sA uv1_p1

def uv1_16 (Q : QT) (E : ET) (x0 : OA) (H : Heap) : Prop :=
 Does Pr 93 #[(.pointer x0)] H (fun v27 H28 =>
 ∃ n29 : Int, v27 = (.int .i64 n29) ∧ uv1_13 Q E x0 n29 H28) E

def uv1_16_M (Q : QT) (E : ET) (τ : Tau) (H : Heap) : Prop := mP (τ 0) fun x0 => uv1_16 Q E x0 H

theorem uv1_17ok (Q : QT) (E : ET) (τ : Tau) (H : Heap) (h : uv1_16_M Q E τ H) : vc Pr uv1_p12 τ (uv1_q8 Q E) E H :=
  vP (i := 0) h (fun x0 h => (conv (by kernel_rfl) h))

theorem uv1_18ok (Q : QT) (E : ET) (τ : Tau) (H : Heap) (h : uv1_16_M Q E τ H) : vc Pr uv1_p1 τ (uv1_q1 Q E) E H :=
  (conv (B := vc Pr uv1_p1 τ (uv1_q1 Q E) E H) (by kernel_rfl) (vc_seq (K := (uv1_13_M Q E)) (uv1_17ok Q E τ H h) (uv1_15ok Q E)))

@[reducible] noncomputable def uv1_q9 (Q : QT) (E : ET) : Exit → Tau → Heap → Prop := (xthen (uv1_16_M Q E) (uv1_q1 Q E))

@[reducible] noncomputable def uv1_p13 : Code := sA uv1_p0

def uv1 (Q : QT) (E : ET) (a0 : OA) (H : Heap) : Prop :=
 uv1_16 Q E a0 H

theorem uv1_fn (a0 : OA) (Q : QT) (E : ET) (H : Heap) (h : uv1 Q E a0 H)   : Does Pr 60 #[(.pointer a0)] H Q E :=
  Fn_of_vc (fn := Try.f60) (c := uv1_p0) (args := [(.pointer a0)]) mixed (by kernel_rfl) (by kernel_rfl) (by kernel_rfl) (by kernel_rfl) (by kernel_rfl) ((conv (B := vc Pr uv1_p0 (argT [(.pointer a0)]) (uv1_q1 Q E) E H) (by kernel_rfl) (vc_seq (K := (uv1_16_M Q E)) (conv (B := vc Pr uv1_p13 (argT [(.pointer a0)]) (uv1_q9 Q E) E H) (by kernel_rfl) h) (uv1_18ok Q E))))

/-! jobmux/regex.Kids -/
@[reducible] noncomputable def uw1_q1 (Q : QT) (E : ET) : Exit → Tau → Heap → Prop := (retQ Pr (Try.f74).results.toList Q)

@[reducible] noncomputable def uw1_p0 : Code := bodyOf Try.f74

@[reducible] noncomputable def uw1_p1 : Code := sB uw1_p0

@[reducible] noncomputable def uw1_p2 : Code := sB uw1_p1

def uw1_1 (Q : QT) (E : ET)  (H : Heap) : Prop :=
 Q (.int .i64 (-1)) H

def uw1_1_M (Q : QT) (E : ET) (τ : Tau) (H : Heap) : Prop := uw1_1 Q E  H

theorem uw1_2ok (Q : QT) (E : ET) (τ : Tau) (H : Heap) (h : uw1_1_M Q E τ H) : vc Pr uw1_p2 τ (uw1_q1 Q E) E H :=
  (conv (B := vc Pr uw1_p2 τ (uw1_q1 Q E) E H) (by kernel_rfl) h)

@[reducible] noncomputable def uw1_q2 (Q : QT) (E : ET) : Exit → Tau → Heap → Prop := (xthen (uw1_1_M Q E) (uw1_q1 Q E))

@[reducible] noncomputable def uw1_p3 : Code := sA uw1_p1

@[reducible] noncomputable def uw1_p4 : Code := sB uw1_p3

@[reducible] noncomputable def uw1_q3 (Q : QT) (E : ET) : Exit → Tau → Heap → Prop := (xblock 0 (uw1_q2 Q E))

@[reducible] noncomputable def uw1_p5 : Code := sI uw1_p4

@[reducible] noncomputable def uw1_p6 : Code := sB uw1_p5

@[reducible] noncomputable def uw1_p7 : Code := sT uw1_p6

def uw1_3 (Q : QT) (E : ET)  (H : Heap) : Prop :=
 Q (.int .i64 0) H

def uw1_3_M (Q : QT) (E : ET) (τ : Tau) (H : Heap) : Prop := uw1_3 Q E  H

theorem uw1_4ok (Q : QT) (E : ET) (τ : Tau) (H : Heap) (h : uw1_3_M Q E τ H) : vc Pr uw1_p7 τ (uw1_q3 Q E) E H :=
  (conv (B := vc Pr uw1_p7 τ (uw1_q3 Q E) E H) (by kernel_rfl) h)

@[reducible] noncomputable def uw1_p8 : Code := sE uw1_p6

@[reducible] noncomputable def uw1_p9 : Code := sB uw1_p8

@[reducible] noncomputable def uw1_p10 : Code := sT uw1_p9

def uw1_5 (Q : QT) (E : ET)  (H : Heap) : Prop :=
 Q (.int .i64 1) H

def uw1_5_M (Q : QT) (E : ET) (τ : Tau) (H : Heap) : Prop := uw1_5 Q E  H

theorem uw1_6ok (Q : QT) (E : ET) (τ : Tau) (H : Heap) (h : uw1_5_M Q E τ H) : vc Pr uw1_p10 τ (uw1_q3 Q E) E H :=
  (conv (B := vc Pr uw1_p10 τ (uw1_q3 Q E) E H) (by kernel_rfl) h)

@[reducible] noncomputable def uw1_p11 : Code := sE uw1_p9

@[reducible] noncomputable def uw1_p12 : Code := sB uw1_p11

def uw1_7 (Q : QT) (E : ET) (x13 : Bool) (H : Heap) : Prop :=
 sel x13
 (Q (.int .i64 2) H)
 (uw1_1 Q E  H)

def uw1_7_M (Q : QT) (E : ET) (τ : Tau) (H : Heap) : Prop := mB (τ 13) fun x13 => uw1_7 Q E x13 H

theorem uw1_8ok (Q : QT) (E : ET) (τ : Tau) (H : Heap) (h : uw1_7_M Q E τ H) : vc Pr uw1_p12 τ (uw1_q3 Q E) E H :=
  vB (i := 13) h (fun x13 h => (conv (by kernel_rfl) h))

@[reducible] noncomputable def uw1_q4 (Q : QT) (E : ET) : Exit → Tau → Heap → Prop := (xthen (uw1_7_M Q E) (uw1_q3 Q E))

@[reducible] noncomputable def uw1_p13 : Code := sA uw1_p11

def uw1_9 (Q : QT) (E : ET) (x3 : Int) (H : Heap) : Prop :=
 sel ((x3 : Int) == 3)
 (uw1_7 Q E ((x3 : Int) == 3) H)
 (uw1_7 Q E ((x3 : Int) == 4) H)

def uw1_9_M (Q : QT) (E : ET) (τ : Tau) (H : Heap) : Prop := mI .i64 (τ 3) fun x3 => uw1_9 Q E x3 H

theorem uw1_10ok (Q : QT) (E : ET) (τ : Tau) (H : Heap) (h : uw1_9_M Q E τ H) : vc Pr uw1_p13 τ (uw1_q4 Q E) E H :=
  vI (i := 3) h (fun x3 h => (conv (by kernel_rfl) h))

theorem uw1_11ok (Q : QT) (E : ET) (τ : Tau) (H : Heap) (h : uw1_9_M Q E τ H) : vc Pr uw1_p11 τ (uw1_q3 Q E) E H :=
  (conv (B := vc Pr uw1_p11 τ (uw1_q3 Q E) E H) (by kernel_rfl) (vc_seq (K := (uw1_7_M Q E)) (uw1_10ok Q E τ H h) (uw1_8ok Q E)))

def uw1_12 (Q : QT) (E : ET) (x3 : Int) (x9 : Bool) (H : Heap) : Prop :=
 sel x9
 (uw1_5 Q E  H)
 (uw1_9 Q E x3 H)

def uw1_12_M (Q : QT) (E : ET) (τ : Tau) (H : Heap) : Prop := mI .i64 (τ 3) fun x3 => mB (τ 9) fun x9 => uw1_12 Q E x3 x9 H

theorem uw1_13ok (Q : QT) (E : ET) (τ : Tau) (H : Heap) (h : uw1_12_M Q E τ H) : vc Pr uw1_p9 τ (uw1_q3 Q E) E H :=
  vI (i := 3) h (fun x3 h => vB (i := 9) h (fun x9 h => (conv (B := vc Pr uw1_p9 (Tau.upd (Tau.upd τ 3 (.int .i64 x3)) 9 (.bool x9)) (uw1_q3 Q E) E H) (by kernel_rfl) (sel_map (uw1_6ok Q E (Tau.upd (Tau.upd τ 3 (.int .i64 x3)) 9 (.bool x9)) H) (uw1_11ok Q E (Tau.upd (Tau.upd τ 3 (.int .i64 x3)) 9 (.bool x9)) H) (conv (B := sel x9 (uw1_5_M Q E (Tau.upd (Tau.upd τ 3 (.int .i64 x3)) 9 (.bool x9)) H) (uw1_9_M Q E (Tau.upd (Tau.upd τ 3 (.int .i64 x3)) 9 (.bool x9)) H)) (by kernel_rfl) h)))))

@[reducible] noncomputable def uw1_q5 (Q : QT) (E : ET) : Exit → Tau → Heap → Prop := (xthen (uw1_12_M Q E) (uw1_q3 Q E))

@[reducible] noncomputable def uw1_p14 : Code := sA uw1_p8

def uw1_14 (Q : QT) (E : ET) (x3 : Int) (H : Heap) : Prop :=
 sel ((x3 : Int) == 5)
 (uw1_12 Q E x3 ((x3 : Int) == 5) H)
 (sel ((x3 : Int) == 6)
 (uw1_12 Q E x3 ((x3 : Int) == 6) H)
 (uw1_12 Q E x3 ((x3 : Int) == 7) H))

def uw1_14_M (Q : QT) (E : ET) (τ : Tau) (H : Heap) : Prop := mI .i64 (τ 3) fun x3 => uw1_14 Q E x3 H

theorem uw1_15ok (Q : QT) (E : ET) (τ : Tau) (H : Heap) (h : uw1_14_M Q E τ H) : vc Pr uw1_p14 τ (uw1_q5 Q E) E H :=
  vI (i := 3) h (fun x3 h => (conv (by kernel_rfl) h))

theorem uw1_16ok (Q : QT) (E : ET) (τ : Tau) (H : Heap) (h : uw1_14_M Q E τ H) : vc Pr uw1_p8 τ (uw1_q3 Q E) E H :=
  (conv (B := vc Pr uw1_p8 τ (uw1_q3 Q E) E H) (by kernel_rfl) (vc_seq (K := (uw1_12_M Q E)) (uw1_15ok Q E τ H h) (uw1_13ok Q E)))

def uw1_17 (Q : QT) (E : ET) (x3 : Int) (x4 : Bool) (H : Heap) : Prop :=
 sel x4
 (uw1_3 Q E  H)
 (uw1_14 Q E x3 H)

def uw1_17_M (Q : QT) (E : ET) (τ : Tau) (H : Heap) : Prop := mI .i64 (τ 3) fun x3 => mB (τ 4) fun x4 => uw1_17 Q E x3 x4 H

theorem uw1_18ok (Q : QT) (E : ET) (τ : Tau) (H : Heap) (h : uw1_17_M Q E τ H) : vc Pr uw1_p6 τ (uw1_q3 Q E) E H :=
  vI (i := 3) h (fun x3 h => vB (i := 4) h (fun x4 h => (conv (B := vc Pr uw1_p6 (Tau.upd (Tau.upd τ 3 (.int .i64 x3)) 4 (.bool x4)) (uw1_q3 Q E) E H) (by kernel_rfl) (sel_map (uw1_4ok Q E (Tau.upd (Tau.upd τ 3 (.int .i64 x3)) 4 (.bool x4)) H) (uw1_16ok Q E (Tau.upd (Tau.upd τ 3 (.int .i64 x3)) 4 (.bool x4)) H) (conv (B := sel x4 (uw1_3_M Q E (Tau.upd (Tau.upd τ 3 (.int .i64 x3)) 4 (.bool x4)) H) (uw1_14_M Q E (Tau.upd (Tau.upd τ 3 (.int .i64 x3)) 4 (.bool x4)) H)) (by kernel_rfl) h)))))

@[reducible] noncomputable def uw1_q6 (Q : QT) (E : ET) : Exit → Tau → Heap → Prop := (xthen (uw1_17_M Q E) (uw1_q3 Q E))

@[reducible] noncomputable def uw1_p15 : Code := sA uw1_p5

def uw1_19 (Q : QT) (E : ET) (x3 : Int) (H : Heap) : Prop :=
 sel ((x3 : Int) == 1)
 (uw1_17 Q E x3 ((x3 : Int) == 1) H)
 (sel ((x3 : Int) == 2)
 (uw1_17 Q E x3 ((x3 : Int) == 2) H)
 (sel ((x3 : Int) == 8)
 (uw1_17 Q E x3 ((x3 : Int) == 8) H)
 (uw1_17 Q E x3 ((x3 : Int) == 9) H)))

def uw1_19_M (Q : QT) (E : ET) (τ : Tau) (H : Heap) : Prop := mI .i64 (τ 3) fun x3 => uw1_19 Q E x3 H

theorem uw1_20ok (Q : QT) (E : ET) (τ : Tau) (H : Heap) (h : uw1_19_M Q E τ H) : vc Pr uw1_p15 τ (uw1_q6 Q E) E H :=
  vI (i := 3) h (fun x3 h => (conv (by kernel_rfl) h))

theorem uw1_21ok (Q : QT) (E : ET) (τ : Tau) (H : Heap) (h : uw1_19_M Q E τ H) : vc Pr uw1_p5 τ (uw1_q3 Q E) E H :=
  (conv (B := vc Pr uw1_p5 τ (uw1_q3 Q E) E H) (by kernel_rfl) (vc_seq (K := (uw1_17_M Q E)) (uw1_20ok Q E τ H h) (uw1_18ok Q E)))

theorem uw1_22ok (Q : QT) (E : ET) (τ : Tau) (H : Heap) (h : uw1_19_M Q E τ H) : vc Pr uw1_p4 τ (uw1_q2 Q E) E H :=
  (conv (B := vc Pr uw1_p4 τ (uw1_q2 Q E) E H) (by kernel_rfl) (uw1_21ok Q E τ H h))

@[reducible] noncomputable def uw1_q7 (Q : QT) (E : ET) : Exit → Tau → Heap → Prop := (xthen (uw1_19_M Q E) (uw1_q2 Q E))

@[reducible] noncomputable def uw1_p16 : Code := sA uw1_p3

def uw1_23 (Q : QT) (E : ET) (x0 : Int) (H : Heap) : Prop :=
 uw1_19 Q E x0 H

def uw1_23_M (Q : QT) (E : ET) (τ : Tau) (H : Heap) : Prop := mI .i64 (τ 0) fun x0 => uw1_23 Q E x0 H

theorem uw1_24ok (Q : QT) (E : ET) (τ : Tau) (H : Heap) (h : uw1_23_M Q E τ H) : vc Pr uw1_p16 τ (uw1_q7 Q E) E H :=
  vI (i := 0) h (fun x0 h => (conv (by kernel_rfl) h))

theorem uw1_25ok (Q : QT) (E : ET) (τ : Tau) (H : Heap) (h : uw1_23_M Q E τ H) : vc Pr uw1_p3 τ (uw1_q2 Q E) E H :=
  (conv (B := vc Pr uw1_p3 τ (uw1_q2 Q E) E H) (by kernel_rfl) (vc_seq (K := (uw1_19_M Q E)) (uw1_24ok Q E τ H h) (uw1_22ok Q E)))

theorem uw1_26ok (Q : QT) (E : ET) (τ : Tau) (H : Heap) (h : uw1_23_M Q E τ H) : vc Pr uw1_p1 τ (uw1_q1 Q E) E H :=
  (conv (B := vc Pr uw1_p1 τ (uw1_q1 Q E) E H) (by kernel_rfl) (vc_seq (K := (uw1_1_M Q E)) (uw1_25ok Q E τ H h) (uw1_2ok Q E)))

@[reducible] noncomputable def uw1_q8 (Q : QT) (E : ET) : Exit → Tau → Heap → Prop := (xthen (uw1_23_M Q E) (uw1_q1 Q E))

@[reducible] noncomputable def uw1_p17 : Code := sA uw1_p0

def uw1 (Q : QT) (E : ET) (a0 : Int) (H : Heap) : Prop :=
 uw1_23 Q E a0 H

theorem uw1_fn (a0 : Int) (Q : QT) (E : ET) (H : Heap) (h : uw1 Q E a0 H)   : Does Pr 74 #[(.int .i64 a0)] H Q E :=
  Fn_of_vc (fn := Try.f74) (c := uw1_p0) (args := [(.int .i64 a0)]) mixed (by kernel_rfl) (by kernel_rfl) (by kernel_rfl) (by kernel_rfl) (by kernel_rfl) ((conv (B := vc Pr uw1_p0 (argT [(.int .i64 a0)]) (uw1_q1 Q E) E H) (by kernel_rfl) (vc_seq (K := (uw1_23_M Q E)) (conv (B := vc Pr uw1_p17 (argT [(.int .i64 a0)]) (uw1_q8 Q E) E H) (by kernel_rfl) h) (uw1_26ok Q E))))

/-! (*jobmux/regex.parser).alternative -/
@[reducible] noncomputable def ux1_q1 (Q : QT) (E : ET) : Exit → Tau → Heap → Prop := (retQ Pr (Try.f93).results.toList Q)

@[reducible] noncomputable def ux1_p0 : Code := bodyOf Try.f93

@[reducible] noncomputable def ux1_p1 : Code := sB ux1_p0

@[reducible] noncomputable def ux1_p2 : Code := sB ux1_p1

@[reducible] noncomputable def ux1_p3 : Code := sB ux1_p2

@[reducible] noncomputable def ux1_p4 : Code := sB ux1_p3

def ux1_1 (Q : QT) (E : ET) (x3 : Int) (H : Heap) : Prop :=
 Q (.int .i64 x3) H

def ux1_1_M (Q : QT) (E : ET) (τ : Tau) (H : Heap) : Prop := mI .i64 (τ 3) fun x3 => ux1_1 Q E x3 H

theorem ux1_2ok (Q : QT) (E : ET) (τ : Tau) (H : Heap) (h : ux1_1_M Q E τ H) : vc Pr ux1_p4 τ (ux1_q1 Q E) E H :=
  vI (i := 3) h (fun x3 h => (conv (by kernel_rfl) h))

@[reducible] noncomputable def ux1_q2 (Q : QT) (E : ET) : Exit → Tau → Heap → Prop := (xthen (ux1_1_M Q E) (ux1_q1 Q E))

@[reducible] noncomputable def ux1_p5 : Code := sA ux1_p3

def ux1_3 (Q : QT) (E : ET) (x0 : OA) (x3 : Int) (H : Heap) : Prop :=
 sel (decide ((x3 : Int) < 0))
 (Does Pr 95 #[(.pointer x0), (.agg #[(.int .i64 1), (.int .i64 0), (.int .i64 0), (.int .u64 0), (.int .u64 0), (.int .u64 0), (.int .u64 0)])] H (fun v19 H20 =>
 ∃ n21 : Int, v19 = (.int .i64 n21) ∧ Q (.int .i64 n21) H20) E)
 (ux1_1 Q E x3 H)

def ux1_3_M (Q : QT) (E : ET) (τ : Tau) (H : Heap) : Prop := mP (τ 0) fun x0 => mI .i64 (τ 3) fun x3 => ux1_3 Q E x0 x3 H

theorem ux1_4ok (Q : QT) (E : ET) (τ : Tau) (H : Heap) (h : ux1_3_M Q E τ H) : vc Pr ux1_p5 τ (ux1_q2 Q E) E H :=
  vP (i := 0) h (fun x0 h => vI (i := 3) h (fun x3 h => (conv (by kernel_rfl) h)))

theorem ux1_5ok (Q : QT) (E : ET) (τ : Tau) (H : Heap) (h : ux1_3_M Q E τ H) : vc Pr ux1_p3 τ (ux1_q1 Q E) E H :=
  (conv (B := vc Pr ux1_p3 τ (ux1_q1 Q E) E H) (by kernel_rfl) (vc_seq (K := (ux1_1_M Q E)) (ux1_4ok Q E τ H h) (ux1_2ok Q E)))

@[reducible] noncomputable def ux1_q3 (Q : QT) (E : ET) : Exit → Tau → Heap → Prop := (xthen (ux1_3_M Q E) (ux1_q1 Q E))

@[reducible] noncomputable def ux1_p6 : Code := sA ux1_p2

@[reducible] noncomputable def ux1_q4 (Q : QT) (E : ET) : Exit → Tau → Heap → Prop := (xblock 0 (ux1_q3 Q E))

@[reducible] noncomputable def ux1_p7 : Code := sI ux1_p6

@[reducible] noncomputable def ux1_q5 (nx22 : Int → HP) (Q : QT) (E : ET) : Exit → Tau → Heap → Prop := (xthen (fun τ H => mI .i64 (τ 3) fun x3' => nx22 x3' H) (ux1_q4 Q E))

@[reducible] noncomputable def ux1_p8 : Code := sI ux1_p7

@[reducible] noncomputable def ux1_q6 (nx22 : Int → HP) (Q : QT) (E : ET) : Exit → Tau → Heap → Prop := (xblock 1 (ux1_q5 nx22 Q E))

@[reducible] noncomputable def ux1_p9 : Code := sI ux1_p8

@[reducible] noncomputable def ux1_p10 : Code := sB ux1_p9

@[reducible] noncomputable def ux1_p11 : Code := sB ux1_p10

@[reducible] noncomputable def ux1_p12 : Code := sB ux1_p11

@[reducible] noncomputable def ux1_p13 : Code := sB ux1_p12

@[reducible] noncomputable def ux1_p14 : Code := sB ux1_p13

def ux1_6 (nx22 : Int → HP) (Q : QT) (E : ET) (x0 : OA) (x6 : Int) (H : Heap) : Prop :=
 nx22 x6 H

def ux1_6_M (nx22 : Int → HP) (Q : QT) (E : ET) (τ : Tau) (H : Heap) : Prop := mP (τ 0) fun x0 => mI .i64 (τ 6) fun x6 => ux1_6 nx22 Q E x0 x6 H

theorem ux1_7ok (nx22 : Int → HP) (Q : QT) (E : ET) (τ : Tau) (H : Heap) (h : ux1_6_M nx22 Q E τ H) : vc Pr ux1_p14 τ (ux1_q6 nx22 Q E) E H :=
  vP (i := 0) h (fun x0 h => vI (i := 6) h (fun x6 h => (conv (by kernel_rfl) h)))

@[reducible] noncomputable def ux1_q7 (nx22 : Int → HP) (Q : QT) (E : ET) : Exit → Tau → Heap → Prop := (xthen (ux1_6_M nx22 Q E) (ux1_q6 nx22 Q E))

@[reducible] noncomputable def ux1_p15 : Code := sA ux1_p13

def ux1_8 (nx22 : Int → HP) (Q : QT) (E : ET) (x0 : OA) (x3 : Int) (x6 : Int) (H : Heap) : Prop :=
 sel (decide ((x3 : Int) ≥ 0))
 (Does Pr 95 #[(.pointer x0), (.agg #[(.int .i64 3), (.int .i64 x3), (.int .i64 x6), (.int .u64 0), (.int .u64 0), (.int .u64 0), (.int .u64 0)])] H (fun v38 H39 =>
 ∃ n40 : Int, v38 = (.int .i64 n40) ∧ ux1_6 nx22 Q E x0 n40 H39) E)
 (ux1_6 nx22 Q E x0 x6 H)

def ux1_8_M (nx22 : Int → HP) (Q : QT) (E : ET) (τ : Tau) (H : Heap) : Prop := mP (τ 0) fun x0 => mI .i64 (τ 3) fun x3 => mI .i64 (τ 6) fun x6 => ux1_8 nx22 Q E x0 x3 x6 H

theorem ux1_9ok (nx22 : Int → HP) (Q : QT) (E : ET) (τ : Tau) (H : Heap) (h : ux1_8_M nx22 Q E τ H) : vc Pr ux1_p15 τ (ux1_q7 nx22 Q E) E H :=
  vP (i := 0) h (fun x0 h => vI (i := 3) h (fun x3 h => vI (i := 6) h (fun x6 h => (conv (by kernel_rfl) h))))

theorem ux1_10ok (nx22 : Int → HP) (Q : QT) (E : ET) (τ : Tau) (H : Heap) (h : ux1_8_M nx22 Q E τ H) : vc Pr ux1_p13 τ (ux1_q6 nx22 Q E) E H :=
  (conv (B := vc Pr ux1_p13 τ (ux1_q6 nx22 Q E) E H) (by kernel_rfl) (vc_seq (K := (ux1_6_M nx22 Q E)) (ux1_9ok nx22 Q E τ H h) (ux1_7ok nx22 Q E)))

@[reducible] noncomputable def ux1_q8 (nx22 : Int → HP) (Q : QT) (E : ET) : Exit → Tau → Heap → Prop := (xthen (ux1_8_M nx22 Q E) (ux1_q6 nx22 Q E))

@[reducible] noncomputable def ux1_p16 : Code := sA ux1_p12

def ux1_11 (nx22 : Int → HP) (Q : QT) (E : ET) (x0 : OA) (x3 : Int) (x4 : Int) (H : Heap) : Prop :=
 Does Pr 104 #[(.pointer x0), (.int .u8 x4)] H (fun v41 H42 =>
 ∃ n43 : Int, v41 = (.int .i64 n43) ∧ ux1_8 nx22 Q E x0 x3 n43 H42) E

def ux1_11_M (nx22 : Int → HP) (Q : QT) (E : ET) (τ : Tau) (H : Heap) : Prop := mP (τ 0) fun x0 => mI .i64 (τ 3) fun x3 => mI .u8 (τ 4) fun x4 => ux1_11 nx22 Q E x0 x3 x4 H

theorem ux1_12ok (nx22 : Int → HP) (Q : QT) (E : ET) (τ : Tau) (H : Heap) (h : ux1_11_M nx22 Q E τ H) : vc Pr ux1_p16 τ (ux1_q8 nx22 Q E) E H :=
  vP (i := 0) h (fun x0 h => vI (i := 3) h (fun x3 h => vI (i := 4) h (fun x4 h => (conv (by kernel_rfl) h))))

theorem ux1_13ok (nx22 : Int → HP) (Q : QT) (E : ET) (τ : Tau) (H : Heap) (h : ux1_11_M nx22 Q E τ H) : vc Pr ux1_p12 τ (ux1_q6 nx22 Q E) E H :=
  (conv (B := vc Pr ux1_p12 τ (ux1_q6 nx22 Q E) E H) (by kernel_rfl) (vc_seq (K := (ux1_8_M nx22 Q E)) (ux1_12ok nx22 Q E τ H h) (ux1_10ok nx22 Q E)))

@[reducible] noncomputable def ux1_q9 (nx22 : Int → HP) (Q : QT) (E : ET) : Exit → Tau → Heap → Prop := (xthen (ux1_11_M nx22 Q E) (ux1_q6 nx22 Q E))

@[reducible] noncomputable def ux1_p17 : Code := sA ux1_p11

@[reducible] noncomputable def ux1_p18 : Code := sB ux1_p17

def ux1_14 (nx22 : Int → HP) (Q : QT) (E : ET) (x0 : OA) (x3 : Int) (x4 : Int) (x35 : Bool) (H : Heap) : Prop :=
 sel x35
 (ux1_3 Q E x0 x3 H)
 (ux1_11 nx22 Q E x0 x3 x4 H)

def ux1_14_M (nx22 : Int → HP) (Q : QT) (E : ET) (τ : Tau) (H : Heap) : Prop := mP (τ 0) fun x0 => mI .i64 (τ 3) fun x3 => mI .u8 (τ 4) fun x4 => mB (τ 35) fun x35 => ux1_14 nx22 Q E x0 x3 x4 x35 H

theorem ux1_15ok (nx22 : Int → HP) (Q : QT) (E : ET) (τ : Tau) (H : Heap) (h : ux1_14_M nx22 Q E τ H) : vc Pr ux1_p18 τ (ux1_q9 nx22 Q E) E H :=
  vP (i := 0) h (fun x0 h => vI (i := 3) h (fun x3 h => vI (i := 4) h (fun x4 h => vB (i := 35) h (fun x35 h => (conv (by kernel_rfl) h)))))

@[reducible] noncomputable def ux1_q10 (nx22 : Int → HP) (Q : QT) (E : ET) : Exit → Tau → Heap → Prop := (xthen (ux1_14_M nx22 Q E) (ux1_q9 nx22 Q E))

@[reducible] noncomputable def ux1_p19 : Code := sA ux1_p17

def ux1_16 (nx22 : Int → HP) (Q : QT) (E : ET) (x0 : OA) (x3 : Int) (x4 : Int) (x5 : Bool) (H : Heap) : Prop :=
 sel (!x5)
 (ux1_14 nx22 Q E x0 x3 x4 true H)
 (sel ((x4 : Int) == 124)
 (ux1_14 nx22 Q E x0 x3 x4 true H)
 (ux1_14 nx22 Q E x0 x3 x4 ((x4 : Int) == 41) H))

def ux1_16_M (nx22 : Int → HP) (Q : QT) (E : ET) (τ : Tau) (H : Heap) : Prop := mP (τ 0) fun x0 => mI .i64 (τ 3) fun x3 => mI .u8 (τ 4) fun x4 => mB (τ 5) fun x5 => ux1_16 nx22 Q E x0 x3 x4 x5 H

theorem ux1_17ok (nx22 : Int → HP) (Q : QT) (E : ET) (τ : Tau) (H : Heap) (h : ux1_16_M nx22 Q E τ H) : vc Pr ux1_p19 τ (ux1_q10 nx22 Q E) E H :=
  vP (i := 0) h (fun x0 h => vI (i := 3) h (fun x3 h => vI (i := 4) h (fun x4 h => vB (i := 5) h (fun x5 h => (conv (by kernel_rfl) h)))))

theorem ux1_18ok (nx22 : Int → HP) (Q : QT) (E : ET) (τ : Tau) (H : Heap) (h : ux1_16_M nx22 Q E τ H) : vc Pr ux1_p17 τ (ux1_q9 nx22 Q E) E H :=
  (conv (B := vc Pr ux1_p17 τ (ux1_q9 nx22 Q E) E H) (by kernel_rfl) (vc_seq (K := (ux1_14_M nx22 Q E)) (ux1_17ok nx22 Q E τ H h) (ux1_15ok nx22 Q E)))

theorem ux1_19ok (nx22 : Int → HP) (Q : QT) (E : ET) (τ : Tau) (H : Heap) (h : ux1_16_M nx22 Q E τ H) : vc Pr ux1_p11 τ (ux1_q6 nx22 Q E) E H :=
  (conv (B := vc Pr ux1_p11 τ (ux1_q6 nx22 Q E) E H) (by kernel_rfl) (vc_seq (K := (ux1_11_M nx22 Q E)) (ux1_18ok nx22 Q E τ H h) (ux1_13ok nx22 Q E)))

@[reducible] noncomputable def ux1_q11 (nx22 : Int → HP) (Q : QT) (E : ET) : Exit → Tau → Heap → Prop := (xthen (ux1_16_M nx22 Q E) (ux1_q6 nx22 Q E))

@[reducible] noncomputable def ux1_p20 : Code := sA ux1_p10

@[reducible] noncomputable def ux1_p21 : Code := sB ux1_p20

def ux1_20 (nx22 : Int → HP) (Q : QT) (E : ET) (x0 : OA) (x3 : Int) (x4 : Int) (x5 : Bool) (x23 : Bool) (H : Heap) : Prop :=
 sel x23
 (Does Pr 103 #[(.pointer x0), (.int .i64 83)] H (fun v46 H47 =>
 ∃ n48 : Int, v46 = (.int .i64 n48) ∧ ux1_16 nx22 Q E x0 x3 x4 x5 H47) E)
 (ux1_16 nx22 Q E x0 x3 x4 x5 H)

def ux1_20_M (nx22 : Int → HP) (Q : QT) (E : ET) (τ : Tau) (H : Heap) : Prop := mP (τ 0) fun x0 => mI .i64 (τ 3) fun x3 => mI .u8 (τ 4) fun x4 => mB (τ 5) fun x5 => mB (τ 23) fun x23 => ux1_20 nx22 Q E x0 x3 x4 x5 x23 H

theorem ux1_21ok (nx22 : Int → HP) (Q : QT) (E : ET) (τ : Tau) (H : Heap) (h : ux1_20_M nx22 Q E τ H) : vc Pr ux1_p21 τ (ux1_q11 nx22 Q E) E H :=
  vP (i := 0) h (fun x0 h => vI (i := 3) h (fun x3 h => vI (i := 4) h (fun x4 h => vB (i := 5) h (fun x5 h => vB (i := 23) h (fun x23 h => (conv (by kernel_rfl) h))))))

@[reducible] noncomputable def ux1_q12 (nx22 : Int → HP) (Q : QT) (E : ET) : Exit → Tau → Heap → Prop := (xthen (ux1_20_M nx22 Q E) (ux1_q11 nx22 Q E))

@[reducible] noncomputable def ux1_p22 : Code := sA ux1_p20

def ux1_22 (nx22 : Int → HP) (Q : QT) (E : ET) (x0 : OA) (x3 : Int) (x4 : Int) (x5 : Bool) (H : Heap) : Prop :=
 sel x5
 (sel ((x4 : Int) == 41)
 (ptr x0 fun q49 =>
 ldI .i64 (Addr.add q49 2) H fun n50 =>
 ux1_20 nx22 Q E x0 x3 x4 x5 ((n50 : Int) == 0) H)
 (ux1_20 nx22 Q E x0 x3 x4 x5 false H))
 (ux1_20 nx22 Q E x0 x3 x4 x5 false H)

def ux1_22_M (nx22 : Int → HP) (Q : QT) (E : ET) (τ : Tau) (H : Heap) : Prop := mP (τ 0) fun x0 => mI .i64 (τ 3) fun x3 => mI .u8 (τ 4) fun x4 => mB (τ 5) fun x5 => ux1_22 nx22 Q E x0 x3 x4 x5 H

theorem ux1_23ok (nx22 : Int → HP) (Q : QT) (E : ET) (τ : Tau) (H : Heap) (h : ux1_22_M nx22 Q E τ H) : vc Pr ux1_p22 τ (ux1_q12 nx22 Q E) E H :=
  vP (i := 0) h (fun x0 h => vI (i := 3) h (fun x3 h => vI (i := 4) h (fun x4 h => vB (i := 5) h (fun x5 h => (conv (by kernel_rfl) h)))))

theorem ux1_24ok (nx22 : Int → HP) (Q : QT) (E : ET) (τ : Tau) (H : Heap) (h : ux1_22_M nx22 Q E τ H) : vc Pr ux1_p20 τ (ux1_q11 nx22 Q E) E H :=
  (conv (B := vc Pr ux1_p20 τ (ux1_q11 nx22 Q E) E H) (by kernel_rfl) (vc_seq (K := (ux1_20_M nx22 Q E)) (ux1_23ok nx22 Q E τ H h) (ux1_21ok nx22 Q E)))

theorem ux1_25ok (nx22 : Int → HP) (Q : QT) (E : ET) (τ : Tau) (H : Heap) (h : ux1_22_M nx22 Q E τ H) : vc Pr ux1_p10 τ (ux1_q6 nx22 Q E) E H :=
  (conv (B := vc Pr ux1_p10 τ (ux1_q6 nx22 Q E) E H) (by kernel_rfl) (vc_seq (K := (ux1_16_M nx22 Q E)) (ux1_24ok nx22 Q E τ H h) (ux1_19ok nx22 Q E)))

@[reducible] noncomputable def ux1_q13 (nx22 : Int → HP) (Q : QT) (E : ET) : Exit → Tau → Heap → Prop := (xthen (ux1_22_M nx22 Q E) (ux1_q6 nx22 Q E))

@[reducible] noncomputable def ux1_p23 : Code := sA ux1_p9

def ux1_26 (nx22 : Int → HP) (Q : QT) (E : ET) (x0 : OA) (x3 : Int) (H : Heap) : Prop :=
 Does Pr 94 #[(.pointer x0)] H (fun v51 H52 =>
 ∃ n53 : Int, ∃ b54 : Bool, v51 = (.tuple #[(.int .u8 n53), (.bool b54)]) ∧ ux1_22 nx22 Q E x0 x3 n53 b54 H52) E

def ux1_26_M (nx22 : Int → HP) (Q : QT) (E : ET) (τ : Tau) (H : Heap) : Prop := mP (τ 0) fun x0 => mI .i64 (τ 3) fun x3 => ux1_26 nx22 Q E x0 x3 H

theorem ux1_27ok (nx22 : Int → HP) (Q : QT) (E : ET) (τ : Tau) (H : Heap) (h : ux1_26_M nx22 Q E τ H) : vc Pr ux1_p23 τ (ux1_q13 nx22 Q E) E H :=
  vP (i := 0) h (fun x0 h => vI (i := 3) h (fun x3 h => (conv (by kernel_rfl) h)))

theorem ux1_28ok (nx22 : Int → HP) (Q : QT) (E : ET) (τ : Tau) (H : Heap) (h : ux1_26_M nx22 Q E τ H) : vc Pr ux1_p9 τ (ux1_q6 nx22 Q E) E H :=
  (conv (B := vc Pr ux1_p9 τ (ux1_q6 nx22 Q E) E H) (by kernel_rfl) (vc_seq (K := (ux1_22_M nx22 Q E)) (ux1_27ok nx22 Q E τ H h) (ux1_25ok nx22 Q E)))

theorem ux1_29ok (nx22 : Int → HP) (Q : QT) (E : ET) (τ : Tau) (H : Heap) (h : ux1_26_M nx22 Q E τ H) : vc Pr ux1_p8 τ (ux1_q5 nx22 Q E) E H :=
  (conv (B := vc Pr ux1_p8 τ (ux1_q5 nx22 Q E) E H) (by kernel_rfl) (ux1_28ok nx22 Q E τ H h))

def ux1_30 (Q : QT) (E : ET) (x0 : OA) (x3 : Int) (H : Heap) : Prop :=
 ∃ (I : Int → HP) (μ : Int → Heap → Nat), I x3 H ∧ ∀ (x3 : Int) (H : Heap), I x3 H →
 ux1_26 (fun x3' H1 => I x3' H1 ∧ μ x3' H1 < μ x3 H) Q E x0 x3 H

def ux1_30_M (Q : QT) (E : ET) (τ : Tau) (H : Heap) : Prop := mP (τ 0) fun x0 => mI .i64 (τ 3) fun x3 => ux1_30 Q E x0 x3 H

theorem ux1_31ok (Q : QT) (E : ET) (τ : Tau) (H : Heap) (h : ux1_30_M Q E τ H) : vc Pr ux1_p7 τ (ux1_q4 Q E) E H :=
  vP (i := 0) h (fun x0 h => vI (i := 3) h (fun x3 h => match h with | ⟨I, μ, h0, hr⟩ => (conv (B := vc Pr ux1_p7 (Tau.upd (Tau.upd τ 0 (.pointer x0)) 3 (.int .i64 x3)) (ux1_q4 Q E) E H) (by kernel_rfl) (vc_loop (c := sI ux1_p7) (τ := (Tau.upd (Tau.upd τ 0 (.pointer x0)) 3 (.int .i64 x3))) [0] (fun τ H => mI .i64 (τ 3) fun x3' => I x3' H) (fun τ H => μ (gI (τ 3)) H) (by kernel_rfl) h0 (fun τ1 H1 hf hI => fix_elim (τ := τ1) (i := 0) (v := (.pointer x0)) (G := fun τ => vc Pr (sI ux1_p7) τ (xthen (fun τ2 H2 => (mI .i64 (τ2 3) fun x3' => I x3' H2) ∧ μ (gI (τ2 3)) H2 < μ (gI (τ 3)) H1) (ux1_q4 Q E)) E H1) (hf 0 (by simp)) (mI_elim (i := 3) (G := fun τ => vc Pr (sI ux1_p7) τ (xthen (fun τ2 H2 => (mI .i64 (τ2 3) fun x3' => I x3' H2) ∧ μ (gI (τ2 3)) H2 < μ (gI (τ 3)) H1) (ux1_q4 Q E)) E H1) hI (fun x3r h => (conv (B := vc Pr (sI ux1_p7) (Tau.upd (Tau.upd τ1 0 (.pointer x0)) 3 (.int .i64 x3r)) (xthen (fun τ2 H2 => (mI .i64 (τ2 3) fun x3' => I x3' H2) ∧ μ (gI (τ2 3)) H2 < μ (gI ((Tau.upd (Tau.upd τ1 0 (.pointer x0)) 3 (.int .i64 x3r)) 3)) H1) (ux1_q4 Q E)) E H1) (by kernel_rfl) (vc_xthen (ux1_29ok (fun x3' H2 => I x3' H2 ∧ μ x3' H2 < μ x3r H1) Q E (Tau.upd (Tau.upd τ1 0 (.pointer x0)) 3 (.int .i64 x3r)) H1 (conv (B := ux1_26_M (fun x3' H2 => I x3' H2 ∧ μ x3' H2 < μ x3r H1) Q E (Tau.upd (Tau.upd τ1 0 (.pointer x0)) 3 (.int .i64 x3r)) H1) (by kernel_rfl) (hr x3r H1 h))) (fun τ2 H2 hk => mI_elim (i := 3) (G := fun τ => (mI .i64 (τ 3) fun x3' => I x3' H2) ∧ μ (gI (τ 3)) H2 < μ x3r H1) hk (fun x3' h => h)))))))))))

theorem ux1_32ok (Q : QT) (E : ET) (τ : Tau) (H : Heap) (h : ux1_30_M Q E τ H) : vc Pr ux1_p6 τ (ux1_q3 Q E) E H :=
  (conv (B := vc Pr ux1_p6 τ (ux1_q3 Q E) E H) (by kernel_rfl) (ux1_31ok Q E τ H h))

theorem ux1_33ok (Q : QT) (E : ET) (τ : Tau) (H : Heap) (h : ux1_30_M Q E τ H) : vc Pr ux1_p2 τ (ux1_q1 Q E) E H :=
  (conv (B := vc Pr ux1_p2 τ (ux1_q1 Q E) E H) (by kernel_rfl) (vc_seq (K := (ux1_3_M Q E)) (ux1_32ok Q E τ H h) (ux1_5ok Q E)))

@[reducible] noncomputable def ux1_q14 (Q : QT) (E : ET) : Exit → Tau → Heap → Prop := (xthen (ux1_30_M Q E) (ux1_q1 Q E))

@[reducible] noncomputable def ux1_p24 : Code := sA ux1_p1

def ux1_34 (Q : QT) (E : ET) (x0 : OA) (H : Heap) : Prop :=
 ux1_30 Q E x0 (-1) H

def ux1_34_M (Q : QT) (E : ET) (τ : Tau) (H : Heap) : Prop := mP (τ 0) fun x0 => ux1_34 Q E x0 H

theorem ux1_35ok (Q : QT) (E : ET) (τ : Tau) (H : Heap) (h : ux1_34_M Q E τ H) : vc Pr ux1_p24 τ (ux1_q14 Q E) E H :=
  vP (i := 0) h (fun x0 h => (conv (by kernel_rfl) h))

theorem ux1_36ok (Q : QT) (E : ET) (τ : Tau) (H : Heap) (h : ux1_34_M Q E τ H) : vc Pr ux1_p1 τ (ux1_q1 Q E) E H :=
  (conv (B := vc Pr ux1_p1 τ (ux1_q1 Q E) E H) (by kernel_rfl) (vc_seq (K := (ux1_30_M Q E)) (ux1_35ok Q E τ H h) (ux1_33ok Q E)))

@[reducible] noncomputable def ux1_q15 (Q : QT) (E : ET) : Exit → Tau → Heap → Prop := (xthen (ux1_34_M Q E) (ux1_q1 Q E))

@[reducible] noncomputable def ux1_p25 : Code := sA ux1_p0

def ux1 (Q : QT) (E : ET) (a0 : OA) (H : Heap) : Prop :=
 ux1_34 Q E a0 H

theorem ux1_fn (a0 : OA) (Q : QT) (E : ET) (H : Heap) (h : ux1 Q E a0 H)   : Does Pr 93 #[(.pointer a0)] H Q E :=
  Fn_of_vc (fn := Try.f93) (c := ux1_p0) (args := [(.pointer a0)]) mixed (by kernel_rfl) (by kernel_rfl) (by kernel_rfl) (by kernel_rfl) (by kernel_rfl) ((conv (B := vc Pr ux1_p0 (argT [(.pointer a0)]) (ux1_q1 Q E) E H) (by kernel_rfl) (vc_seq (K := (ux1_34_M Q E)) (conv (B := vc Pr ux1_p25 (argT [(.pointer a0)]) (ux1_q15 Q E) E H) (by kernel_rfl) h) (ux1_36ok Q E))))

/-! (*jobmux/regex.parser).next -/
@[reducible] noncomputable def uy1_q1 (Q : QT) (E : ET) : Exit → Tau → Heap → Prop := (retQ Pr (Try.f94).results.toList Q)

@[reducible] noncomputable def uy1_p0 : Code := bodyOf Try.f94

@[reducible] noncomputable def uy1_p1 : Code := sB uy1_p0

@[reducible] noncomputable def uy1_p2 : Code := sB uy1_p1

def uy1_1 (Q : QT) (E : ET) (x0 : OA) (H : Heap) : Prop :=
 ptr x0 fun q7 =>
 ldS q7 H fun s8 =>
 ptr x0 fun q9 =>
 ldI .i64 (Addr.add q9 1) H fun n10 =>
 (0 ≤ (n10 : Int) ∧ (n10 : Int) < ((ByteArray.size s8 : Nat) : Int)) ∧ Q (.tuple #[(.int .u8 (sAt s8 n10)), (.bool true)]) H

def uy1_1_M (Q : QT) (E : ET) (τ : Tau) (H : Heap) : Prop := mP (τ 0) fun x0 => uy1_1 Q E x0 H

theorem uy1_2ok (Q : QT) (E : ET) (τ : Tau) (H : Heap) (h : uy1_1_M Q E τ H) : vc Pr uy1_p2 τ (uy1_q1 Q E) E H :=
  vP (i := 0) h (fun x0 h => (conv (by kernel_rfl) h))

@[reducible] noncomputable def uy1_q2 (Q : QT) (E : ET) : Exit → Tau → Heap → Prop := (xthen (uy1_1_M Q E) (uy1_q1 Q E))

@[reducible] noncomputable def uy1_p3 : Code := sA uy1_p1

@[reducible] noncomputable def uy1_p4 : Code := sB uy1_p3

def uy1_3 (Q : QT) (E : ET) (x0 : OA) (x20 : Bool) (H : Heap) : Prop :=
 sel x20
 (Q (.tuple #[(.int .u8 0), (.bool false)]) H)
 (uy1_1 Q E x0 H)

def uy1_3_M (Q : QT) (E : ET) (τ : Tau) (H : Heap) : Prop := mP (τ 0) fun x0 => mB (τ 20) fun x20 => uy1_3 Q E x0 x20 H

theorem uy1_4ok (Q : QT) (E : ET) (τ : Tau) (H : Heap) (h : uy1_3_M Q E τ H) : vc Pr uy1_p4 τ (uy1_q2 Q E) E H :=
  vP (i := 0) h (fun x0 h => vB (i := 20) h (fun x20 h => (conv (by kernel_rfl) h)))

@[reducible] noncomputable def uy1_q3 (Q : QT) (E : ET) : Exit → Tau → Heap → Prop := (xthen (uy1_3_M Q E) (uy1_q2 Q E))

@[reducible] noncomputable def uy1_p5 : Code := sA uy1_p3

def uy1_5 (Q : QT) (E : ET) (x0 : OA) (H : Heap) : Prop :=
 ptr x0 fun q17 =>
 ldI .i64 (Addr.add q17 4) H fun n18 =>
 sel ((n18 : Int) != 0)
 (uy1_3 Q E x0 true H)
 (ptr x0 fun q19 =>
 ldI .i64 (Addr.add q19 1) H fun n20 =>
 ptr x0 fun q21 =>
 ldS q21 H fun s22 =>
 uy1_3 Q E x0 (decide ((n20 : Int) ≥ ((ByteArray.size s22 : Nat) : Int))) H)

def uy1_5_M (Q : QT) (E : ET) (τ : Tau) (H : Heap) : Prop := mP (τ 0) fun x0 => uy1_5 Q E x0 H

theorem uy1_6ok (Q : QT) (E : ET) (τ : Tau) (H : Heap) (h : uy1_5_M Q E τ H) : vc Pr uy1_p5 τ (uy1_q3 Q E) E H :=
  vP (i := 0) h (fun x0 h => (conv (by kernel_rfl) h))

theorem uy1_7ok (Q : QT) (E : ET) (τ : Tau) (H : Heap) (h : uy1_5_M Q E τ H) : vc Pr uy1_p3 τ (uy1_q2 Q E) E H :=
  (conv (B := vc Pr uy1_p3 τ (uy1_q2 Q E) E H) (by kernel_rfl) (vc_seq (K := (uy1_3_M Q E)) (uy1_6ok Q E τ H h) (uy1_4ok Q E)))

theorem uy1_8ok (Q : QT) (E : ET) (τ : Tau) (H : Heap) (h : uy1_5_M Q E τ H) : vc Pr uy1_p1 τ (uy1_q1 Q E) E H :=
  (conv (B := vc Pr uy1_p1 τ (uy1_q1 Q E) E H) (by kernel_rfl) (vc_seq (K := (uy1_1_M Q E)) (uy1_7ok Q E τ H h) (uy1_2ok Q E)))

@[reducible] noncomputable def uy1_q4 (Q : QT) (E : ET) : Exit → Tau → Heap → Prop := (xthen (uy1_5_M Q E) (uy1_q1 Q E))

@[reducible] noncomputable def uy1_p6 : Code := sA uy1_p0

def uy1 (Q : QT) (E : ET) (a0 : OA) (H : Heap) : Prop :=
 uy1_5 Q E a0 H

theorem uy1_fn (a0 : OA) (Q : QT) (E : ET) (H : Heap) (h : uy1 Q E a0 H)   : Does Pr 94 #[(.pointer a0)] H Q E :=
  Fn_of_vc (fn := Try.f94) (c := uy1_p0) (args := [(.pointer a0)]) mixed (by kernel_rfl) (by kernel_rfl) (by kernel_rfl) (by kernel_rfl) (by kernel_rfl) ((conv (B := vc Pr uy1_p0 (argT [(.pointer a0)]) (uy1_q1 Q E) E H) (by kernel_rfl) (vc_seq (K := (uy1_5_M Q E)) (conv (B := vc Pr uy1_p6 (argT [(.pointer a0)]) (uy1_q4 Q E) E H) (by kernel_rfl) h) (uy1_8ok Q E))))

/-! (*jobmux/regex.parser).put -/
@[reducible] noncomputable def uz1_q1 (Q : QT) (E : ET) : Exit → Tau → Heap → Prop := (retQ Pr (Try.f95).results.toList Q)

@[reducible] noncomputable def uz1_p0 : Code := bodyOf Try.f95

def uz1 (Q : QT) (E : ET) (a0 : OA) (a1_0 : Int) (a1_1 : Int) (a1_2 : Int) (a1_3 : Int) (a1_4 : Int) (a1_5 : Int) (a1_6 : Int) (H : Heap) : Prop :=
 nw (.cells #[(.int .i64 a1_0), (.int .i64 a1_1), (.int .i64 a1_2), (.int .u64 a1_3), (.int .u64 a1_4), (.int .u64 a1_5), (.int .u64 a1_6)] 48 (0, 0)) H fun i1 H2 =>
 ptr a0 fun q3 =>
 ldSl (Addr.add q3 3) H2 fun p4 l5 c6 =>
 ∃ n7 n8 n9 n10 n11 n12 n13 : Int, Heap.rd H2 ⟨i1, 0, none⟩ 0 [(.int .i64 n7), (.int .i64 n8), (.int .i64 n9), (.int .u64 n10), (.int .u64 n11), (.int .u64 n12), (.int .u64 n13)] ∧ nw (.cells #[(.int .i64 n7), (.int .i64 n8), (.int .i64 n9), (.int .u64 n10), (.int .u64 n11), (.int .u64 n12), (.int .u64 n13)] 48 (0, 0)) H2 fun i14 H15 =>
 app Pr 23 p4 l5 c6 (.slice (some ⟨i14, 0, none⟩) 1 1) H15 fun p16 l17 c18 H19 =>
 ptr a0 fun q20 =>
 wr (Addr.add q20 3) [(.slice p16 l17 c18)] H19 fun H21 =>
 ptr a0 fun q22 =>
 ldSl (Addr.add q22 3) H21 fun p23 l24 c25 =>
 Q (.int .i64 (IntKind.wrap .i64 (((l24 : Nat) : Int) - 1))) H21

theorem uz1_fn (a0 : OA) (a1_0 : Int) (a1_1 : Int) (a1_2 : Int) (a1_3 : Int) (a1_4 : Int) (a1_5 : Int) (a1_6 : Int) (Q : QT) (E : ET) (H : Heap) (h : uz1 Q E a0 a1_0 a1_1 a1_2 a1_3 a1_4 a1_5 a1_6 H)   : Does Pr 95 #[(.pointer a0), (.agg #[(.int .i64 a1_0), (.int .i64 a1_1), (.int .i64 a1_2), (.int .u64 a1_3), (.int .u64 a1_4), (.int .u64 a1_5), (.int .u64 a1_6)])] H Q E :=
  Fn_of_vc (fn := Try.f95) (c := uz1_p0) (args := [(.pointer a0), (.agg #[(.int .i64 a1_0), (.int .i64 a1_1), (.int .i64 a1_2), (.int .u64 a1_3), (.int .u64 a1_4), (.int .u64 a1_5), (.int .u64 a1_6)])]) mixed (by kernel_rfl) (by kernel_rfl) (by kernel_rfl) (by kernel_rfl) (by kernel_rfl) ((conv (B := vc Pr uz1_p0 (argT [(.pointer a0), (.agg #[(.int .i64 a1_0), (.int .i64 a1_1), (.int .i64 a1_2), (.int .u64 a1_3), (.int .u64 a1_4), (.int .u64 a1_5), (.int .u64 a1_6)])]) (uz1_q1 Q E) E H) (by kernel_rfl) h))

/-! (*jobmux/regex.parser).fail -/
@[reducible] noncomputable def ua2_q1 (Q : QT) (E : ET) : Exit → Tau → Heap → Prop := (retQ Pr (Try.f103).results.toList Q)

@[reducible] noncomputable def ua2_p0 : Code := bodyOf Try.f103

@[reducible] noncomputable def ua2_p1 : Code := sB ua2_p0

@[reducible] noncomputable def ua2_p2 : Code := sB ua2_p1

def ua2_1 (Q : QT) (E : ET) (x0 : OA) (H : Heap) : Prop :=
 ptr x0 fun q5 =>
 ldI .i64 (Addr.add q5 4) H fun n6 =>
 Q (.int .i64 n6) H

def ua2_1_M (Q : QT) (E : ET) (τ : Tau) (H : Heap) : Prop := mP (τ 0) fun x0 => ua2_1 Q E x0 H

theorem ua2_2ok (Q : QT) (E : ET) (τ : Tau) (H : Heap) (h : ua2_1_M Q E τ H) : vc Pr ua2_p2 τ (ua2_q1 Q E) E H :=
  vP (i := 0) h (fun x0 h => (conv (by kernel_rfl) h))

@[reducible] noncomputable def ua2_q2 (Q : QT) (E : ET) : Exit → Tau → Heap → Prop := (xthen (ua2_1_M Q E) (ua2_q1 Q E))

@[reducible] noncomputable def ua2_p3 : Code := sA ua2_p1

def ua2_3 (Q : QT) (E : ET) (x0 : OA) (x1 : Int) (H : Heap) : Prop :=
 ptr x0 fun q7 =>
 ldI .i64 (Addr.add q7 4) H fun n8 =>
 sel ((n8 : Int) == 0)
 (ptr x0 fun q9 =>
 wr (Addr.add q9 4) [(.int .i64 x1)] H fun H10 =>
 ua2_1 Q E x0 H10)
 (ua2_1 Q E x0 H)

def ua2_3_M (Q : QT) (E : ET) (τ : Tau) (H : Heap) : Prop := mP (τ 0) fun x0 => mI .i64 (τ 1) fun x1 => ua2_3 Q E x0 x1 H

theorem ua2_4ok (Q : QT) (E : ET) (τ : Tau) (H : Heap) (h : ua2_3_M Q E τ H) : vc Pr ua2_p3 τ (ua2_q2 Q E) E H :=
  vP (i := 0) h (fun x0 h => vI (i := 1) h (fun x1 h => (conv (by kernel_rfl) h)))

theorem ua2_5ok (Q : QT) (E : ET) (τ : Tau) (H : Heap) (h : ua2_3_M Q E τ H) : vc Pr ua2_p1 τ (ua2_q1 Q E) E H :=
  (conv (B := vc Pr ua2_p1 τ (ua2_q1 Q E) E H) (by kernel_rfl) (vc_seq (K := (ua2_1_M Q E)) (ua2_4ok Q E τ H h) (ua2_2ok Q E)))

@[reducible] noncomputable def ua2_q3 (Q : QT) (E : ET) : Exit → Tau → Heap → Prop := (xthen (ua2_3_M Q E) (ua2_q1 Q E))

@[reducible] noncomputable def ua2_p4 : Code := sA ua2_p0

def ua2 (Q : QT) (E : ET) (a0 : OA) (a1 : Int) (H : Heap) : Prop :=
 ua2_3 Q E a0 a1 H

theorem ua2_fn (a0 : OA) (a1 : Int) (Q : QT) (E : ET) (H : Heap) (h : ua2 Q E a0 a1 H)   : Does Pr 103 #[(.pointer a0), (.int .i64 a1)] H Q E :=
  Fn_of_vc (fn := Try.f103) (c := ua2_p0) (args := [(.pointer a0), (.int .i64 a1)]) mixed (by kernel_rfl) (by kernel_rfl) (by kernel_rfl) (by kernel_rfl) (by kernel_rfl) ((conv (B := vc Pr ua2_p0 (argT [(.pointer a0), (.int .i64 a1)]) (ua2_q1 Q E) E H) (by kernel_rfl) (vc_seq (K := (ua2_3_M Q E)) (conv (B := vc Pr ua2_p4 (argT [(.pointer a0), (.int .i64 a1)]) (ua2_q3 Q E) E H) (by kernel_rfl) h) (ua2_5ok Q E))))

/-! (*jobmux/regex.parser).part -/
@[reducible] noncomputable def ub2_q1 (Q : QT) (E : ET) : Exit → Tau → Heap → Prop := (retQ Pr (Try.f104).results.toList Q)

@[reducible] noncomputable def ub2_p0 : Code := bodyOf Try.f104

@[reducible] noncomputable def ub2_p1 : Code := sB ub2_p0

@[reducible] noncomputable def ub2_p2 : Code := sB ub2_p1

@[reducible] noncomputable def ub2_q2 (Q : QT) (E : ET) : Exit → Tau → Heap → Prop := (xblock 0 (ub2_q1 Q E))

@[reducible] noncomputable def ub2_p3 : Code := sI ub2_p2

@[reducible] noncomputable def ub2_q3 (nx4 : Int → HP) (Q : QT) (E : ET) : Exit → Tau → Heap → Prop := (xthen (fun τ H => mI .i64 (τ 5) fun x5' => nx4 x5' H) (ub2_q2 Q E))

@[reducible] noncomputable def ub2_p4 : Code := sI ub2_p3

@[reducible] noncomputable def ub2_q4 (nx4 : Int → HP) (Q : QT) (E : ET) : Exit → Tau → Heap → Prop := (xblock 1 (ub2_q3 nx4 Q E))

@[reducible] noncomputable def ub2_p5 : Code := sI ub2_p4

@[reducible] noncomputable def ub2_p6 : Code := sB ub2_p5

@[reducible] noncomputable def ub2_p7 : Code := sB ub2_p6

def ub2_1 (nx4 : Int → HP) (Q : QT) (E : ET) (x0 : OA) (x5 : Int) (x6 : Int) (H : Heap) : Prop :=
 ptr x0 fun q9 =>
 ldI .i64 (Addr.add q9 1) H fun n10 =>
 ptr x0 fun q11 =>
 wr (Addr.add q11 1) [(.int .i64 (IntKind.wrap .i64 (n10 + 1)))] H fun H12 =>
 Does Pr 95 #[(.pointer x0), (.agg #[(.int .i64 x6), (.int .i64 x5), (.int .i64 0), (.int .u64 0), (.int .u64 0), (.int .u64 0), (.int .u64 0)])] H12 (fun v13 H14 =>
 ∃ n15 : Int, v13 = (.int .i64 n15) ∧ nx4 n15 H14) E

def ub2_1_M (nx4 : Int → HP) (Q : QT) (E : ET) (τ : Tau) (H : Heap) : Prop := mP (τ 0) fun x0 => mI .i64 (τ 5) fun x5 => mI .i64 (τ 6) fun x6 => ub2_1 nx4 Q E x0 x5 x6 H

theorem ub2_2ok (nx4 : Int → HP) (Q : QT) (E : ET) (τ : Tau) (H : Heap) (h : ub2_1_M nx4 Q E τ H) : vc Pr ub2_p7 τ (ub2_q4 nx4 Q E) E H :=
  vP (i := 0) h (fun x0 h => vI (i := 5) h (fun x5 h => vI (i := 6) h (fun x6 h => (conv (by kernel_rfl) h))))

@[reducible] noncomputable def ub2_q5 (nx4 : Int → HP) (Q : QT) (E : ET) : Exit → Tau → Heap → Prop := (xthen (ub2_1_M nx4 Q E) (ub2_q4 nx4 Q E))

@[reducible] noncomputable def ub2_p8 : Code := sA ub2_p6

def ub2_3 (nx4 : Int → HP) (Q : QT) (E : ET) (x0 : OA) (x5 : Int) (H : Heap) : Prop :=
 Does Pr 94 #[(.pointer x0)] H (fun v16 H17 =>
 ∃ n18 : Int, ∃ b19 : Bool, v16 = (.tuple #[(.int .u8 n18), (.bool b19)]) ∧ sel ((n18 : Int) == 42)
 (ub2_1 nx4 Q E x0 x5 5 H17)
 (sel ((n18 : Int) == 43)
 (ub2_1 nx4 Q E x0 x5 6 H17)
 (sel ((n18 : Int) == 63)
 (ub2_1 nx4 Q E x0 x5 7 H17)
 (Q (.int .i64 x5) H17)))) E

def ub2_3_M (nx4 : Int → HP) (Q : QT) (E : ET) (τ : Tau) (H : Heap) : Prop := mP (τ 0) fun x0 => mI .i64 (τ 5) fun x5 => ub2_3 nx4 Q E x0 x5 H

theorem ub2_4ok (nx4 : Int → HP) (Q : QT) (E : ET) (τ : Tau) (H : Heap) (h : ub2_3_M nx4 Q E τ H) : vc Pr ub2_p8 τ (ub2_q5 nx4 Q E) E H :=
  vP (i := 0) h (fun x0 h => vI (i := 5) h (fun x5 h => (conv (by kernel_rfl) h)))

theorem ub2_5ok (nx4 : Int → HP) (Q : QT) (E : ET) (τ : Tau) (H : Heap) (h : ub2_3_M nx4 Q E τ H) : vc Pr ub2_p6 τ (ub2_q4 nx4 Q E) E H :=
  (conv (B := vc Pr ub2_p6 τ (ub2_q4 nx4 Q E) E H) (by kernel_rfl) (vc_seq (K := (ub2_1_M nx4 Q E)) (ub2_4ok nx4 Q E τ H h) (ub2_2ok nx4 Q E)))

@[reducible] noncomputable def ub2_q6 (nx4 : Int → HP) (Q : QT) (E : ET) : Exit → Tau → Heap → Prop := (xthen (ub2_3_M nx4 Q E) (ub2_q4 nx4 Q E))

@[reducible] noncomputable def ub2_p9 : Code := sA ub2_p5

def ub2_6 (nx4 : Int → HP) (Q : QT) (E : ET) (x0 : OA) (x5 : Int) (H : Heap) : Prop :=
 ub2_3 nx4 Q E x0 x5 H

def ub2_6_M (nx4 : Int → HP) (Q : QT) (E : ET) (τ : Tau) (H : Heap) : Prop := mP (τ 0) fun x0 => mI .i64 (τ 5) fun x5 => ub2_6 nx4 Q E x0 x5 H

theorem ub2_7ok (nx4 : Int → HP) (Q : QT) (E : ET) (τ : Tau) (H : Heap) (h : ub2_6_M nx4 Q E τ H) : vc Pr ub2_p9 τ (ub2_q6 nx4 Q E) E H :=
  vP (i := 0) h (fun x0 h => vI (i := 5) h (fun x5 h => (conv (by kernel_rfl) h)))

theorem ub2_8ok (nx4 : Int → HP) (Q : QT) (E : ET) (τ : Tau) (H : Heap) (h : ub2_6_M nx4 Q E τ H) : vc Pr ub2_p5 τ (ub2_q4 nx4 Q E) E H :=
  (conv (B := vc Pr ub2_p5 τ (ub2_q4 nx4 Q E) E H) (by kernel_rfl) (vc_seq (K := (ub2_3_M nx4 Q E)) (ub2_7ok nx4 Q E τ H h) (ub2_5ok nx4 Q E)))

theorem ub2_9ok (nx4 : Int → HP) (Q : QT) (E : ET) (τ : Tau) (H : Heap) (h : ub2_6_M nx4 Q E τ H) : vc Pr ub2_p4 τ (ub2_q3 nx4 Q E) E H :=
  (conv (B := vc Pr ub2_p4 τ (ub2_q3 nx4 Q E) E H) (by kernel_rfl) (ub2_8ok nx4 Q E τ H h))

def ub2_10 (Q : QT) (E : ET) (x0 : OA) (x5 : Int) (H : Heap) : Prop :=
 ∃ (I : Int → HP) (μ : Int → Heap → Nat), I x5 H ∧ ∀ (x5 : Int) (H : Heap), I x5 H →
 ub2_6 (fun x5' H1 => I x5' H1 ∧ μ x5' H1 < μ x5 H) Q E x0 x5 H

def ub2_10_M (Q : QT) (E : ET) (τ : Tau) (H : Heap) : Prop := mP (τ 0) fun x0 => mI .i64 (τ 5) fun x5 => ub2_10 Q E x0 x5 H

theorem ub2_11ok (Q : QT) (E : ET) (τ : Tau) (H : Heap) (h : ub2_10_M Q E τ H) : vc Pr ub2_p3 τ (ub2_q2 Q E) E H :=
  vP (i := 0) h (fun x0 h => vI (i := 5) h (fun x5 h => match h with | ⟨I, μ, h0, hr⟩ => (conv (B := vc Pr ub2_p3 (Tau.upd (Tau.upd τ 0 (.pointer x0)) 5 (.int .i64 x5)) (ub2_q2 Q E) E H) (by kernel_rfl) (vc_loop (c := sI ub2_p3) (τ := (Tau.upd (Tau.upd τ 0 (.pointer x0)) 5 (.int .i64 x5))) [0] (fun τ H => mI .i64 (τ 5) fun x5' => I x5' H) (fun τ H => μ (gI (τ 5)) H) (by kernel_rfl) h0 (fun τ1 H1 hf hI => fix_elim (τ := τ1) (i := 0) (v := (.pointer x0)) (G := fun τ => vc Pr (sI ub2_p3) τ (xthen (fun τ2 H2 => (mI .i64 (τ2 5) fun x5' => I x5' H2) ∧ μ (gI (τ2 5)) H2 < μ (gI (τ 5)) H1) (ub2_q2 Q E)) E H1) (hf 0 (by simp)) (mI_elim (i := 5) (G := fun τ => vc Pr (sI ub2_p3) τ (xthen (fun τ2 H2 => (mI .i64 (τ2 5) fun x5' => I x5' H2) ∧ μ (gI (τ2 5)) H2 < μ (gI (τ 5)) H1) (ub2_q2 Q E)) E H1) hI (fun x5r h => (conv (B := vc Pr (sI ub2_p3) (Tau.upd (Tau.upd τ1 0 (.pointer x0)) 5 (.int .i64 x5r)) (xthen (fun τ2 H2 => (mI .i64 (τ2 5) fun x5' => I x5' H2) ∧ μ (gI (τ2 5)) H2 < μ (gI ((Tau.upd (Tau.upd τ1 0 (.pointer x0)) 5 (.int .i64 x5r)) 5)) H1) (ub2_q2 Q E)) E H1) (by kernel_rfl) (vc_xthen (ub2_9ok (fun x5' H2 => I x5' H2 ∧ μ x5' H2 < μ x5r H1) Q E (Tau.upd (Tau.upd τ1 0 (.pointer x0)) 5 (.int .i64 x5r)) H1 (conv (B := ub2_6_M (fun x5' H2 => I x5' H2 ∧ μ x5' H2 < μ x5r H1) Q E (Tau.upd (Tau.upd τ1 0 (.pointer x0)) 5 (.int .i64 x5r)) H1) (by kernel_rfl) (hr x5r H1 h))) (fun τ2 H2 hk => mI_elim (i := 5) (G := fun τ => (mI .i64 (τ 5) fun x5' => I x5' H2) ∧ μ (gI (τ 5)) H2 < μ x5r H1) hk (fun x5' h => h)))))))))))

theorem ub2_12ok (Q : QT) (E : ET) (τ : Tau) (H : Heap) (h : ub2_10_M Q E τ H) : vc Pr ub2_p2 τ (ub2_q1 Q E) E H :=
  (conv (B := vc Pr ub2_p2 τ (ub2_q1 Q E) E H) (by kernel_rfl) (ub2_11ok Q E τ H h))

@[reducible] noncomputable def ub2_q7 (Q : QT) (E : ET) : Exit → Tau → Heap → Prop := (xthen (ub2_10_M Q E) (ub2_q1 Q E))

@[reducible] noncomputable def ub2_p10 : Code := sA ub2_p1

def ub2_13 (Q : QT) (E : ET) (x0 : OA) (x1 : Int) (H : Heap) : Prop :=
 Does Pr 106 #[(.pointer x0), (.int .u8 x1)] H (fun v20 H21 =>
 ∃ n22 : Int, v20 = (.int .i64 n22) ∧ ub2_10 Q E x0 n22 H21) E

def ub2_13_M (Q : QT) (E : ET) (τ : Tau) (H : Heap) : Prop := mP (τ 0) fun x0 => mI .u8 (τ 1) fun x1 => ub2_13 Q E x0 x1 H

theorem ub2_14ok (Q : QT) (E : ET) (τ : Tau) (H : Heap) (h : ub2_13_M Q E τ H) : vc Pr ub2_p10 τ (ub2_q7 Q E) E H :=
  vP (i := 0) h (fun x0 h => vI (i := 1) h (fun x1 h => (conv (by kernel_rfl) h)))

theorem ub2_15ok (Q : QT) (E : ET) (τ : Tau) (H : Heap) (h : ub2_13_M Q E τ H) : vc Pr ub2_p1 τ (ub2_q1 Q E) E H :=
  (conv (B := vc Pr ub2_p1 τ (ub2_q1 Q E) E H) (by kernel_rfl) (vc_seq (K := (ub2_10_M Q E)) (ub2_14ok Q E τ H h) (ub2_12ok Q E)))

@[reducible] noncomputable def ub2_q8 (Q : QT) (E : ET) : Exit → Tau → Heap → Prop := (xthen (ub2_13_M Q E) (ub2_q1 Q E))

@[reducible] noncomputable def ub2_p11 : Code := sA ub2_p0

def ub2 (Q : QT) (E : ET) (a0 : OA) (a1 : Int) (H : Heap) : Prop :=
 ub2_13 Q E a0 a1 H

theorem ub2_fn (a0 : OA) (a1 : Int) (Q : QT) (E : ET) (H : Heap) (h : ub2 Q E a0 a1 H)   : Does Pr 104 #[(.pointer a0), (.int .u8 a1)] H Q E :=
  Fn_of_vc (fn := Try.f104) (c := ub2_p0) (args := [(.pointer a0), (.int .u8 a1)]) mixed (by kernel_rfl) (by kernel_rfl) (by kernel_rfl) (by kernel_rfl) (by kernel_rfl) ((conv (B := vc Pr ub2_p0 (argT [(.pointer a0), (.int .u8 a1)]) (ub2_q1 Q E) E H) (by kernel_rfl) (vc_seq (K := (ub2_13_M Q E)) (conv (B := vc Pr ub2_p11 (argT [(.pointer a0), (.int .u8 a1)]) (ub2_q8 Q E) E H) (by kernel_rfl) h) (ub2_15ok Q E))))

/-! (*jobmux/regex.parser).atom -/
@[reducible] noncomputable def uc2_q1 (Q : QT) (E : ET) : Exit → Tau → Heap → Prop := (retQ Pr (Try.f106).results.toList Q)

@[reducible] noncomputable def uc2_p0 : Code := bodyOf Try.f106

@[reducible] noncomputable def uc2_p1 : Code := sB uc2_p0

@[reducible] noncomputable def uc2_p2 : Code := sB uc2_p1

@[reducible] noncomputable def uc2_p3 : Code := sB uc2_p2

def uc2_1 (Q : QT) (E : ET)  (H : Heap) : Prop :=
 Q (.int .i64 0) H

def uc2_1_M (Q : QT) (E : ET) (τ : Tau) (H : Heap) : Prop := uc2_1 Q E  H

theorem uc2_2ok (Q : QT) (E : ET) (τ : Tau) (H : Heap) (h : uc2_1_M Q E τ H) : vc Pr uc2_p3 τ (uc2_q1 Q E) E H :=
  (conv (B := vc Pr uc2_p3 τ (uc2_q1 Q E) E H) (by kernel_rfl) h)

@[reducible] noncomputable def uc2_q2 (Q : QT) (E : ET) : Exit → Tau → Heap → Prop := (xthen (uc2_1_M Q E) (uc2_q1 Q E))

@[reducible] noncomputable def uc2_p4 : Code := sA uc2_p2

@[reducible] noncomputable def uc2_p5 : Code := sB uc2_p4

@[reducible] noncomputable def uc2_q3 (Q : QT) (E : ET) : Exit → Tau → Heap → Prop := (xblock 0 (uc2_q2 Q E))

@[reducible] noncomputable def uc2_p6 : Code := sI uc2_p5

@[reducible] noncomputable def uc2_p7 : Code := sB uc2_p6

@[reducible] noncomputable def uc2_p8 : Code := sT uc2_p7

def uc2_3 (Q : QT) (E : ET) (x0 : OA) (H : Heap) : Prop :=
 Does Pr 112 #[(.string ⟨[10].toArray⟩)] H (fun v99 H100 =>
 ∃ n101 n102 n103 n104 : Int, v99 = (.agg #[(.int .u64 n101), (.int .u64 n102), (.int .u64 n103), (.int .u64 n104)]) ∧ Does Pr 111 #[(.agg #[(.int .u64 n101), (.int .u64 n102), (.int .u64 n103), (.int .u64 n104)])] H100 (fun v105 H106 =>
 ∃ n107 n108 n109 n110 : Int, v105 = (.agg #[(.int .u64 n107), (.int .u64 n108), (.int .u64 n109), (.int .u64 n110)]) ∧ Does Pr 95 #[(.pointer x0), (.agg #[(.int .i64 2), (.int .i64 0), (.int .i64 0), (.int .u64 n107), (.int .u64 n108), (.int .u64 n109), (.int .u64 n110)])] H106 (fun v111 H112 =>
 ∃ n113 : Int, v111 = (.int .i64 n113) ∧ Q (.int .i64 n113) H112) E) E) E

def uc2_3_M (Q : QT) (E : ET) (τ : Tau) (H : Heap) : Prop := mP (τ 0) fun x0 => uc2_3 Q E x0 H

theorem uc2_4ok (Q : QT) (E : ET) (τ : Tau) (H : Heap) (h : uc2_3_M Q E τ H) : vc Pr uc2_p8 τ (uc2_q3 Q E) E H :=
  vP (i := 0) h (fun x0 h => (conv (by kernel_rfl) h))

@[reducible] noncomputable def uc2_p9 : Code := sE uc2_p7

@[reducible] noncomputable def uc2_p10 : Code := sB uc2_p9

@[reducible] noncomputable def uc2_p11 : Code := sT uc2_p10

def uc2_5 (Q : QT) (E : ET) (x0 : OA) (H : Heap) : Prop :=
 Does Pr 95 #[(.pointer x0), (.agg #[(.int .i64 8), (.int .i64 0), (.int .i64 0), (.int .u64 0), (.int .u64 0), (.int .u64 0), (.int .u64 0)])] H (fun v114 H115 =>
 ∃ n116 : Int, v114 = (.int .i64 n116) ∧ Q (.int .i64 n116) H115) E

def uc2_5_M (Q : QT) (E : ET) (τ : Tau) (H : Heap) : Prop := mP (τ 0) fun x0 => uc2_5 Q E x0 H

theorem uc2_6ok (Q : QT) (E : ET) (τ : Tau) (H : Heap) (h : uc2_5_M Q E τ H) : vc Pr uc2_p11 τ (uc2_q3 Q E) E H :=
  vP (i := 0) h (fun x0 h => (conv (by kernel_rfl) h))

@[reducible] noncomputable def uc2_p12 : Code := sE uc2_p10

@[reducible] noncomputable def uc2_p13 : Code := sB uc2_p12

@[reducible] noncomputable def uc2_p14 : Code := sT uc2_p13

def uc2_7 (Q : QT) (E : ET) (x0 : OA) (H : Heap) : Prop :=
 Does Pr 95 #[(.pointer x0), (.agg #[(.int .i64 9), (.int .i64 0), (.int .i64 0), (.int .u64 0), (.int .u64 0), (.int .u64 0), (.int .u64 0)])] H (fun v117 H118 =>
 ∃ n119 : Int, v117 = (.int .i64 n119) ∧ Q (.int .i64 n119) H118) E

def uc2_7_M (Q : QT) (E : ET) (τ : Tau) (H : Heap) : Prop := mP (τ 0) fun x0 => uc2_7 Q E x0 H

theorem uc2_8ok (Q : QT) (E : ET) (τ : Tau) (H : Heap) (h : uc2_7_M Q E τ H) : vc Pr uc2_p14 τ (uc2_q3 Q E) E H :=
  vP (i := 0) h (fun x0 h => (conv (by kernel_rfl) h))

@[reducible] noncomputable def uc2_p15 : Code := sE uc2_p13

@[reducible] noncomputable def uc2_p16 : Code := sB uc2_p15

@[reducible] noncomputable def uc2_p17 : Code := sT uc2_p16

def uc2_9 (Q : QT) (E : ET) (x0 : OA) (H : Heap) : Prop :=
 Does Pr 113 #[(.pointer x0)] H (fun v120 H121 =>
 ∃ n122 n123 n124 n125 : Int, v120 = (.agg #[(.int .u64 n122), (.int .u64 n123), (.int .u64 n124), (.int .u64 n125)]) ∧ Does Pr 95 #[(.pointer x0), (.agg #[(.int .i64 2), (.int .i64 0), (.int .i64 0), (.int .u64 n122), (.int .u64 n123), (.int .u64 n124), (.int .u64 n125)])] H121 (fun v126 H127 =>
 ∃ n128 : Int, v126 = (.int .i64 n128) ∧ Q (.int .i64 n128) H127) E) E

def uc2_9_M (Q : QT) (E : ET) (τ : Tau) (H : Heap) : Prop := mP (τ 0) fun x0 => uc2_9 Q E x0 H

theorem uc2_10ok (Q : QT) (E : ET) (τ : Tau) (H : Heap) (h : uc2_9_M Q E τ H) : vc Pr uc2_p17 τ (uc2_q3 Q E) E H :=
  vP (i := 0) h (fun x0 h => (conv (by kernel_rfl) h))

@[reducible] noncomputable def uc2_p18 : Code := sE uc2_p16

@[reducible] noncomputable def uc2_p19 : Code := sB uc2_p18

@[reducible] noncomputable def uc2_p20 : Code := sT uc2_p19

def uc2_11 (Q : QT) (E : ET) (x0 : OA) (H : Heap) : Prop :=
 Does Pr 103 #[(.pointer x0), (.int .i64 80)] H (fun v129 H130 =>
 ∃ n131 : Int, v129 = (.int .i64 n131) ∧ uc2_1 Q E  H130) E

def uc2_11_M (Q : QT) (E : ET) (τ : Tau) (H : Heap) : Prop := mP (τ 0) fun x0 => uc2_11 Q E x0 H

theorem uc2_12ok (Q : QT) (E : ET) (τ : Tau) (H : Heap) (h : uc2_11_M Q E τ H) : vc Pr uc2_p20 τ (uc2_q3 Q E) E H :=
  vP (i := 0) h (fun x0 h => (conv (by kernel_rfl) h))

@[reducible] noncomputable def uc2_p21 : Code := sE uc2_p19

@[reducible] noncomputable def uc2_p22 : Code := sB uc2_p21

@[reducible] noncomputable def uc2_p23 : Code := sT uc2_p22

def uc2_13 (Q : QT) (E : ET) (x0 : OA) (H : Heap) : Prop :=
 Does Pr 103 #[(.pointer x0), (.int .i64 81)] H (fun v132 H133 =>
 ∃ n134 : Int, v132 = (.int .i64 n134) ∧ uc2_1 Q E  H133) E

def uc2_13_M (Q : QT) (E : ET) (τ : Tau) (H : Heap) : Prop := mP (τ 0) fun x0 => uc2_13 Q E x0 H

theorem uc2_14ok (Q : QT) (E : ET) (τ : Tau) (H : Heap) (h : uc2_13_M Q E τ H) : vc Pr uc2_p23 τ (uc2_q3 Q E) E H :=
  vP (i := 0) h (fun x0 h => (conv (by kernel_rfl) h))

@[reducible] noncomputable def uc2_p24 : Code := sE uc2_p22

@[reducible] noncomputable def uc2_p25 : Code := sB uc2_p24

@[reducible] noncomputable def uc2_p26 : Code := sT uc2_p25

def uc2_15 (Q : QT) (E : ET) (x0 : OA) (H : Heap) : Prop :=
 ptr x0 fun q135 =>
 ldI .i64 (Addr.add q135 1) H fun n136 =>
 ptr x0 fun q137 =>
 wr (Addr.add q137 1) [(.int .i64 (IntKind.wrap .i64 (n136 - 1)))] H fun H138 =>
 Does Pr 114 #[(.pointer x0)] H138 (fun v139 H140 =>
 ∃ n141 n142 n143 n144 n145 : Int, ∃ b146 : Bool, v139 = (.tuple #[(.int .u8 n141), (.agg #[(.int .u64 n142), (.int .u64 n143), (.int .u64 n144), (.int .u64 n145)]), (.bool b146)]) ∧ nw (.cells #[(.int .u64 0), (.int .u64 0), (.int .u64 0), (.int .u64 0)] 46 (0, 0)) H140 fun i147 H148 =>
 wr ⟨i147, 0, none⟩ [(.int .u64 n142), (.int .u64 n143), (.int .u64 n144), (.int .u64 n145)] H148 fun H149 =>
 ∃ n150 n151 n152 n153 : Int, Heap.rd H149 ⟨i147, 0, none⟩ 0 [(.int .u64 n150), (.int .u64 n151), (.int .u64 n152), (.int .u64 n153)] ∧ Does Pr 95 #[(.pointer x0), (.agg #[(.int .i64 2), (.int .i64 0), (.int .i64 0), (.int .u64 n150), (.int .u64 n151), (.int .u64 n152), (.int .u64 n153)])] H149 (fun v154 H155 =>
 ∃ n156 : Int, v154 = (.int .i64 n156) ∧ Q (.int .i64 n156) H155) E) E

def uc2_15_M (Q : QT) (E : ET) (τ : Tau) (H : Heap) : Prop := mP (τ 0) fun x0 => uc2_15 Q E x0 H

theorem uc2_16ok (Q : QT) (E : ET) (τ : Tau) (H : Heap) (h : uc2_15_M Q E τ H) : vc Pr uc2_p26 τ (uc2_q3 Q E) E H :=
  vP (i := 0) h (fun x0 h => (conv (by kernel_rfl) h))

@[reducible] noncomputable def uc2_p27 : Code := sE uc2_p25

@[reducible] noncomputable def uc2_p28 : Code := sB uc2_p27

@[reducible] noncomputable def uc2_p29 : Code := sT uc2_p28

@[reducible] noncomputable def uc2_p30 : Code := sB uc2_p29

@[reducible] noncomputable def uc2_p31 : Code := sB uc2_p30

@[reducible] noncomputable def uc2_p32 : Code := sB uc2_p31

def uc2_17 (Q : QT) (E : ET) (x0 : OA) (x8 : Int) (H : Heap) : Prop :=
 ptr x0 fun q180 =>
 ldI .i64 (Addr.add q180 2) H fun n181 =>
 ptr x0 fun q182 =>
 wr (Addr.add q182 2) [(.int .i64 (IntKind.wrap .i64 (n181 - 1)))] H fun H183 =>
 Q (.int .i64 x8) H183

def uc2_17_M (Q : QT) (E : ET) (τ : Tau) (H : Heap) : Prop := mP (τ 0) fun x0 => mI .i64 (τ 8) fun x8 => uc2_17 Q E x0 x8 H

theorem uc2_18ok (Q : QT) (E : ET) (τ : Tau) (H : Heap) (h : uc2_17_M Q E τ H) : vc Pr uc2_p32 τ (uc2_q3 Q E) E H :=
  vP (i := 0) h (fun x0 h => vI (i := 8) h (fun x8 h => (conv (by kernel_rfl) h)))

@[reducible] noncomputable def uc2_q4 (Q : QT) (E : ET) : Exit → Tau → Heap → Prop := (xthen (uc2_17_M Q E) (uc2_q3 Q E))

@[reducible] noncomputable def uc2_p33 : Code := sA uc2_p31

@[reducible] noncomputable def uc2_p34 : Code := sB uc2_p33

@[reducible] noncomputable def uc2_p35 : Code := sB uc2_p34

def uc2_19 (Q : QT) (E : ET) (x0 : OA) (x8 : Int) (x106 : Bool) (H : Heap) : Prop :=
 sel x106
 (ptr x0 fun q188 =>
 ldI .i64 (Addr.add q188 1) H fun n189 =>
 ptr x0 fun q190 =>
 wr (Addr.add q190 1) [(.int .i64 (IntKind.wrap .i64 (n189 + 1)))] H fun H191 =>
 uc2_17 Q E x0 x8 H191)
 (Does Pr 103 #[(.pointer x0), (.int .i64 83)] H (fun v192 H193 =>
 ∃ n194 : Int, v192 = (.int .i64 n194) ∧ uc2_17 Q E x0 x8 H193) E)

def uc2_19_M (Q : QT) (E : ET) (τ : Tau) (H : Heap) : Prop := mP (τ 0) fun x0 => mI .i64 (τ 8) fun x8 => mB (τ 106) fun x106 => uc2_19 Q E x0 x8 x106 H

theorem uc2_20ok (Q : QT) (E : ET) (τ : Tau) (H : Heap) (h : uc2_19_M Q E τ H) : vc Pr uc2_p35 τ (uc2_q4 Q E) E H :=
  vP (i := 0) h (fun x0 h => vI (i := 8) h (fun x8 h => vB (i := 106) h (fun x106 h => (conv (by kernel_rfl) h))))

@[reducible] noncomputable def uc2_q5 (Q : QT) (E : ET) : Exit → Tau → Heap → Prop := (xthen (uc2_19_M Q E) (uc2_q4 Q E))

@[reducible] noncomputable def uc2_p36 : Code := sA uc2_p34

def uc2_21 (Q : QT) (E : ET) (x0 : OA) (x8 : Int) (x9 : Int) (x10 : Bool) (H : Heap) : Prop :=
 sel x10
 (uc2_19 Q E x0 x8 ((x9 : Int) == 41) H)
 (uc2_19 Q E x0 x8 false H)

def uc2_21_M (Q : QT) (E : ET) (τ : Tau) (H : Heap) : Prop := mP (τ 0) fun x0 => mI .i64 (τ 8) fun x8 => mI .u8 (τ 9) fun x9 => mB (τ 10) fun x10 => uc2_21 Q E x0 x8 x9 x10 H

theorem uc2_22ok (Q : QT) (E : ET) (τ : Tau) (H : Heap) (h : uc2_21_M Q E τ H) : vc Pr uc2_p36 τ (uc2_q5 Q E) E H :=
  vP (i := 0) h (fun x0 h => vI (i := 8) h (fun x8 h => vI (i := 9) h (fun x9 h => vB (i := 10) h (fun x10 h => (conv (by kernel_rfl) h)))))

theorem uc2_23ok (Q : QT) (E : ET) (τ : Tau) (H : Heap) (h : uc2_21_M Q E τ H) : vc Pr uc2_p34 τ (uc2_q4 Q E) E H :=
  (conv (B := vc Pr uc2_p34 τ (uc2_q4 Q E) E H) (by kernel_rfl) (vc_seq (K := (uc2_19_M Q E)) (uc2_22ok Q E τ H h) (uc2_20ok Q E)))

@[reducible] noncomputable def uc2_q6 (Q : QT) (E : ET) : Exit → Tau → Heap → Prop := (xthen (uc2_21_M Q E) (uc2_q4 Q E))

@[reducible] noncomputable def uc2_p37 : Code := sA uc2_p33

def uc2_24 (Q : QT) (E : ET) (x0 : OA) (x8 : Int) (H : Heap) : Prop :=
 Does Pr 94 #[(.pointer x0)] H (fun v195 H196 =>
 ∃ n197 : Int, ∃ b198 : Bool, v195 = (.tuple #[(.int .u8 n197), (.bool b198)]) ∧ uc2_21 Q E x0 x8 n197 b198 H196) E

def uc2_24_M (Q : QT) (E : ET) (τ : Tau) (H : Heap) : Prop := mP (τ 0) fun x0 => mI .i64 (τ 8) fun x8 => uc2_24 Q E x0 x8 H

theorem uc2_25ok (Q : QT) (E : ET) (τ : Tau) (H : Heap) (h : uc2_24_M Q E τ H) : vc Pr uc2_p37 τ (uc2_q6 Q E) E H :=
  vP (i := 0) h (fun x0 h => vI (i := 8) h (fun x8 h => (conv (by kernel_rfl) h)))

theorem uc2_26ok (Q : QT) (E : ET) (τ : Tau) (H : Heap) (h : uc2_24_M Q E τ H) : vc Pr uc2_p33 τ (uc2_q4 Q E) E H :=
  (conv (B := vc Pr uc2_p33 τ (uc2_q4 Q E) E H) (by kernel_rfl) (vc_seq (K := (uc2_21_M Q E)) (uc2_25ok Q E τ H h) (uc2_23ok Q E)))

theorem uc2_27ok (Q : QT) (E : ET) (τ : Tau) (H : Heap) (h : uc2_24_M Q E τ H) : vc Pr uc2_p31 τ (uc2_q3 Q E) E H :=
  (conv (B := vc Pr uc2_p31 τ (uc2_q3 Q E) E H) (by kernel_rfl) (vc_seq (K := (uc2_17_M Q E)) (uc2_26ok Q E τ H h) (uc2_18ok Q E)))

@[reducible] noncomputable def uc2_q7 (Q : QT) (E : ET) : Exit → Tau → Heap → Prop := (xthen (uc2_24_M Q E) (uc2_q3 Q E))

@[reducible] noncomputable def uc2_p38 : Code := sA uc2_p30

def uc2_28 (Q : QT) (E : ET) (x0 : OA) (H : Heap) : Prop :=
 Does Pr 60 #[(.pointer x0)] H (fun v199 H200 =>
 ∃ n201 : Int, v199 = (.int .i64 n201) ∧ uc2_24 Q E x0 n201 H200) E

def uc2_28_M (Q : QT) (E : ET) (τ : Tau) (H : Heap) : Prop := mP (τ 0) fun x0 => uc2_28 Q E x0 H

theorem uc2_29ok (Q : QT) (E : ET) (τ : Tau) (H : Heap) (h : uc2_28_M Q E τ H) : vc Pr uc2_p38 τ (uc2_q7 Q E) E H :=
  vP (i := 0) h (fun x0 h => (conv (by kernel_rfl) h))

theorem uc2_30ok (Q : QT) (E : ET) (τ : Tau) (H : Heap) (h : uc2_28_M Q E τ H) : vc Pr uc2_p30 τ (uc2_q3 Q E) E H :=
  (conv (B := vc Pr uc2_p30 τ (uc2_q3 Q E) E H) (by kernel_rfl) (vc_seq (K := (uc2_24_M Q E)) (uc2_29ok Q E τ H h) (uc2_27ok Q E)))

@[reducible] noncomputable def uc2_q8 (Q : QT) (E : ET) : Exit → Tau → Heap → Prop := (xthen (uc2_28_M Q E) (uc2_q3 Q E))

@[reducible] noncomputable def uc2_p39 : Code := sA uc2_p29

def uc2_31 (Q : QT) (E : ET) (x0 : OA) (H : Heap) : Prop :=
 ptr x0 fun q202 =>
 ldI .i64 (Addr.add q202 2) H fun n203 =>
 ptr x0 fun q204 =>
 wr (Addr.add q204 2) [(.int .i64 (IntKind.wrap .i64 (n203 + 1)))] H fun H205 =>
 ptr x0 fun q206 =>
 ldI .i64 (Addr.add q206 2) H205 fun n207 =>
 sel (decide ((n207 : Int) > 24))
 (Does Pr 103 #[(.pointer x0), (.int .i64 84)] H205 (fun v208 H209 =>
 ∃ n210 : Int, v208 = (.int .i64 n210) ∧ Q (.int .i64 0) H209) E)
 (uc2_28 Q E x0 H205)

def uc2_31_M (Q : QT) (E : ET) (τ : Tau) (H : Heap) : Prop := mP (τ 0) fun x0 => uc2_31 Q E x0 H

theorem uc2_32ok (Q : QT) (E : ET) (τ : Tau) (H : Heap) (h : uc2_31_M Q E τ H) : vc Pr uc2_p39 τ (uc2_q8 Q E) E H :=
  vP (i := 0) h (fun x0 h => (conv (by kernel_rfl) h))

theorem uc2_33ok (Q : QT) (E : ET) (τ : Tau) (H : Heap) (h : uc2_31_M Q E τ H) : vc Pr uc2_p29 τ (uc2_q3 Q E) E H :=
  (conv (B := vc Pr uc2_p29 τ (uc2_q3 Q E) E H) (by kernel_rfl) (vc_seq (K := (uc2_28_M Q E)) (uc2_32ok Q E τ H h) (uc2_30ok Q E)))

@[reducible] noncomputable def uc2_p40 : Code := sE uc2_p28

def uc2_34 (Q : QT) (E : ET) (x0 : OA) (x1 : Int) (H : Heap) : Prop :=
 Does Pr 115 #[(.agg #[(.int .u64 0), (.int .u64 0), (.int .u64 0), (.int .u64 0)]), (.int .u8 x1), (.int .u8 x1)] H (fun v211 H212 =>
 ∃ n213 n214 n215 n216 : Int, v211 = (.agg #[(.int .u64 n213), (.int .u64 n214), (.int .u64 n215), (.int .u64 n216)]) ∧ Does Pr 95 #[(.pointer x0), (.agg #[(.int .i64 2), (.int .i64 0), (.int .i64 0), (.int .u64 n213), (.int .u64 n214), (.int .u64 n215), (.int .u64 n216)])] H212 (fun v217 H218 =>
 ∃ n219 : Int, v217 = (.int .i64 n219) ∧ Q (.int .i64 n219) H218) E) E

def uc2_34_M (Q : QT) (E : ET) (τ : Tau) (H : Heap) : Prop := mP (τ 0) fun x0 => mI .u8 (τ 1) fun x1 => uc2_34 Q E x0 x1 H

theorem uc2_35ok (Q : QT) (E : ET) (τ : Tau) (H : Heap) (h : uc2_34_M Q E τ H) : vc Pr uc2_p40 τ (uc2_q3 Q E) E H :=
  vP (i := 0) h (fun x0 h => vI (i := 1) h (fun x1 h => (conv (by kernel_rfl) h)))

def uc2_36 (Q : QT) (E : ET) (x0 : OA) (x1 : Int) (x79 : Bool) (H : Heap) : Prop :=
 sel x79
 (uc2_31 Q E x0 H)
 (uc2_34 Q E x0 x1 H)

def uc2_36_M (Q : QT) (E : ET) (τ : Tau) (H : Heap) : Prop := mP (τ 0) fun x0 => mI .u8 (τ 1) fun x1 => mB (τ 79) fun x79 => uc2_36 Q E x0 x1 x79 H

theorem uc2_37ok (Q : QT) (E : ET) (τ : Tau) (H : Heap) (h : uc2_36_M Q E τ H) : vc Pr uc2_p28 τ (uc2_q3 Q E) E H :=
  vP (i := 0) h (fun x0 h => vI (i := 1) h (fun x1 h => vB (i := 79) h (fun x79 h => (conv (B := vc Pr uc2_p28 (Tau.upd (Tau.upd (Tau.upd τ 0 (.pointer x0)) 1 (.int .u8 x1)) 79 (.bool x79)) (uc2_q3 Q E) E H) (by kernel_rfl) (sel_map (uc2_33ok Q E (Tau.upd (Tau.upd (Tau.upd τ 0 (.pointer x0)) 1 (.int .u8 x1)) 79 (.bool x79)) H) (uc2_35ok Q E (Tau.upd (Tau.upd (Tau.upd τ 0 (.pointer x0)) 1 (.int .u8 x1)) 79 (.bool x79)) H) (conv (B := sel x79 (uc2_31_M Q E (Tau.upd (Tau.upd (Tau.upd τ 0 (.pointer x0)) 1 (.int .u8 x1)) 79 (.bool x79)) H) (uc2_34_M Q E (Tau.upd (Tau.upd (Tau.upd τ 0 (.pointer x0)) 1 (.int .u8 x1)) 79 (.bool x79)) H)) (by kernel_rfl) h))))))

@[reducible] noncomputable def uc2_q9 (Q : QT) (E : ET) : Exit → Tau → Heap → Prop := (xthen (uc2_36_M Q E) (uc2_q3 Q E))

@[reducible] noncomputable def uc2_p41 : Code := sA uc2_p27

def uc2_38 (Q : QT) (E : ET) (x0 : OA) (x1 : Int) (x18 : Int) (H : Heap) : Prop :=
 uc2_36 Q E x0 x1 ((x18 : Int) == 40) H

def uc2_38_M (Q : QT) (E : ET) (τ : Tau) (H : Heap) : Prop := mP (τ 0) fun x0 => mI .u8 (τ 1) fun x1 => mI .u8 (τ 18) fun x18 => uc2_38 Q E x0 x1 x18 H

theorem uc2_39ok (Q : QT) (E : ET) (τ : Tau) (H : Heap) (h : uc2_38_M Q E τ H) : vc Pr uc2_p41 τ (uc2_q9 Q E) E H :=
  vP (i := 0) h (fun x0 h => vI (i := 1) h (fun x1 h => vI (i := 18) h (fun x18 h => (conv (by kernel_rfl) h))))

theorem uc2_40ok (Q : QT) (E : ET) (τ : Tau) (H : Heap) (h : uc2_38_M Q E τ H) : vc Pr uc2_p27 τ (uc2_q3 Q E) E H :=
  (conv (B := vc Pr uc2_p27 τ (uc2_q3 Q E) E H) (by kernel_rfl) (vc_seq (K := (uc2_36_M Q E)) (uc2_39ok Q E τ H h) (uc2_37ok Q E)))

def uc2_41 (Q : QT) (E : ET) (x0 : OA) (x1 : Int) (x18 : Int) (x60 : Bool) (H : Heap) : Prop :=
 sel x60
 (uc2_15 Q E x0 H)
 (uc2_38 Q E x0 x1 x18 H)

def uc2_41_M (Q : QT) (E : ET) (τ : Tau) (H : Heap) : Prop := mP (τ 0) fun x0 => mI .u8 (τ 1) fun x1 => mI .u8 (τ 18) fun x18 => mB (τ 60) fun x60 => uc2_41 Q E x0 x1 x18 x60 H

theorem uc2_42ok (Q : QT) (E : ET) (τ : Tau) (H : Heap) (h : uc2_41_M Q E τ H) : vc Pr uc2_p25 τ (uc2_q3 Q E) E H :=
  vP (i := 0) h (fun x0 h => vI (i := 1) h (fun x1 h => vI (i := 18) h (fun x18 h => vB (i := 60) h (fun x60 h => (conv (B := vc Pr uc2_p25 (Tau.upd (Tau.upd (Tau.upd (Tau.upd τ 0 (.pointer x0)) 1 (.int .u8 x1)) 18 (.int .u8 x18)) 60 (.bool x60)) (uc2_q3 Q E) E H) (by kernel_rfl) (sel_map (uc2_16ok Q E (Tau.upd (Tau.upd (Tau.upd (Tau.upd τ 0 (.pointer x0)) 1 (.int .u8 x1)) 18 (.int .u8 x18)) 60 (.bool x60)) H) (uc2_40ok Q E (Tau.upd (Tau.upd (Tau.upd (Tau.upd τ 0 (.pointer x0)) 1 (.int .u8 x1)) 18 (.int .u8 x18)) 60 (.bool x60)) H) (conv (B := sel x60 (uc2_15_M Q E (Tau.upd (Tau.upd (Tau.upd (Tau.upd τ 0 (.pointer x0)) 1 (.int .u8 x1)) 18 (.int .u8 x18)) 60 (.bool x60)) H) (uc2_38_M Q E (Tau.upd (Tau.upd (Tau.upd (Tau.upd τ 0 (.pointer x0)) 1 (.int .u8 x1)) 18 (.int .u8 x18)) 60 (.bool x60)) H)) (by kernel_rfl) h)))))))

@[reducible] noncomputable def uc2_q10 (Q : QT) (E : ET) : Exit → Tau → Heap → Prop := (xthen (uc2_41_M Q E) (uc2_q3 Q E))

@[reducible] noncomputable def uc2_p42 : Code := sA uc2_p24

def uc2_43 (Q : QT) (E : ET) (x0 : OA) (x1 : Int) (x18 : Int) (H : Heap) : Prop :=
 uc2_41 Q E x0 x1 x18 ((x18 : Int) == 92) H

def uc2_43_M (Q : QT) (E : ET) (τ : Tau) (H : Heap) : Prop := mP (τ 0) fun x0 => mI .u8 (τ 1) fun x1 => mI .u8 (τ 18) fun x18 => uc2_43 Q E x0 x1 x18 H

theorem uc2_44ok (Q : QT) (E : ET) (τ : Tau) (H : Heap) (h : uc2_43_M Q E τ H) : vc Pr uc2_p42 τ (uc2_q10 Q E) E H :=
  vP (i := 0) h (fun x0 h => vI (i := 1) h (fun x1 h => vI (i := 18) h (fun x18 h => (conv (by kernel_rfl) h))))

theorem uc2_45ok (Q : QT) (E : ET) (τ : Tau) (H : Heap) (h : uc2_43_M Q E τ H) : vc Pr uc2_p24 τ (uc2_q3 Q E) E H :=
  (conv (B := vc Pr uc2_p24 τ (uc2_q3 Q E) E H) (by kernel_rfl) (vc_seq (K := (uc2_41_M Q E)) (uc2_44ok Q E τ H h) (uc2_42ok Q E)))

def uc2_46 (Q : QT) (E : ET) (x0 : OA) (x1 : Int) (x18 : Int) (x54 : Bool) (H : Heap) : Prop :=
 sel x54
 (uc2_13 Q E x0 H)
 (uc2_43 Q E x0 x1 x18 H)

def uc2_46_M (Q : QT) (E : ET) (τ : Tau) (H : Heap) : Prop := mP (τ 0) fun x0 => mI .u8 (τ 1) fun x1 => mI .u8 (τ 18) fun x18 => mB (τ 54) fun x54 => uc2_46 Q E x0 x1 x18 x54 H

theorem uc2_47ok (Q : QT) (E : ET) (τ : Tau) (H : Heap) (h : uc2_46_M Q E τ H) : vc Pr uc2_p22 τ (uc2_q3 Q E) E H :=
  vP (i := 0) h (fun x0 h => vI (i := 1) h (fun x1 h => vI (i := 18) h (fun x18 h => vB (i := 54) h (fun x54 h => (conv (B := vc Pr uc2_p22 (Tau.upd (Tau.upd (Tau.upd (Tau.upd τ 0 (.pointer x0)) 1 (.int .u8 x1)) 18 (.int .u8 x18)) 54 (.bool x54)) (uc2_q3 Q E) E H) (by kernel_rfl) (sel_map (uc2_14ok Q E (Tau.upd (Tau.upd (Tau.upd (Tau.upd τ 0 (.pointer x0)) 1 (.int .u8 x1)) 18 (.int .u8 x18)) 54 (.bool x54)) H) (uc2_45ok Q E (Tau.upd (Tau.upd (Tau.upd (Tau.upd τ 0 (.pointer x0)) 1 (.int .u8 x1)) 18 (.int .u8 x18)) 54 (.bool x54)) H) (conv (B := sel x54 (uc2_13_M Q E (Tau.upd (Tau.upd (Tau.upd (Tau.upd τ 0 (.pointer x0)) 1 (.int .u8 x1)) 18 (.int .u8 x18)) 54 (.bool x54)) H) (uc2_43_M Q E (Tau.upd (Tau.upd (Tau.upd (Tau.upd τ 0 (.pointer x0)) 1 (.int .u8 x1)) 18 (.int .u8 x18)) 54 (.bool x54)) H)) (by kernel_rfl) h)))))))

@[reducible] noncomputable def uc2_q11 (Q : QT) (E : ET) : Exit → Tau → Heap → Prop := (xthen (uc2_46_M Q E) (uc2_q3 Q E))

@[reducible] noncomputable def uc2_p43 : Code := sA uc2_p21

def uc2_48 (Q : QT) (E : ET) (x0 : OA) (x1 : Int) (x18 : Int) (H : Heap) : Prop :=
 sel ((x18 : Int) == 42)
 (uc2_46 Q E x0 x1 x18 ((x18 : Int) == 42) H)
 (sel ((x18 : Int) == 43)
 (uc2_46 Q E x0 x1 x18 ((x18 : Int) == 43) H)
 (uc2_46 Q E x0 x1 x18 ((x18 : Int) == 63) H))

def uc2_48_M (Q : QT) (E : ET) (τ : Tau) (H : Heap) : Prop := mP (τ 0) fun x0 => mI .u8 (τ 1) fun x1 => mI .u8 (τ 18) fun x18 => uc2_48 Q E x0 x1 x18 H

theorem uc2_49ok (Q : QT) (E : ET) (τ : Tau) (H : Heap) (h : uc2_48_M Q E τ H) : vc Pr uc2_p43 τ (uc2_q11 Q E) E H :=
  vP (i := 0) h (fun x0 h => vI (i := 1) h (fun x1 h => vI (i := 18) h (fun x18 h => (conv (by kernel_rfl) h))))

theorem uc2_50ok (Q : QT) (E : ET) (τ : Tau) (H : Heap) (h : uc2_48_M Q E τ H) : vc Pr uc2_p21 τ (uc2_q3 Q E) E H :=
  (conv (B := vc Pr uc2_p21 τ (uc2_q3 Q E) E H) (by kernel_rfl) (vc_seq (K := (uc2_46_M Q E)) (uc2_49ok Q E τ H h) (uc2_47ok Q E)))

def uc2_51 (Q : QT) (E : ET) (x0 : OA) (x1 : Int) (x18 : Int) (x50 : Bool) (H : Heap) : Prop :=
 sel x50
 (uc2_11 Q E x0 H)
 (uc2_48 Q E x0 x1 x18 H)

def uc2_51_M (Q : QT) (E : ET) (τ : Tau) (H : Heap) : Prop := mP (τ 0) fun x0 => mI .u8 (τ 1) fun x1 => mI .u8 (τ 18) fun x18 => mB (τ 50) fun x50 => uc2_51 Q E x0 x1 x18 x50 H

theorem uc2_52ok (Q : QT) (E : ET) (τ : Tau) (H : Heap) (h : uc2_51_M Q E τ H) : vc Pr uc2_p19 τ (uc2_q3 Q E) E H :=
  vP (i := 0) h (fun x0 h => vI (i := 1) h (fun x1 h => vI (i := 18) h (fun x18 h => vB (i := 50) h (fun x50 h => (conv (B := vc Pr uc2_p19 (Tau.upd (Tau.upd (Tau.upd (Tau.upd τ 0 (.pointer x0)) 1 (.int .u8 x1)) 18 (.int .u8 x18)) 50 (.bool x50)) (uc2_q3 Q E) E H) (by kernel_rfl) (sel_map (uc2_12ok Q E (Tau.upd (Tau.upd (Tau.upd (Tau.upd τ 0 (.pointer x0)) 1 (.int .u8 x1)) 18 (.int .u8 x18)) 50 (.bool x50)) H) (uc2_50ok Q E (Tau.upd (Tau.upd (Tau.upd (Tau.upd τ 0 (.pointer x0)) 1 (.int .u8 x1)) 18 (.int .u8 x18)) 50 (.bool x50)) H) (conv (B := sel x50 (uc2_11_M Q E (Tau.upd (Tau.upd (Tau.upd (Tau.upd τ 0 (.pointer x0)) 1 (.int .u8 x1)) 18 (.int .u8 x18)) 50 (.bool x50)) H) (uc2_48_M Q E (Tau.upd (Tau.upd (Tau.upd (Tau.upd τ 0 (.pointer x0)) 1 (.int .u8 x1)) 18 (.int .u8 x18)) 50 (.bool x50)) H)) (by kernel_rfl) h)))))))

@[reducible] noncomputable def uc2_q12 (Q : QT) (E : ET) : Exit → Tau → Heap → Prop := (xthen (uc2_51_M Q E) (uc2_q3 Q E))

@[reducible] noncomputable def uc2_p44 : Code := sA uc2_p18

def uc2_53 (Q : QT) (E : ET) (x0 : OA) (x1 : Int) (x18 : Int) (H : Heap) : Prop :=
 uc2_51 Q E x0 x1 x18 ((x18 : Int) == 93) H

def uc2_53_M (Q : QT) (E : ET) (τ : Tau) (H : Heap) : Prop := mP (τ 0) fun x0 => mI .u8 (τ 1) fun x1 => mI .u8 (τ 18) fun x18 => uc2_53 Q E x0 x1 x18 H

theorem uc2_54ok (Q : QT) (E : ET) (τ : Tau) (H : Heap) (h : uc2_53_M Q E τ H) : vc Pr uc2_p44 τ (uc2_q12 Q E) E H :=
  vP (i := 0) h (fun x0 h => vI (i := 1) h (fun x1 h => vI (i := 18) h (fun x18 h => (conv (by kernel_rfl) h))))

theorem uc2_55ok (Q : QT) (E : ET) (τ : Tau) (H : Heap) (h : uc2_53_M Q E τ H) : vc Pr uc2_p18 τ (uc2_q3 Q E) E H :=
  (conv (B := vc Pr uc2_p18 τ (uc2_q3 Q E) E H) (by kernel_rfl) (vc_seq (K := (uc2_51_M Q E)) (uc2_54ok Q E τ H h) (uc2_52ok Q E)))

def uc2_56 (Q : QT) (E : ET) (x0 : OA) (x1 : Int) (x18 : Int) (x43 : Bool) (H : Heap) : Prop :=
 sel x43
 (uc2_9 Q E x0 H)
 (uc2_53 Q E x0 x1 x18 H)

def uc2_56_M (Q : QT) (E : ET) (τ : Tau) (H : Heap) : Prop := mP (τ 0) fun x0 => mI .u8 (τ 1) fun x1 => mI .u8 (τ 18) fun x18 => mB (τ 43) fun x43 => uc2_56 Q E x0 x1 x18 x43 H

theorem uc2_57ok (Q : QT) (E : ET) (τ : Tau) (H : Heap) (h : uc2_56_M Q E τ H) : vc Pr uc2_p16 τ (uc2_q3 Q E) E H :=
  vP (i := 0) h (fun x0 h => vI (i := 1) h (fun x1 h => vI (i := 18) h (fun x18 h => vB (i := 43) h (fun x43 h => (conv (B := vc Pr uc2_p16 (Tau.upd (Tau.upd (Tau.upd (Tau.upd τ 0 (.pointer x0)) 1 (.int .u8 x1)) 18 (.int .u8 x18)) 43 (.bool x43)) (uc2_q3 Q E) E H) (by kernel_rfl) (sel_map (uc2_10ok Q E (Tau.upd (Tau.upd (Tau.upd (Tau.upd τ 0 (.pointer x0)) 1 (.int .u8 x1)) 18 (.int .u8 x18)) 43 (.bool x43)) H) (uc2_55ok Q E (Tau.upd (Tau.upd (Tau.upd (Tau.upd τ 0 (.pointer x0)) 1 (.int .u8 x1)) 18 (.int .u8 x18)) 43 (.bool x43)) H) (conv (B := sel x43 (uc2_9_M Q E (Tau.upd (Tau.upd (Tau.upd (Tau.upd τ 0 (.pointer x0)) 1 (.int .u8 x1)) 18 (.int .u8 x18)) 43 (.bool x43)) H) (uc2_53_M Q E (Tau.upd (Tau.upd (Tau.upd (Tau.upd τ 0 (.pointer x0)) 1 (.int .u8 x1)) 18 (.int .u8 x18)) 43 (.bool x43)) H)) (by kernel_rfl) h)))))))

@[reducible] noncomputable def uc2_q13 (Q : QT) (E : ET) : Exit → Tau → Heap → Prop := (xthen (uc2_56_M Q E) (uc2_q3 Q E))

@[reducible] noncomputable def uc2_p45 : Code := sA uc2_p15

def uc2_58 (Q : QT) (E : ET) (x0 : OA) (x1 : Int) (x18 : Int) (H : Heap) : Prop :=
 uc2_56 Q E x0 x1 x18 ((x18 : Int) == 91) H

def uc2_58_M (Q : QT) (E : ET) (τ : Tau) (H : Heap) : Prop := mP (τ 0) fun x0 => mI .u8 (τ 1) fun x1 => mI .u8 (τ 18) fun x18 => uc2_58 Q E x0 x1 x18 H

theorem uc2_59ok (Q : QT) (E : ET) (τ : Tau) (H : Heap) (h : uc2_58_M Q E τ H) : vc Pr uc2_p45 τ (uc2_q13 Q E) E H :=
  vP (i := 0) h (fun x0 h => vI (i := 1) h (fun x1 h => vI (i := 18) h (fun x18 h => (conv (by kernel_rfl) h))))

theorem uc2_60ok (Q : QT) (E : ET) (τ : Tau) (H : Heap) (h : uc2_58_M Q E τ H) : vc Pr uc2_p15 τ (uc2_q3 Q E) E H :=
  (conv (B := vc Pr uc2_p15 τ (uc2_q3 Q E) E H) (by kernel_rfl) (vc_seq (K := (uc2_56_M Q E)) (uc2_59ok Q E τ H h) (uc2_57ok Q E)))

def uc2_61 (Q : QT) (E : ET) (x0 : OA) (x1 : Int) (x18 : Int) (x38 : Bool) (H : Heap) : Prop :=
 sel x38
 (uc2_7 Q E x0 H)
 (uc2_58 Q E x0 x1 x18 H)

def uc2_61_M (Q : QT) (E : ET) (τ : Tau) (H : Heap) : Prop := mP (τ 0) fun x0 => mI .u8 (τ 1) fun x1 => mI .u8 (τ 18) fun x18 => mB (τ 38) fun x38 => uc2_61 Q E x0 x1 x18 x38 H

theorem uc2_62ok (Q : QT) (E : ET) (τ : Tau) (H : Heap) (h : uc2_61_M Q E τ H) : vc Pr uc2_p13 τ (uc2_q3 Q E) E H :=
  vP (i := 0) h (fun x0 h => vI (i := 1) h (fun x1 h => vI (i := 18) h (fun x18 h => vB (i := 38) h (fun x38 h => (conv (B := vc Pr uc2_p13 (Tau.upd (Tau.upd (Tau.upd (Tau.upd τ 0 (.pointer x0)) 1 (.int .u8 x1)) 18 (.int .u8 x18)) 38 (.bool x38)) (uc2_q3 Q E) E H) (by kernel_rfl) (sel_map (uc2_8ok Q E (Tau.upd (Tau.upd (Tau.upd (Tau.upd τ 0 (.pointer x0)) 1 (.int .u8 x1)) 18 (.int .u8 x18)) 38 (.bool x38)) H) (uc2_60ok Q E (Tau.upd (Tau.upd (Tau.upd (Tau.upd τ 0 (.pointer x0)) 1 (.int .u8 x1)) 18 (.int .u8 x18)) 38 (.bool x38)) H) (conv (B := sel x38 (uc2_7_M Q E (Tau.upd (Tau.upd (Tau.upd (Tau.upd τ 0 (.pointer x0)) 1 (.int .u8 x1)) 18 (.int .u8 x18)) 38 (.bool x38)) H) (uc2_58_M Q E (Tau.upd (Tau.upd (Tau.upd (Tau.upd τ 0 (.pointer x0)) 1 (.int .u8 x1)) 18 (.int .u8 x18)) 38 (.bool x38)) H)) (by kernel_rfl) h)))))))

@[reducible] noncomputable def uc2_q14 (Q : QT) (E : ET) : Exit → Tau → Heap → Prop := (xthen (uc2_61_M Q E) (uc2_q3 Q E))

@[reducible] noncomputable def uc2_p46 : Code := sA uc2_p12

def uc2_63 (Q : QT) (E : ET) (x0 : OA) (x1 : Int) (x18 : Int) (H : Heap) : Prop :=
 uc2_61 Q E x0 x1 x18 ((x18 : Int) == 36) H

def uc2_63_M (Q : QT) (E : ET) (τ : Tau) (H : Heap) : Prop := mP (τ 0) fun x0 => mI .u8 (τ 1) fun x1 => mI .u8 (τ 18) fun x18 => uc2_63 Q E x0 x1 x18 H

theorem uc2_64ok (Q : QT) (E : ET) (τ : Tau) (H : Heap) (h : uc2_63_M Q E τ H) : vc Pr uc2_p46 τ (uc2_q14 Q E) E H :=
  vP (i := 0) h (fun x0 h => vI (i := 1) h (fun x1 h => vI (i := 18) h (fun x18 h => (conv (by kernel_rfl) h))))

theorem uc2_65ok (Q : QT) (E : ET) (τ : Tau) (H : Heap) (h : uc2_63_M Q E τ H) : vc Pr uc2_p12 τ (uc2_q3 Q E) E H :=
  (conv (B := vc Pr uc2_p12 τ (uc2_q3 Q E) E H) (by kernel_rfl) (vc_seq (K := (uc2_61_M Q E)) (uc2_64ok Q E τ H h) (uc2_62ok Q E)))

def uc2_66 (Q : QT) (E : ET) (x0 : OA) (x1 : Int) (x18 : Int) (x33 : Bool) (H : Heap) : Prop :=
 sel x33
 (uc2_5 Q E x0 H)
 (uc2_63 Q E x0 x1 x18 H)

def uc2_66_M (Q : QT) (E : ET) (τ : Tau) (H : Heap) : Prop := mP (τ 0) fun x0 => mI .u8 (τ 1) fun x1 => mI .u8 (τ 18) fun x18 => mB (τ 33) fun x33 => uc2_66 Q E x0 x1 x18 x33 H

theorem uc2_67ok (Q : QT) (E : ET) (τ : Tau) (H : Heap) (h : uc2_66_M Q E τ H) : vc Pr uc2_p10 τ (uc2_q3 Q E) E H :=
  vP (i := 0) h (fun x0 h => vI (i := 1) h (fun x1 h => vI (i := 18) h (fun x18 h => vB (i := 33) h (fun x33 h => (conv (B := vc Pr uc2_p10 (Tau.upd (Tau.upd (Tau.upd (Tau.upd τ 0 (.pointer x0)) 1 (.int .u8 x1)) 18 (.int .u8 x18)) 33 (.bool x33)) (uc2_q3 Q E) E H) (by kernel_rfl) (sel_map (uc2_6ok Q E (Tau.upd (Tau.upd (Tau.upd (Tau.upd τ 0 (.pointer x0)) 1 (.int .u8 x1)) 18 (.int .u8 x18)) 33 (.bool x33)) H) (uc2_65ok Q E (Tau.upd (Tau.upd (Tau.upd (Tau.upd τ 0 (.pointer x0)) 1 (.int .u8 x1)) 18 (.int .u8 x18)) 33 (.bool x33)) H) (conv (B := sel x33 (uc2_5_M Q E (Tau.upd (Tau.upd (Tau.upd (Tau.upd τ 0 (.pointer x0)) 1 (.int .u8 x1)) 18 (.int .u8 x18)) 33 (.bool x33)) H) (uc2_63_M Q E (Tau.upd (Tau.upd (Tau.upd (Tau.upd τ 0 (.pointer x0)) 1 (.int .u8 x1)) 18 (.int .u8 x18)) 33 (.bool x33)) H)) (by kernel_rfl) h)))))))

@[reducible] noncomputable def uc2_q15 (Q : QT) (E : ET) : Exit → Tau → Heap → Prop := (xthen (uc2_66_M Q E) (uc2_q3 Q E))

@[reducible] noncomputable def uc2_p47 : Code := sA uc2_p9

def uc2_68 (Q : QT) (E : ET) (x0 : OA) (x1 : Int) (x18 : Int) (H : Heap) : Prop :=
 uc2_66 Q E x0 x1 x18 ((x18 : Int) == 94) H

def uc2_68_M (Q : QT) (E : ET) (τ : Tau) (H : Heap) : Prop := mP (τ 0) fun x0 => mI .u8 (τ 1) fun x1 => mI .u8 (τ 18) fun x18 => uc2_68 Q E x0 x1 x18 H

theorem uc2_69ok (Q : QT) (E : ET) (τ : Tau) (H : Heap) (h : uc2_68_M Q E τ H) : vc Pr uc2_p47 τ (uc2_q15 Q E) E H :=
  vP (i := 0) h (fun x0 h => vI (i := 1) h (fun x1 h => vI (i := 18) h (fun x18 h => (conv (by kernel_rfl) h))))

theorem uc2_70ok (Q : QT) (E : ET) (τ : Tau) (H : Heap) (h : uc2_68_M Q E τ H) : vc Pr uc2_p9 τ (uc2_q3 Q E) E H :=
  (conv (B := vc Pr uc2_p9 τ (uc2_q3 Q E) E H) (by kernel_rfl) (vc_seq (K := (uc2_66_M Q E)) (uc2_69ok Q E τ H h) (uc2_67ok Q E)))

def uc2_71 (Q : QT) (E : ET) (x0 : OA) (x1 : Int) (x18 : Int) (x26 : Bool) (H : Heap) : Prop :=
 sel x26
 (uc2_3 Q E x0 H)
 (uc2_68 Q E x0 x1 x18 H)

def uc2_71_M (Q : QT) (E : ET) (τ : Tau) (H : Heap) : Prop := mP (τ 0) fun x0 => mI .u8 (τ 1) fun x1 => mI .u8 (τ 18) fun x18 => mB (τ 26) fun x26 => uc2_71 Q E x0 x1 x18 x26 H

theorem uc2_72ok (Q : QT) (E : ET) (τ : Tau) (H : Heap) (h : uc2_71_M Q E τ H) : vc Pr uc2_p7 τ (uc2_q3 Q E) E H :=
  vP (i := 0) h (fun x0 h => vI (i := 1) h (fun x1 h => vI (i := 18) h (fun x18 h => vB (i := 26) h (fun x26 h => (conv (B := vc Pr uc2_p7 (Tau.upd (Tau.upd (Tau.upd (Tau.upd τ 0 (.pointer x0)) 1 (.int .u8 x1)) 18 (.int .u8 x18)) 26 (.bool x26)) (uc2_q3 Q E) E H) (by kernel_rfl) (sel_map (uc2_4ok Q E (Tau.upd (Tau.upd (Tau.upd (Tau.upd τ 0 (.pointer x0)) 1 (.int .u8 x1)) 18 (.int .u8 x18)) 26 (.bool x26)) H) (uc2_70ok Q E (Tau.upd (Tau.upd (Tau.upd (Tau.upd τ 0 (.pointer x0)) 1 (.int .u8 x1)) 18 (.int .u8 x18)) 26 (.bool x26)) H) (conv (B := sel x26 (uc2_3_M Q E (Tau.upd (Tau.upd (Tau.upd (Tau.upd τ 0 (.pointer x0)) 1 (.int .u8 x1)) 18 (.int .u8 x18)) 26 (.bool x26)) H) (uc2_68_M Q E (Tau.upd (Tau.upd (Tau.upd (Tau.upd τ 0 (.pointer x0)) 1 (.int .u8 x1)) 18 (.int .u8 x18)) 26 (.bool x26)) H)) (by kernel_rfl) h)))))))

@[reducible] noncomputable def uc2_q16 (Q : QT) (E : ET) : Exit → Tau → Heap → Prop := (xthen (uc2_71_M Q E) (uc2_q3 Q E))

@[reducible] noncomputable def uc2_p48 : Code := sA uc2_p6

def uc2_73 (Q : QT) (E : ET) (x0 : OA) (x1 : Int) (x18 : Int) (H : Heap) : Prop :=
 uc2_71 Q E x0 x1 x18 ((x18 : Int) == 46) H

def uc2_73_M (Q : QT) (E : ET) (τ : Tau) (H : Heap) : Prop := mP (τ 0) fun x0 => mI .u8 (τ 1) fun x1 => mI .u8 (τ 18) fun x18 => uc2_73 Q E x0 x1 x18 H

theorem uc2_74ok (Q : QT) (E : ET) (τ : Tau) (H : Heap) (h : uc2_73_M Q E τ H) : vc Pr uc2_p48 τ (uc2_q16 Q E) E H :=
  vP (i := 0) h (fun x0 h => vI (i := 1) h (fun x1 h => vI (i := 18) h (fun x18 h => (conv (by kernel_rfl) h))))

theorem uc2_75ok (Q : QT) (E : ET) (τ : Tau) (H : Heap) (h : uc2_73_M Q E τ H) : vc Pr uc2_p6 τ (uc2_q3 Q E) E H :=
  (conv (B := vc Pr uc2_p6 τ (uc2_q3 Q E) E H) (by kernel_rfl) (vc_seq (K := (uc2_71_M Q E)) (uc2_74ok Q E τ H h) (uc2_72ok Q E)))

theorem uc2_76ok (Q : QT) (E : ET) (τ : Tau) (H : Heap) (h : uc2_73_M Q E τ H) : vc Pr uc2_p5 τ (uc2_q2 Q E) E H :=
  (conv (B := vc Pr uc2_p5 τ (uc2_q2 Q E) E H) (by kernel_rfl) (uc2_75ok Q E τ H h))

@[reducible] noncomputable def uc2_q17 (Q : QT) (E : ET) : Exit → Tau → Heap → Prop := (xthen (uc2_73_M Q E) (uc2_q2 Q E))

@[reducible] noncomputable def uc2_p49 : Code := sA uc2_p4

def uc2_77 (Q : QT) (E : ET) (x0 : OA) (x1 : Int) (H : Heap) : Prop :=
 uc2_73 Q E x0 x1 x1 H

def uc2_77_M (Q : QT) (E : ET) (τ : Tau) (H : Heap) : Prop := mP (τ 0) fun x0 => mI .u8 (τ 1) fun x1 => uc2_77 Q E x0 x1 H

theorem uc2_78ok (Q : QT) (E : ET) (τ : Tau) (H : Heap) (h : uc2_77_M Q E τ H) : vc Pr uc2_p49 τ (uc2_q17 Q E) E H :=
  vP (i := 0) h (fun x0 h => vI (i := 1) h (fun x1 h => (conv (by kernel_rfl) h)))

theorem uc2_79ok (Q : QT) (E : ET) (τ : Tau) (H : Heap) (h : uc2_77_M Q E τ H) : vc Pr uc2_p4 τ (uc2_q2 Q E) E H :=
  (conv (B := vc Pr uc2_p4 τ (uc2_q2 Q E) E H) (by kernel_rfl) (vc_seq (K := (uc2_73_M Q E)) (uc2_78ok Q E τ H h) (uc2_76ok Q E)))

theorem uc2_80ok (Q : QT) (E : ET) (τ : Tau) (H : Heap) (h : uc2_77_M Q E τ H) : vc Pr uc2_p2 τ (uc2_q1 Q E) E H :=
  (conv (B := vc Pr uc2_p2 τ (uc2_q1 Q E) E H) (by kernel_rfl) (vc_seq (K := (uc2_1_M Q E)) (uc2_79ok Q E τ H h) (uc2_2ok Q E)))

@[reducible] noncomputable def uc2_q18 (Q : QT) (E : ET) : Exit → Tau → Heap → Prop := (xthen (uc2_77_M Q E) (uc2_q1 Q E))

@[reducible] noncomputable def uc2_p50 : Code := sA uc2_p1

def uc2_81 (Q : QT) (E : ET) (x0 : OA) (x1 : Int) (H : Heap) : Prop :=
 ptr x0 fun q220 =>
 ldI .i64 (Addr.add q220 1) H fun n221 =>
 ptr x0 fun q222 =>
 wr (Addr.add q222 1) [(.int .i64 (IntKind.wrap .i64 (n221 + 1)))] H fun H223 =>
 uc2_77 Q E x0 x1 H223

def uc2_81_M (Q : QT) (E : ET) (τ : Tau) (H : Heap) : Prop := mP (τ 0) fun x0 => mI .u8 (τ 1) fun x1 => uc2_81 Q E x0 x1 H

theorem uc2_82ok (Q : QT) (E : ET) (τ : Tau) (H : Heap) (h : uc2_81_M Q E τ H) : vc Pr uc2_p50 τ (uc2_q18 Q E) E H :=
  vP (i := 0) h (fun x0 h => vI (i := 1) h (fun x1 h => (conv (by kernel_rfl) h)))

theorem uc2_83ok (Q : QT) (E : ET) (τ : Tau) (H : Heap) (h : uc2_81_M Q E τ H) : vc Pr uc2_p1 τ (uc2_q1 Q E) E H :=
  (conv (B := vc Pr uc2_p1 τ (uc2_q1 Q E) E H) (by kernel_rfl) (vc_seq (K := (uc2_77_M Q E)) (uc2_82ok Q E τ H h) (uc2_80ok Q E)))

@[reducible] noncomputable def uc2_q19 (Q : QT) (E : ET) : Exit → Tau → Heap → Prop := (xthen (uc2_81_M Q E) (uc2_q1 Q E))

@[reducible] noncomputable def uc2_p51 : Code := sA uc2_p0

def uc2 (Q : QT) (E : ET) (a0 : OA) (a1 : Int) (H : Heap) : Prop :=
 uc2_81 Q E a0 a1 H

theorem uc2_fn (a0 : OA) (a1 : Int) (Q : QT) (E : ET) (H : Heap) (h : uc2 Q E a0 a1 H)   : Does Pr 106 #[(.pointer a0), (.int .u8 a1)] H Q E :=
  Fn_of_vc (fn := Try.f106) (c := uc2_p0) (args := [(.pointer a0), (.int .u8 a1)]) mixed (by kernel_rfl) (by kernel_rfl) (by kernel_rfl) (by kernel_rfl) (by kernel_rfl) ((conv (B := vc Pr uc2_p0 (argT [(.pointer a0), (.int .u8 a1)]) (uc2_q1 Q E) E H) (by kernel_rfl) (vc_seq (K := (uc2_81_M Q E)) (conv (B := vc Pr uc2_p51 (argT [(.pointer a0), (.int .u8 a1)]) (uc2_q19 Q E) E H) (by kernel_rfl) h) (uc2_83ok Q E))))

end Go.Proofs.Ytaffcoiomggpfaa
