import Derived.Test.YtaffcoiomggpfaaVPr
/- Printed by gen.py: the Go functions of package regex over a heap view, and that the model does so. -/
namespace Go.Proofs.Ytaffcoiomggpfaa
open Go.V
set_option linter.unusedVariables false
set_option maxRecDepth 100000
/-! jobmux/regex.Parse -/
@[reducible] noncomputable def regex_Parse_q1 (Q : QT) (E : ET) : Exit → Tau → Heap → Prop := (retQ Pr (Try.f28).results.toList Q)

@[reducible] noncomputable def regex_Parse_p0 : Code := bodyOf Try.f28

@[reducible] noncomputable def regex_Parse_p1 : Code := sB regex_Parse_p0

@[reducible] noncomputable def regex_Parse_p2 : Code := sB regex_Parse_p1

@[reducible] noncomputable def regex_Parse_p3 : Code := sB regex_Parse_p2

@[reducible] noncomputable def regex_Parse_p4 : Code := sB regex_Parse_p3

@[reducible] noncomputable def regex_Parse_p5 : Code := sB regex_Parse_p4

def regex_Parse_1 (Q : QT) (E : ET) (x4 : OA) (H : Heap) : Prop :=
 ptr x4 fun q11 =>
 ldSl (Addr.add q11 3) H fun p12 l13 c14 =>
 Q (.tuple #[(.slice p12 l13 c14), (.int .i64 0)]) H

def regex_Parse_1_M (Q : QT) (E : ET) (τ : Tau) (H : Heap) : Prop := mP (τ 4) fun x4 => regex_Parse_1 Q E x4 H

theorem regex_Parse_2ok (Q : QT) (E : ET) (τ : Tau) (H : Heap) (h : regex_Parse_1_M Q E τ H) : vc Pr regex_Parse_p5 τ (regex_Parse_q1 Q E) E H :=
  vP (i := 4) h (fun x4 h => (conv (by kernel_rfl) h))

@[reducible] noncomputable def regex_Parse_q2 (Q : QT) (E : ET) : Exit → Tau → Heap → Prop := (xthen (regex_Parse_1_M Q E) (regex_Parse_q1 Q E))

@[reducible] noncomputable def regex_Parse_p6 : Code := sA regex_Parse_p4

def regex_Parse_3 (Q : QT) (E : ET) (x4 : OA) (H : Heap) : Prop :=
 ptr x4 fun q15 =>
 ldI .i64 (Addr.add q15 4) H fun n16 =>
 sel ((n16 : Int) != 0)
 (ptr x4 fun q17 =>
 ldI .i64 (Addr.add q17 4) H fun n18 =>
 Q (.tuple #[(.slice none 0 0), (.int .i64 n18)]) H)
 (ptr x4 fun q19 =>
 ldSl (Addr.add q19 3) H fun p20 l21 c22 =>
 sel (decide ((((l21 : Nat) : Int) : Int) > 256))
 (Q (.tuple #[(.slice none 0 0), (.int .i64 1)]) H)
 (regex_Parse_1 Q E x4 H))

def regex_Parse_3_M (Q : QT) (E : ET) (τ : Tau) (H : Heap) : Prop := mP (τ 4) fun x4 => regex_Parse_3 Q E x4 H

theorem regex_Parse_4ok (Q : QT) (E : ET) (τ : Tau) (H : Heap) (h : regex_Parse_3_M Q E τ H) : vc Pr regex_Parse_p6 τ (regex_Parse_q2 Q E) E H :=
  vP (i := 4) h (fun x4 h => (conv (by kernel_rfl) h))

theorem regex_Parse_5ok (Q : QT) (E : ET) (τ : Tau) (H : Heap) (h : regex_Parse_3_M Q E τ H) : vc Pr regex_Parse_p4 τ (regex_Parse_q1 Q E) E H :=
  (conv (B := vc Pr regex_Parse_p4 τ (regex_Parse_q1 Q E) E H) (by kernel_rfl) (vc_seq (K := (regex_Parse_1_M Q E)) (regex_Parse_4ok Q E τ H h) (regex_Parse_2ok Q E)))

@[reducible] noncomputable def regex_Parse_q3 (Q : QT) (E : ET) : Exit → Tau → Heap → Prop := (xthen (regex_Parse_3_M Q E) (regex_Parse_q1 Q E))

@[reducible] noncomputable def regex_Parse_p7 : Code := sA regex_Parse_p3

def regex_Parse_6 (Q : QT) (E : ET) (x4 : OA) (H : Heap) : Prop :=
 Does Pr 60 #[(.pointer x4)] H (fun v23 H24 =>
 ∃ n25 : Int, v23 = (.int .i64 n25) ∧ regex_Parse_3 Q E x4 H24) E

def regex_Parse_6_M (Q : QT) (E : ET) (τ : Tau) (H : Heap) : Prop := mP (τ 4) fun x4 => regex_Parse_6 Q E x4 H

theorem regex_Parse_7ok (Q : QT) (E : ET) (τ : Tau) (H : Heap) (h : regex_Parse_6_M Q E τ H) : vc Pr regex_Parse_p7 τ (regex_Parse_q3 Q E) E H :=
  vP (i := 4) h (fun x4 h => (conv (by kernel_rfl) h))

theorem regex_Parse_8ok (Q : QT) (E : ET) (τ : Tau) (H : Heap) (h : regex_Parse_6_M Q E τ H) : vc Pr regex_Parse_p3 τ (regex_Parse_q1 Q E) E H :=
  (conv (B := vc Pr regex_Parse_p3 τ (regex_Parse_q1 Q E) E H) (by kernel_rfl) (vc_seq (K := (regex_Parse_3_M Q E)) (regex_Parse_7ok Q E τ H h) (regex_Parse_5ok Q E)))

@[reducible] noncomputable def regex_Parse_q4 (Q : QT) (E : ET) : Exit → Tau → Heap → Prop := (xthen (regex_Parse_6_M Q E) (regex_Parse_q1 Q E))

@[reducible] noncomputable def regex_Parse_p8 : Code := sA regex_Parse_p2

def regex_Parse_9 (Q : QT) (E : ET) (x0 : ByteArray) (H : Heap) : Prop :=
 nw (.cells #[(.string x0), (.int .i64 0), (.int .i64 0), (.slice none 0 0), (.int .i64 0)] 89 (0, 0)) H fun i26 H27 =>
 regex_Parse_6 Q E (some ⟨i26, 0, none⟩) H27

def regex_Parse_9_M (Q : QT) (E : ET) (τ : Tau) (H : Heap) : Prop := mS (τ 0) fun x0 => regex_Parse_9 Q E x0 H

theorem regex_Parse_10ok (Q : QT) (E : ET) (τ : Tau) (H : Heap) (h : regex_Parse_9_M Q E τ H) : vc Pr regex_Parse_p8 τ (regex_Parse_q4 Q E) E H :=
  vS (i := 0) h (fun x0 h => (conv (by kernel_rfl) h))

theorem regex_Parse_11ok (Q : QT) (E : ET) (τ : Tau) (H : Heap) (h : regex_Parse_9_M Q E τ H) : vc Pr regex_Parse_p2 τ (regex_Parse_q1 Q E) E H :=
  (conv (B := vc Pr regex_Parse_p2 τ (regex_Parse_q1 Q E) E H) (by kernel_rfl) (vc_seq (K := (regex_Parse_6_M Q E)) (regex_Parse_10ok Q E τ H h) (regex_Parse_8ok Q E)))

@[reducible] noncomputable def regex_Parse_q5 (Q : QT) (E : ET) : Exit → Tau → Heap → Prop := (xthen (regex_Parse_9_M Q E) (regex_Parse_q1 Q E))

@[reducible] noncomputable def regex_Parse_p9 : Code := sA regex_Parse_p1

def regex_Parse_12 (Q : QT) (E : ET) (x0 : ByteArray) (H : Heap) : Prop :=
 sel (decide ((((ByteArray.size x0 : Nat) : Int) : Int) > 128))
 (Q (.tuple #[(.slice none 0 0), (.int .i64 1)]) H)
 (regex_Parse_9 Q E x0 H)

def regex_Parse_12_M (Q : QT) (E : ET) (τ : Tau) (H : Heap) : Prop := mS (τ 0) fun x0 => regex_Parse_12 Q E x0 H

theorem regex_Parse_13ok (Q : QT) (E : ET) (τ : Tau) (H : Heap) (h : regex_Parse_12_M Q E τ H) : vc Pr regex_Parse_p9 τ (regex_Parse_q5 Q E) E H :=
  vS (i := 0) h (fun x0 h => (conv (by kernel_rfl) h))

theorem regex_Parse_14ok (Q : QT) (E : ET) (τ : Tau) (H : Heap) (h : regex_Parse_12_M Q E τ H) : vc Pr regex_Parse_p1 τ (regex_Parse_q1 Q E) E H :=
  (conv (B := vc Pr regex_Parse_p1 τ (regex_Parse_q1 Q E) E H) (by kernel_rfl) (vc_seq (K := (regex_Parse_9_M Q E)) (regex_Parse_13ok Q E τ H h) (regex_Parse_11ok Q E)))

@[reducible] noncomputable def regex_Parse_q6 (Q : QT) (E : ET) : Exit → Tau → Heap → Prop := (xthen (regex_Parse_12_M Q E) (regex_Parse_q1 Q E))

@[reducible] noncomputable def regex_Parse_p10 : Code := sA regex_Parse_p0

def regex_Parse (Q : QT) (E : ET) (a0 : ByteArray) (H : Heap) : Prop :=
 regex_Parse_12 Q E a0 H

theorem regex_Parse_fn (a0 : ByteArray) (Q : QT) (E : ET) (H : Heap) (h : regex_Parse Q E a0 H)   : Does Pr 28 #[(.string a0)] H Q E :=
  Fn_of_vc (fn := Try.f28) (c := regex_Parse_p0) (args := [(.string a0)]) mixed (by kernel_rfl) (by kernel_rfl) (by kernel_rfl) (by kernel_rfl) (by kernel_rfl) ((conv (B := vc Pr regex_Parse_p0 (argT [(.string a0)]) (regex_Parse_q1 Q E) E H) (by kernel_rfl) (vc_seq (K := (regex_Parse_12_M Q E)) (conv (B := vc Pr regex_Parse_p10 (argT [(.string a0)]) (regex_Parse_q6 Q E) E H) (by kernel_rfl) h) (regex_Parse_14ok Q E))))

/-! jobmux/regex.Valid -/
@[reducible] noncomputable def regex_Valid_q1 (Q : QT) (E : ET) : Exit → Tau → Heap → Prop := (retQ Pr (Try.f40).results.toList Q)

@[reducible] noncomputable def regex_Valid_p0 : Code := bodyOf Try.f40

@[reducible] noncomputable def regex_Valid_p1 : Code := sB regex_Valid_p0

@[reducible] noncomputable def regex_Valid_p2 : Code := sB regex_Valid_p1

@[reducible] noncomputable def regex_Valid_p3 : Code := sB regex_Valid_p2

@[reducible] noncomputable def regex_Valid_p4 : Code := sB regex_Valid_p3

def regex_Valid_1 (Q : QT) (E : ET) (x0 : OA) (l0 : Nat) (c0 : Nat) (x3 : OA) (l3 : Nat) (c3 : Nat) (H : Heap) : Prop :=
 (0 ≤ ((IntKind.wrap .i64 (((l0 : Nat) : Int) - 1)) : Int) ∧ ((IntKind.wrap .i64 (((l0 : Nat) : Int) - 1)) : Int) < ((l3 : Nat) : Int)) ∧ ptr x3 fun q33 =>
 ldI .i64 (Addr.add q33 (((IntKind.wrap .i64 (((l0 : Nat) : Int) - 1)) : Int).toNat * 1)) H fun n34 =>
 Q (.bool ((n34 : Int) == ((l0 : Nat) : Int))) H

def regex_Valid_1_M (Q : QT) (E : ET) (τ : Tau) (H : Heap) : Prop := mSl (τ 0) fun x0 l0 c0 => mSl (τ 3) fun x3 l3 c3 => regex_Valid_1 Q E x0 l0 c0 x3 l3 c3 H

theorem regex_Valid_2ok (Q : QT) (E : ET) (τ : Tau) (H : Heap) (h : regex_Valid_1_M Q E τ H) : vc Pr regex_Valid_p4 τ (regex_Valid_q1 Q E) E H :=
  vSl (i := 0) h (fun x0 l0 c0 h => vSl (i := 3) h (fun x3 l3 c3 h => (conv (by kernel_rfl) h)))

@[reducible] noncomputable def regex_Valid_q2 (Q : QT) (E : ET) : Exit → Tau → Heap → Prop := (xthen (regex_Valid_1_M Q E) (regex_Valid_q1 Q E))

@[reducible] noncomputable def regex_Valid_p5 : Code := sA regex_Valid_p3

@[reducible] noncomputable def regex_Valid_p6 : Code := sB regex_Valid_p5

@[reducible] noncomputable def regex_Valid_q3 (Q : QT) (E : ET) : Exit → Tau → Heap → Prop := (xblock 0 (regex_Valid_q2 Q E))

@[reducible] noncomputable def regex_Valid_p7 : Code := sI regex_Valid_p6

@[reducible] noncomputable def regex_Valid_q4 (nx35 : Int → HP) (Q : QT) (E : ET) : Exit → Tau → Heap → Prop := (xthen (fun τ H => mI .i64 (τ 21) fun x21' => nx35 x21' H) (regex_Valid_q3 Q E))

@[reducible] noncomputable def regex_Valid_p8 : Code := sI regex_Valid_p7

@[reducible] noncomputable def regex_Valid_p9 : Code := sB regex_Valid_p8

@[reducible] noncomputable def regex_Valid_p10 : Code := sB regex_Valid_p9

@[reducible] noncomputable def regex_Valid_p11 : Code := sB regex_Valid_p10

def regex_Valid_3 (nx35 : Int → HP) (Q : QT) (E : ET) (x0 : OA) (l0 : Nat) (c0 : Nat) (x3 : OA) (l3 : Nat) (c3 : Nat) (x19 : OA) (l19 : Nat) (c19 : Nat) (x20 : Int) (x21 : Int) (H : Heap) : Prop :=
 nx35 (IntKind.wrap .i64 (x21 + 1)) H

def regex_Valid_3_M (nx35 : Int → HP) (Q : QT) (E : ET) (τ : Tau) (H : Heap) : Prop := mSl (τ 0) fun x0 l0 c0 => mSl (τ 3) fun x3 l3 c3 => mSl (τ 19) fun x19 l19 c19 => mI .i64 (τ 20) fun x20 => mI .i64 (τ 21) fun x21 => regex_Valid_3 nx35 Q E x0 l0 c0 x3 l3 c3 x19 l19 c19 x20 x21 H

theorem regex_Valid_4ok (nx35 : Int → HP) (Q : QT) (E : ET) (τ : Tau) (H : Heap) (h : regex_Valid_3_M nx35 Q E τ H) : vc Pr regex_Valid_p11 τ (regex_Valid_q4 nx35 Q E) E H :=
  vSl (i := 0) h (fun x0 l0 c0 h => vSl (i := 3) h (fun x3 l3 c3 h => vSl (i := 19) h (fun x19 l19 c19 h => vI (i := 20) h (fun x20 h => vI (i := 21) h (fun x21 h => (conv (by kernel_rfl) h))))))

@[reducible] noncomputable def regex_Valid_q5 (nx35 : Int → HP) (Q : QT) (E : ET) : Exit → Tau → Heap → Prop := (xthen (regex_Valid_3_M nx35 Q E) (regex_Valid_q4 nx35 Q E))

@[reducible] noncomputable def regex_Valid_p12 : Code := sA regex_Valid_p10

@[reducible] noncomputable def regex_Valid_q6 (nx35 : Int → HP) (Q : QT) (E : ET) : Exit → Tau → Heap → Prop := (xblock 1 (regex_Valid_q5 nx35 Q E))

@[reducible] noncomputable def regex_Valid_p13 : Code := sI regex_Valid_p12

@[reducible] noncomputable def regex_Valid_p14 : Code := sB regex_Valid_p13

@[reducible] noncomputable def regex_Valid_p15 : Code := sB regex_Valid_p14

@[reducible] noncomputable def regex_Valid_p16 : Code := sB regex_Valid_p15

@[reducible] noncomputable def regex_Valid_p17 : Code := sB regex_Valid_p16

@[reducible] noncomputable def regex_Valid_p18 : Code := sB regex_Valid_p17

@[reducible] noncomputable def regex_Valid_p19 : Code := sB regex_Valid_p18

def regex_Valid_5 (nx35 : Int → HP) (Q : QT) (E : ET) (x0 : OA) (l0 : Nat) (c0 : Nat) (x3 : OA) (l3 : Nat) (c3 : Nat) (x19 : OA) (l19 : Nat) (c19 : Nat) (x20 : Int) (x21 : Int) (x88 : Bool) (H : Heap) : Prop :=
 sel x88
 (Q (.bool false) H)
 (regex_Valid_3 nx35 Q E x0 l0 c0 x3 l3 c3 x19 l19 c19 x20 x21 H)

def regex_Valid_5_M (nx35 : Int → HP) (Q : QT) (E : ET) (τ : Tau) (H : Heap) : Prop := mSl (τ 0) fun x0 l0 c0 => mSl (τ 3) fun x3 l3 c3 => mSl (τ 19) fun x19 l19 c19 => mI .i64 (τ 20) fun x20 => mI .i64 (τ 21) fun x21 => mB (τ 88) fun x88 => regex_Valid_5 nx35 Q E x0 l0 c0 x3 l3 c3 x19 l19 c19 x20 x21 x88 H

theorem regex_Valid_6ok (nx35 : Int → HP) (Q : QT) (E : ET) (τ : Tau) (H : Heap) (h : regex_Valid_5_M nx35 Q E τ H) : vc Pr regex_Valid_p19 τ (regex_Valid_q6 nx35 Q E) E H :=
  vSl (i := 0) h (fun x0 l0 c0 h => vSl (i := 3) h (fun x3 l3 c3 h => vSl (i := 19) h (fun x19 l19 c19 h => vI (i := 20) h (fun x20 h => vI (i := 21) h (fun x21 h => vB (i := 88) h (fun x88 h => (conv (by kernel_rfl) h)))))))

@[reducible] noncomputable def regex_Valid_q7 (nx35 : Int → HP) (Q : QT) (E : ET) : Exit → Tau → Heap → Prop := (xthen (regex_Valid_5_M nx35 Q E) (regex_Valid_q6 nx35 Q E))

@[reducible] noncomputable def regex_Valid_p20 : Code := sA regex_Valid_p18

def regex_Valid_7 (nx35 : Int → HP) (Q : QT) (E : ET) (x0 : OA) (l0 : Nat) (c0 : Nat) (x3 : OA) (l3 : Nat) (c3 : Nat) (x5 : OA) (x6 : Int) (x7 : Int) (x19 : OA) (l19 : Nat) (c19 : Nat) (x20 : Int) (x21 : Int) (H : Heap) : Prop :=
 ptr x5 fun q112 =>
 ldI .i64 (Addr.add q112 1) H fun n113 =>
 sel ((n113 : Int) != x6)
 (regex_Valid_5 nx35 Q E x0 l0 c0 x3 l3 c3 x19 l19 c19 x20 x21 true H)
 (ptr x5 fun q114 =>
 ldI .i64 (Addr.add q114 2) H fun n115 =>
 regex_Valid_5 nx35 Q E x0 l0 c0 x3 l3 c3 x19 l19 c19 x20 x21 ((n115 : Int) != x7) H)

def regex_Valid_7_M (nx35 : Int → HP) (Q : QT) (E : ET) (τ : Tau) (H : Heap) : Prop := mSl (τ 0) fun x0 l0 c0 => mSl (τ 3) fun x3 l3 c3 => mP (τ 5) fun x5 => mI .i64 (τ 6) fun x6 => mI .i64 (τ 7) fun x7 => mSl (τ 19) fun x19 l19 c19 => mI .i64 (τ 20) fun x20 => mI .i64 (τ 21) fun x21 => regex_Valid_7 nx35 Q E x0 l0 c0 x3 l3 c3 x5 x6 x7 x19 l19 c19 x20 x21 H

theorem regex_Valid_8ok (nx35 : Int → HP) (Q : QT) (E : ET) (τ : Tau) (H : Heap) (h : regex_Valid_7_M nx35 Q E τ H) : vc Pr regex_Valid_p20 τ (regex_Valid_q7 nx35 Q E) E H :=
  vSl (i := 0) h (fun x0 l0 c0 h => vSl (i := 3) h (fun x3 l3 c3 h => vP (i := 5) h (fun x5 h => vI (i := 6) h (fun x6 h => vI (i := 7) h (fun x7 h => vSl (i := 19) h (fun x19 l19 c19 h => vI (i := 20) h (fun x20 h => vI (i := 21) h (fun x21 h => (conv (by kernel_rfl) h)))))))))

theorem regex_Valid_9ok (nx35 : Int → HP) (Q : QT) (E : ET) (τ : Tau) (H : Heap) (h : regex_Valid_7_M nx35 Q E τ H) : vc Pr regex_Valid_p18 τ (regex_Valid_q6 nx35 Q E) E H :=
  (conv (B := vc Pr regex_Valid_p18 τ (regex_Valid_q6 nx35 Q E) E H) (by kernel_rfl) (vc_seq (K := (regex_Valid_5_M nx35 Q E)) (regex_Valid_8ok nx35 Q E τ H h) (regex_Valid_6ok nx35 Q E)))

@[reducible] noncomputable def regex_Valid_q8 (nx35 : Int → HP) (Q : QT) (E : ET) : Exit → Tau → Heap → Prop := (xthen (regex_Valid_7_M nx35 Q E) (regex_Valid_q6 nx35 Q E))

@[reducible] noncomputable def regex_Valid_p21 : Code := sA regex_Valid_p17

@[reducible] noncomputable def regex_Valid_p22 : Code := sB regex_Valid_p21

@[reducible] noncomputable def regex_Valid_q9 (nx35 : Int → HP) (Q : QT) (E : ET) : Exit → Tau → Heap → Prop := (xblock 2 (regex_Valid_q8 nx35 Q E))

@[reducible] noncomputable def regex_Valid_p23 : Code := sI regex_Valid_p22

@[reducible] noncomputable def regex_Valid_p24 : Code := sB regex_Valid_p23

def regex_Valid_10 (nx35 : Int → HP) (Q : QT) (E : ET)  (H : Heap) : Prop :=
 Q (.bool false) H

def regex_Valid_10_M (nx35 : Int → HP) (Q : QT) (E : ET) (τ : Tau) (H : Heap) : Prop := regex_Valid_10 nx35 Q E  H

theorem regex_Valid_11ok (nx35 : Int → HP) (Q : QT) (E : ET) (τ : Tau) (H : Heap) (h : regex_Valid_10_M nx35 Q E τ H) : vc Pr regex_Valid_p24 τ (regex_Valid_q9 nx35 Q E) E H :=
  (conv (B := vc Pr regex_Valid_p24 τ (regex_Valid_q9 nx35 Q E) E H) (by kernel_rfl) h)

@[reducible] noncomputable def regex_Valid_q10 (nx35 : Int → HP) (Q : QT) (E : ET) : Exit → Tau → Heap → Prop := (xthen (regex_Valid_10_M nx35 Q E) (regex_Valid_q9 nx35 Q E))

@[reducible] noncomputable def regex_Valid_p25 : Code := sA regex_Valid_p23

@[reducible] noncomputable def regex_Valid_q11 (nx35 : Int → HP) (Q : QT) (E : ET) : Exit → Tau → Heap → Prop := (xblock 6 (regex_Valid_q10 nx35 Q E))

@[reducible] noncomputable def regex_Valid_p26 : Code := sI regex_Valid_p25

@[reducible] noncomputable def regex_Valid_p27 : Code := sB regex_Valid_p26

@[reducible] noncomputable def regex_Valid_q12 (nx35 : Int → HP) (Q : QT) (E : ET) : Exit → Tau → Heap → Prop := (xthen (fun τ H => vc Pr (sB regex_Valid_p27) τ (regex_Valid_q11 nx35 Q E) E H) (regex_Valid_q11 nx35 Q E))

@[reducible] noncomputable def regex_Valid_p28 : Code := sA regex_Valid_p27

@[reducible] noncomputable def regex_Valid_p29 : Code := sB regex_Valid_p28

@[reducible] noncomputable def regex_Valid_p30 : Code := sB regex_Valid_p29

def regex_Valid_12 (nx35 : Int → HP) (Q : QT) (E : ET) (x0 : OA) (l0 : Nat) (c0 : Nat) (x3 : OA) (l3 : Nat) (c3 : Nat) (x4 : Int) (x5 : OA) (x6 : Int) (x7 : Int) (x19 : OA) (l19 : Nat) (c19 : Nat) (x20 : Int) (x21 : Int) (H : Heap) : Prop :=
 (0 ≤ (x4 : Int) ∧ (x4 : Int) < ((l3 : Nat) : Int)) ∧ ptr x3 fun q150 =>
 ldI .i64 (Addr.add q150 ((x4 : Int).toNat * 1)) H fun n151 =>
 (0 ≤ (x6 : Int) ∧ (x6 : Int) < ((l3 : Nat) : Int)) ∧ ptr x3 fun q152 =>
 ldI .i64 (Addr.add q152 ((x6 : Int).toNat * 1)) H fun n153 =>
 (0 ≤ (x4 : Int) ∧ (x4 : Int) < ((l3 : Nat) : Int)) ∧ ptr x3 fun q154 =>
 wr (Addr.add q154 ((x4 : Int).toNat * 1)) [(.int .i64 (IntKind.wrap .i64 (n151 + n153)))] H fun H155 =>
 regex_Valid_7 nx35 Q E x0 l0 c0 x3 l3 c3 x5 x6 x7 x19 l19 c19 x20 x21 H155

def regex_Valid_12_M (nx35 : Int → HP) (Q : QT) (E : ET) (τ : Tau) (H : Heap) : Prop := mSl (τ 0) fun x0 l0 c0 => mSl (τ 3) fun x3 l3 c3 => mI .i64 (τ 4) fun x4 => mP (τ 5) fun x5 => mI .i64 (τ 6) fun x6 => mI .i64 (τ 7) fun x7 => mSl (τ 19) fun x19 l19 c19 => mI .i64 (τ 20) fun x20 => mI .i64 (τ 21) fun x21 => regex_Valid_12 nx35 Q E x0 l0 c0 x3 l3 c3 x4 x5 x6 x7 x19 l19 c19 x20 x21 H

theorem regex_Valid_13ok (nx35 : Int → HP) (Q : QT) (E : ET) (τ : Tau) (H : Heap) (h : regex_Valid_12_M nx35 Q E τ H) : vc Pr regex_Valid_p30 τ (regex_Valid_q12 nx35 Q E) E H :=
  vSl (i := 0) h (fun x0 l0 c0 h => vSl (i := 3) h (fun x3 l3 c3 h => vI (i := 4) h (fun x4 h => vP (i := 5) h (fun x5 h => vI (i := 6) h (fun x6 h => vI (i := 7) h (fun x7 h => vSl (i := 19) h (fun x19 l19 c19 h => vI (i := 20) h (fun x20 h => vI (i := 21) h (fun x21 h => (conv (by kernel_rfl) h))))))))))

@[reducible] noncomputable def regex_Valid_q13 (nx35 : Int → HP) (Q : QT) (E : ET) : Exit → Tau → Heap → Prop := (xthen (regex_Valid_12_M nx35 Q E) (regex_Valid_q12 nx35 Q E))

@[reducible] noncomputable def regex_Valid_p31 : Code := sA regex_Valid_p29

def regex_Valid_14 (nx35 : Int → HP) (Q : QT) (E : ET) (x0 : OA) (l0 : Nat) (c0 : Nat) (x3 : OA) (l3 : Nat) (c3 : Nat) (x4 : Int) (x5 : OA) (x6 : Int) (x7 : Int) (x19 : OA) (l19 : Nat) (c19 : Nat) (x20 : Int) (x21 : Int) (H : Heap) : Prop :=
 sel (decide ((x6 : Int) < 0))
 (Q (.bool false) H)
 (regex_Valid_12 nx35 Q E x0 l0 c0 x3 l3 c3 x4 x5 x6 x7 x19 l19 c19 x20 x21 H)

def regex_Valid_14_M (nx35 : Int → HP) (Q : QT) (E : ET) (τ : Tau) (H : Heap) : Prop := mSl (τ 0) fun x0 l0 c0 => mSl (τ 3) fun x3 l3 c3 => mI .i64 (τ 4) fun x4 => mP (τ 5) fun x5 => mI .i64 (τ 6) fun x6 => mI .i64 (τ 7) fun x7 => mSl (τ 19) fun x19 l19 c19 => mI .i64 (τ 20) fun x20 => mI .i64 (τ 21) fun x21 => regex_Valid_14 nx35 Q E x0 l0 c0 x3 l3 c3 x4 x5 x6 x7 x19 l19 c19 x20 x21 H

theorem regex_Valid_15ok (nx35 : Int → HP) (Q : QT) (E : ET) (τ : Tau) (H : Heap) (h : regex_Valid_14_M nx35 Q E τ H) : vc Pr regex_Valid_p31 τ (regex_Valid_q13 nx35 Q E) E H :=
  vSl (i := 0) h (fun x0 l0 c0 h => vSl (i := 3) h (fun x3 l3 c3 h => vI (i := 4) h (fun x4 h => vP (i := 5) h (fun x5 h => vI (i := 6) h (fun x6 h => vI (i := 7) h (fun x7 h => vSl (i := 19) h (fun x19 l19 c19 h => vI (i := 20) h (fun x20 h => vI (i := 21) h (fun x21 h => (conv (by kernel_rfl) h))))))))))

theorem regex_Valid_16ok (nx35 : Int → HP) (Q : QT) (E : ET) (τ : Tau) (H : Heap) (h : regex_Valid_14_M nx35 Q E τ H) : vc Pr regex_Valid_p29 τ (regex_Valid_q12 nx35 Q E) E H :=
  (conv (B := vc Pr regex_Valid_p29 τ (regex_Valid_q12 nx35 Q E) E H) (by kernel_rfl) (vc_seq (K := (regex_Valid_12_M nx35 Q E)) (regex_Valid_15ok nx35 Q E τ H h) (regex_Valid_13ok nx35 Q E)))

@[reducible] noncomputable def regex_Valid_q14 (nx35 : Int → HP) (Q : QT) (E : ET) : Exit → Tau → Heap → Prop := (xthen (regex_Valid_14_M nx35 Q E) (regex_Valid_q12 nx35 Q E))

@[reducible] noncomputable def regex_Valid_p32 : Code := sA regex_Valid_p28

def regex_Valid_17 (nx35 : Int → HP) (Q : QT) (E : ET) (x0 : OA) (l0 : Nat) (c0 : Nat) (x3 : OA) (l3 : Nat) (c3 : Nat) (x4 : Int) (x5 : OA) (x7 : Int) (x19 : OA) (l19 : Nat) (c19 : Nat) (x20 : Int) (x21 : Int) (H : Heap) : Prop :=
 (0 ≤ (x4 : Int) ∧ (x4 : Int) < ((l3 : Nat) : Int)) ∧ ptr x3 fun q156 =>
 ldI .i64 (Addr.add q156 ((x4 : Int).toNat * 1)) H fun n157 =>
 regex_Valid_14 nx35 Q E x0 l0 c0 x3 l3 c3 x4 x5 (IntKind.wrap .i64 (x4 - n157)) x7 x19 l19 c19 x20 x21 H

def regex_Valid_17_M (nx35 : Int → HP) (Q : QT) (E : ET) (τ : Tau) (H : Heap) : Prop := mSl (τ 0) fun x0 l0 c0 => mSl (τ 3) fun x3 l3 c3 => mI .i64 (τ 4) fun x4 => mP (τ 5) fun x5 => mI .i64 (τ 7) fun x7 => mSl (τ 19) fun x19 l19 c19 => mI .i64 (τ 20) fun x20 => mI .i64 (τ 21) fun x21 => regex_Valid_17 nx35 Q E x0 l0 c0 x3 l3 c3 x4 x5 x7 x19 l19 c19 x20 x21 H

theorem regex_Valid_18ok (nx35 : Int → HP) (Q : QT) (E : ET) (τ : Tau) (H : Heap) (h : regex_Valid_17_M nx35 Q E τ H) : vc Pr regex_Valid_p32 τ (regex_Valid_q14 nx35 Q E) E H :=
  vSl (i := 0) h (fun x0 l0 c0 h => vSl (i := 3) h (fun x3 l3 c3 h => vI (i := 4) h (fun x4 h => vP (i := 5) h (fun x5 h => vI (i := 7) h (fun x7 h => vSl (i := 19) h (fun x19 l19 c19 h => vI (i := 20) h (fun x20 h => vI (i := 21) h (fun x21 h => (conv (by kernel_rfl) h)))))))))

theorem regex_Valid_19ok (nx35 : Int → HP) (Q : QT) (E : ET) (τ : Tau) (H : Heap) (h : regex_Valid_17_M nx35 Q E τ H) : vc Pr regex_Valid_p28 τ (regex_Valid_q12 nx35 Q E) E H :=
  (conv (B := vc Pr regex_Valid_p28 τ (regex_Valid_q12 nx35 Q E) E H) (by kernel_rfl) (vc_seq (K := (regex_Valid_14_M nx35 Q E)) (regex_Valid_18ok nx35 Q E τ H h) (regex_Valid_16ok nx35 Q E)))

theorem regex_Valid_20ok (nx35 : Int → HP) (Q : QT) (E : ET) (τ : Tau) (H : Heap) (h : regex_Valid_17_M nx35 Q E τ H) : vc Pr regex_Valid_p27 τ (regex_Valid_q11 nx35 Q E) E H :=
  (conv (B := vc Pr regex_Valid_p27 τ (regex_Valid_q11 nx35 Q E) E H) (by kernel_rfl) (regex_Valid_19ok nx35 Q E τ H h))

@[reducible] noncomputable def regex_Valid_q15 (nx35 : Int → HP) (Q : QT) (E : ET) : Exit → Tau → Heap → Prop := (xthen (regex_Valid_17_M nx35 Q E) (regex_Valid_q11 nx35 Q E))

@[reducible] noncomputable def regex_Valid_p33 : Code := sA regex_Valid_p26

@[reducible] noncomputable def regex_Valid_q16 (nx35 : Int → HP) (Q : QT) (E : ET) : Exit → Tau → Heap → Prop := (xblock 5 (regex_Valid_q15 nx35 Q E))

@[reducible] noncomputable def regex_Valid_p34 : Code := sI regex_Valid_p33

@[reducible] noncomputable def regex_Valid_p35 : Code := sB regex_Valid_p34

@[reducible] noncomputable def regex_Valid_p36 : Code := sB regex_Valid_p35

@[reducible] noncomputable def regex_Valid_p37 : Code := sB regex_Valid_p36

def regex_Valid_21 (nx35 : Int → HP) (Q : QT) (E : ET) (x0 : OA) (l0 : Nat) (c0 : Nat) (x3 : OA) (l3 : Nat) (c3 : Nat) (x4 : Int) (x5 : OA) (x7 : Int) (x19 : OA) (l19 : Nat) (c19 : Nat) (x20 : Int) (x21 : Int) (H : Heap) : Prop :=
 (0 ≤ (x4 : Int) ∧ (x4 : Int) < ((l3 : Nat) : Int)) ∧ ptr x3 fun q158 =>
 ldI .i64 (Addr.add q158 ((x4 : Int).toNat * 1)) H fun n159 =>
 (0 ≤ (x7 : Int) ∧ (x7 : Int) < ((l3 : Nat) : Int)) ∧ ptr x3 fun q160 =>
 ldI .i64 (Addr.add q160 ((x7 : Int).toNat * 1)) H fun n161 =>
 (0 ≤ (x4 : Int) ∧ (x4 : Int) < ((l3 : Nat) : Int)) ∧ ptr x3 fun q162 =>
 wr (Addr.add q162 ((x4 : Int).toNat * 1)) [(.int .i64 (IntKind.wrap .i64 (n159 + n161)))] H fun H163 =>
 regex_Valid_17 nx35 Q E x0 l0 c0 x3 l3 c3 x4 x5 x7 x19 l19 c19 x20 x21 H163

def regex_Valid_21_M (nx35 : Int → HP) (Q : QT) (E : ET) (τ : Tau) (H : Heap) : Prop := mSl (τ 0) fun x0 l0 c0 => mSl (τ 3) fun x3 l3 c3 => mI .i64 (τ 4) fun x4 => mP (τ 5) fun x5 => mI .i64 (τ 7) fun x7 => mSl (τ 19) fun x19 l19 c19 => mI .i64 (τ 20) fun x20 => mI .i64 (τ 21) fun x21 => regex_Valid_21 nx35 Q E x0 l0 c0 x3 l3 c3 x4 x5 x7 x19 l19 c19 x20 x21 H

theorem regex_Valid_22ok (nx35 : Int → HP) (Q : QT) (E : ET) (τ : Tau) (H : Heap) (h : regex_Valid_21_M nx35 Q E τ H) : vc Pr regex_Valid_p37 τ (regex_Valid_q16 nx35 Q E) E H :=
  vSl (i := 0) h (fun x0 l0 c0 h => vSl (i := 3) h (fun x3 l3 c3 h => vI (i := 4) h (fun x4 h => vP (i := 5) h (fun x5 h => vI (i := 7) h (fun x7 h => vSl (i := 19) h (fun x19 l19 c19 h => vI (i := 20) h (fun x20 h => vI (i := 21) h (fun x21 h => (conv (by kernel_rfl) h)))))))))

@[reducible] noncomputable def regex_Valid_q17 (nx35 : Int → HP) (Q : QT) (E : ET) : Exit → Tau → Heap → Prop := (xthen (regex_Valid_21_M nx35 Q E) (regex_Valid_q16 nx35 Q E))

@[reducible] noncomputable def regex_Valid_p38 : Code := sA regex_Valid_p36

def regex_Valid_23 (nx35 : Int → HP) (Q : QT) (E : ET) (x0 : OA) (l0 : Nat) (c0 : Nat) (x3 : OA) (l3 : Nat) (c3 : Nat) (x4 : Int) (x5 : OA) (x7 : Int) (x19 : OA) (l19 : Nat) (c19 : Nat) (x20 : Int) (x21 : Int) (H : Heap) : Prop :=
 sel (decide ((x7 : Int) < 0))
 (Q (.bool false) H)
 (regex_Valid_21 nx35 Q E x0 l0 c0 x3 l3 c3 x4 x5 x7 x19 l19 c19 x20 x21 H)

def regex_Valid_23_M (nx35 : Int → HP) (Q : QT) (E : ET) (τ : Tau) (H : Heap) : Prop := mSl (τ 0) fun x0 l0 c0 => mSl (τ 3) fun x3 l3 c3 => mI .i64 (τ 4) fun x4 => mP (τ 5) fun x5 => mI .i64 (τ 7) fun x7 => mSl (τ 19) fun x19 l19 c19 => mI .i64 (τ 20) fun x20 => mI .i64 (τ 21) fun x21 => regex_Valid_23 nx35 Q E x0 l0 c0 x3 l3 c3 x4 x5 x7 x19 l19 c19 x20 x21 H

theorem regex_Valid_24ok (nx35 : Int → HP) (Q : QT) (E : ET) (τ : Tau) (H : Heap) (h : regex_Valid_23_M nx35 Q E τ H) : vc Pr regex_Valid_p38 τ (regex_Valid_q17 nx35 Q E) E H :=
  vSl (i := 0) h (fun x0 l0 c0 h => vSl (i := 3) h (fun x3 l3 c3 h => vI (i := 4) h (fun x4 h => vP (i := 5) h (fun x5 h => vI (i := 7) h (fun x7 h => vSl (i := 19) h (fun x19 l19 c19 h => vI (i := 20) h (fun x20 h => vI (i := 21) h (fun x21 h => (conv (by kernel_rfl) h)))))))))

theorem regex_Valid_25ok (nx35 : Int → HP) (Q : QT) (E : ET) (τ : Tau) (H : Heap) (h : regex_Valid_23_M nx35 Q E τ H) : vc Pr regex_Valid_p36 τ (regex_Valid_q16 nx35 Q E) E H :=
  (conv (B := vc Pr regex_Valid_p36 τ (regex_Valid_q16 nx35 Q E) E H) (by kernel_rfl) (vc_seq (K := (regex_Valid_21_M nx35 Q E)) (regex_Valid_24ok nx35 Q E τ H h) (regex_Valid_22ok nx35 Q E)))

@[reducible] noncomputable def regex_Valid_q18 (nx35 : Int → HP) (Q : QT) (E : ET) : Exit → Tau → Heap → Prop := (xthen (regex_Valid_23_M nx35 Q E) (regex_Valid_q16 nx35 Q E))

@[reducible] noncomputable def regex_Valid_p39 : Code := sA regex_Valid_p35

def regex_Valid_26 (nx35 : Int → HP) (Q : QT) (E : ET) (x0 : OA) (l0 : Nat) (c0 : Nat) (x3 : OA) (l3 : Nat) (c3 : Nat) (x4 : Int) (x5 : OA) (x19 : OA) (l19 : Nat) (c19 : Nat) (x20 : Int) (x21 : Int) (H : Heap) : Prop :=
 regex_Valid_23 nx35 Q E x0 l0 c0 x3 l3 c3 x4 x5 (IntKind.wrap .i64 (x4 - 1)) x19 l19 c19 x20 x21 H

def regex_Valid_26_M (nx35 : Int → HP) (Q : QT) (E : ET) (τ : Tau) (H : Heap) : Prop := mSl (τ 0) fun x0 l0 c0 => mSl (τ 3) fun x3 l3 c3 => mI .i64 (τ 4) fun x4 => mP (τ 5) fun x5 => mSl (τ 19) fun x19 l19 c19 => mI .i64 (τ 20) fun x20 => mI .i64 (τ 21) fun x21 => regex_Valid_26 nx35 Q E x0 l0 c0 x3 l3 c3 x4 x5 x19 l19 c19 x20 x21 H

theorem regex_Valid_27ok (nx35 : Int → HP) (Q : QT) (E : ET) (τ : Tau) (H : Heap) (h : regex_Valid_26_M nx35 Q E τ H) : vc Pr regex_Valid_p39 τ (regex_Valid_q18 nx35 Q E) E H :=
  vSl (i := 0) h (fun x0 l0 c0 h => vSl (i := 3) h (fun x3 l3 c3 h => vI (i := 4) h (fun x4 h => vP (i := 5) h (fun x5 h => vSl (i := 19) h (fun x19 l19 c19 h => vI (i := 20) h (fun x20 h => vI (i := 21) h (fun x21 h => (conv (by kernel_rfl) h))))))))

theorem regex_Valid_28ok (nx35 : Int → HP) (Q : QT) (E : ET) (τ : Tau) (H : Heap) (h : regex_Valid_26_M nx35 Q E τ H) : vc Pr regex_Valid_p35 τ (regex_Valid_q16 nx35 Q E) E H :=
  (conv (B := vc Pr regex_Valid_p35 τ (regex_Valid_q16 nx35 Q E) E H) (by kernel_rfl) (vc_seq (K := (regex_Valid_23_M nx35 Q E)) (regex_Valid_27ok nx35 Q E τ H h) (regex_Valid_25ok nx35 Q E)))

@[reducible] noncomputable def regex_Valid_q19 (nx35 : Int → HP) (Q : QT) (E : ET) : Exit → Tau → Heap → Prop := (xthen (regex_Valid_26_M nx35 Q E) (regex_Valid_q16 nx35 Q E))

@[reducible] noncomputable def regex_Valid_p40 : Code := sA regex_Valid_p34

@[reducible] noncomputable def regex_Valid_q20 (nx35 : Int → HP) (Q : QT) (E : ET) : Exit → Tau → Heap → Prop := (xblock 4 (regex_Valid_q19 nx35 Q E))

@[reducible] noncomputable def regex_Valid_p41 : Code := sI regex_Valid_p40

@[reducible] noncomputable def regex_Valid_q21 (nx35 : Int → HP) (Q : QT) (E : ET) : Exit → Tau → Heap → Prop := (xthen (fun τ H => vc Pr (sB regex_Valid_p41) τ (regex_Valid_q20 nx35 Q E) E H) (regex_Valid_q20 nx35 Q E))

@[reducible] noncomputable def regex_Valid_p42 : Code := sA regex_Valid_p41

@[reducible] noncomputable def regex_Valid_q22 (nx35 : Int → HP) (Q : QT) (E : ET) : Exit → Tau → Heap → Prop := (xblock 3 (regex_Valid_q21 nx35 Q E))

@[reducible] noncomputable def regex_Valid_p43 : Code := sI regex_Valid_p42

@[reducible] noncomputable def regex_Valid_q23 (nx35 : Int → HP) (Q : QT) (E : ET) : Exit → Tau → Heap → Prop := (xthen (fun τ H => vc Pr (sB regex_Valid_p43) τ (regex_Valid_q22 nx35 Q E) E H) (regex_Valid_q22 nx35 Q E))

@[reducible] noncomputable def regex_Valid_p44 : Code := sA regex_Valid_p43

@[reducible] noncomputable def regex_Valid_p45 : Code := sB regex_Valid_p44

@[reducible] noncomputable def regex_Valid_p46 : Code := sB regex_Valid_p45

def regex_Valid_29 (nx35 : Int → HP) (Q : QT) (E : ET) (x0 : OA) (l0 : Nat) (c0 : Nat) (x3 : OA) (l3 : Nat) (c3 : Nat) (x4 : Int) (x5 : OA) (x7 : Int) (x19 : OA) (l19 : Nat) (c19 : Nat) (x20 : Int) (x21 : Int) (x40 : Int) (H : Heap) : Prop :=
 sel ((x40 : Int) == 1)
 (regex_Valid_17 nx35 Q E x0 l0 c0 x3 l3 c3 x4 x5 x7 x19 l19 c19 x20 x21 H)
 (regex_Valid_10 nx35 Q E  H)

def regex_Valid_29_M (nx35 : Int → HP) (Q : QT) (E : ET) (τ : Tau) (H : Heap) : Prop := mSl (τ 0) fun x0 l0 c0 => mSl (τ 3) fun x3 l3 c3 => mI .i64 (τ 4) fun x4 => mP (τ 5) fun x5 => mI .i64 (τ 7) fun x7 => mSl (τ 19) fun x19 l19 c19 => mI .i64 (τ 20) fun x20 => mI .i64 (τ 21) fun x21 => mI .i64 (τ 40) fun x40 => regex_Valid_29 nx35 Q E x0 l0 c0 x3 l3 c3 x4 x5 x7 x19 l19 c19 x20 x21 x40 H

theorem regex_Valid_30ok (nx35 : Int → HP) (Q : QT) (E : ET) (τ : Tau) (H : Heap) (h : regex_Valid_29_M nx35 Q E τ H) : vc Pr regex_Valid_p46 τ (regex_Valid_q23 nx35 Q E) E H :=
  vSl (i := 0) h (fun x0 l0 c0 h => vSl (i := 3) h (fun x3 l3 c3 h => vI (i := 4) h (fun x4 h => vP (i := 5) h (fun x5 h => vI (i := 7) h (fun x7 h => vSl (i := 19) h (fun x19 l19 c19 h => vI (i := 20) h (fun x20 h => vI (i := 21) h (fun x21 h => vI (i := 40) h (fun x40 h => (conv (by kernel_rfl) h))))))))))

@[reducible] noncomputable def regex_Valid_q24 (nx35 : Int → HP) (Q : QT) (E : ET) : Exit → Tau → Heap → Prop := (xthen (regex_Valid_29_M nx35 Q E) (regex_Valid_q23 nx35 Q E))

@[reducible] noncomputable def regex_Valid_p47 : Code := sA regex_Valid_p45

def regex_Valid_31 (nx35 : Int → HP) (Q : QT) (E : ET) (x0 : OA) (l0 : Nat) (c0 : Nat) (x3 : OA) (l3 : Nat) (c3 : Nat) (x4 : Int) (x5 : OA) (x7 : Int) (x19 : OA) (l19 : Nat) (c19 : Nat) (x20 : Int) (x21 : Int) (x40 : Int) (H : Heap) : Prop :=
 sel ((x40 : Int) == 2)
 (regex_Valid_26 nx35 Q E x0 l0 c0 x3 l3 c3 x4 x5 x19 l19 c19 x20 x21 H)
 (regex_Valid_29 nx35 Q E x0 l0 c0 x3 l3 c3 x4 x5 x7 x19 l19 c19 x20 x21 x40 H)

def regex_Valid_31_M (nx35 : Int → HP) (Q : QT) (E : ET) (τ : Tau) (H : Heap) : Prop := mSl (τ 0) fun x0 l0 c0 => mSl (τ 3) fun x3 l3 c3 => mI .i64 (τ 4) fun x4 => mP (τ 5) fun x5 => mI .i64 (τ 7) fun x7 => mSl (τ 19) fun x19 l19 c19 => mI .i64 (τ 20) fun x20 => mI .i64 (τ 21) fun x21 => mI .i64 (τ 40) fun x40 => regex_Valid_31 nx35 Q E x0 l0 c0 x3 l3 c3 x4 x5 x7 x19 l19 c19 x20 x21 x40 H

theorem regex_Valid_32ok (nx35 : Int → HP) (Q : QT) (E : ET) (τ : Tau) (H : Heap) (h : regex_Valid_31_M nx35 Q E τ H) : vc Pr regex_Valid_p47 τ (regex_Valid_q24 nx35 Q E) E H :=
  vSl (i := 0) h (fun x0 l0 c0 h => vSl (i := 3) h (fun x3 l3 c3 h => vI (i := 4) h (fun x4 h => vP (i := 5) h (fun x5 h => vI (i := 7) h (fun x7 h => vSl (i := 19) h (fun x19 l19 c19 h => vI (i := 20) h (fun x20 h => vI (i := 21) h (fun x21 h => vI (i := 40) h (fun x40 h => (conv (by kernel_rfl) h))))))))))

theorem regex_Valid_33ok (nx35 : Int → HP) (Q : QT) (E : ET) (τ : Tau) (H : Heap) (h : regex_Valid_31_M nx35 Q E τ H) : vc Pr regex_Valid_p45 τ (regex_Valid_q23 nx35 Q E) E H :=
  (conv (B := vc Pr regex_Valid_p45 τ (regex_Valid_q23 nx35 Q E) E H) (by kernel_rfl) (vc_seq (K := (regex_Valid_29_M nx35 Q E)) (regex_Valid_32ok nx35 Q E τ H h) (regex_Valid_30ok nx35 Q E)))

@[reducible] noncomputable def regex_Valid_q25 (nx35 : Int → HP) (Q : QT) (E : ET) : Exit → Tau → Heap → Prop := (xthen (regex_Valid_31_M nx35 Q E) (regex_Valid_q23 nx35 Q E))

@[reducible] noncomputable def regex_Valid_p48 : Code := sA regex_Valid_p44

def regex_Valid_34 (nx35 : Int → HP) (Q : QT) (E : ET) (x0 : OA) (l0 : Nat) (c0 : Nat) (x3 : OA) (l3 : Nat) (c3 : Nat) (x4 : Int) (x5 : OA) (x6 : Int) (x7 : Int) (x19 : OA) (l19 : Nat) (c19 : Nat) (x20 : Int) (x21 : Int) (x40 : Int) (H : Heap) : Prop :=
 sel ((x40 : Int) == 0)
 (regex_Valid_7 nx35 Q E x0 l0 c0 x3 l3 c3 x5 x6 x7 x19 l19 c19 x20 x21 H)
 (regex_Valid_31 nx35 Q E x0 l0 c0 x3 l3 c3 x4 x5 x7 x19 l19 c19 x20 x21 x40 H)

def regex_Valid_34_M (nx35 : Int → HP) (Q : QT) (E : ET) (τ : Tau) (H : Heap) : Prop := mSl (τ 0) fun x0 l0 c0 => mSl (τ 3) fun x3 l3 c3 => mI .i64 (τ 4) fun x4 => mP (τ 5) fun x5 => mI .i64 (τ 6) fun x6 => mI .i64 (τ 7) fun x7 => mSl (τ 19) fun x19 l19 c19 => mI .i64 (τ 20) fun x20 => mI .i64 (τ 21) fun x21 => mI .i64 (τ 40) fun x40 => regex_Valid_34 nx35 Q E x0 l0 c0 x3 l3 c3 x4 x5 x6 x7 x19 l19 c19 x20 x21 x40 H

theorem regex_Valid_35ok (nx35 : Int → HP) (Q : QT) (E : ET) (τ : Tau) (H : Heap) (h : regex_Valid_34_M nx35 Q E τ H) : vc Pr regex_Valid_p48 τ (regex_Valid_q25 nx35 Q E) E H :=
  vSl (i := 0) h (fun x0 l0 c0 h => vSl (i := 3) h (fun x3 l3 c3 h => vI (i := 4) h (fun x4 h => vP (i := 5) h (fun x5 h => vI (i := 6) h (fun x6 h => vI (i := 7) h (fun x7 h => vSl (i := 19) h (fun x19 l19 c19 h => vI (i := 20) h (fun x20 h => vI (i := 21) h (fun x21 h => vI (i := 40) h (fun x40 h => (conv (by kernel_rfl) h)))))))))))

theorem regex_Valid_36ok (nx35 : Int → HP) (Q : QT) (E : ET) (τ : Tau) (H : Heap) (h : regex_Valid_34_M nx35 Q E τ H) : vc Pr regex_Valid_p44 τ (regex_Valid_q23 nx35 Q E) E H :=
  (conv (B := vc Pr regex_Valid_p44 τ (regex_Valid_q23 nx35 Q E) E H) (by kernel_rfl) (vc_seq (K := (regex_Valid_31_M nx35 Q E)) (regex_Valid_35ok nx35 Q E τ H h) (regex_Valid_33ok nx35 Q E)))

theorem regex_Valid_37ok (nx35 : Int → HP) (Q : QT) (E : ET) (τ : Tau) (H : Heap) (h : regex_Valid_34_M nx35 Q E τ H) : vc Pr regex_Valid_p43 τ (regex_Valid_q22 nx35 Q E) E H :=
  (conv (B := vc Pr regex_Valid_p43 τ (regex_Valid_q22 nx35 Q E) E H) (by kernel_rfl) (regex_Valid_36ok nx35 Q E τ H h))

theorem regex_Valid_38ok (nx35 : Int → HP) (Q : QT) (E : ET) (τ : Tau) (H : Heap) (h : regex_Valid_34_M nx35 Q E τ H) : vc Pr regex_Valid_p42 τ (regex_Valid_q21 nx35 Q E) E H :=
  (conv (B := vc Pr regex_Valid_p42 τ (regex_Valid_q21 nx35 Q E) E H) (by kernel_rfl) (regex_Valid_37ok nx35 Q E τ H h))

theorem regex_Valid_39ok (nx35 : Int → HP) (Q : QT) (E : ET) (τ : Tau) (H : Heap) (h : regex_Valid_34_M nx35 Q E τ H) : vc Pr regex_Valid_p41 τ (regex_Valid_q20 nx35 Q E) E H :=
  (conv (B := vc Pr regex_Valid_p41 τ (regex_Valid_q20 nx35 Q E) E H) (by kernel_rfl) (regex_Valid_38ok nx35 Q E τ H h))

theorem regex_Valid_40ok (nx35 : Int → HP) (Q : QT) (E : ET) (τ : Tau) (H : Heap) (h : regex_Valid_34_M nx35 Q E τ H) : vc Pr regex_Valid_p40 τ (regex_Valid_q19 nx35 Q E) E H :=
  (conv (B := vc Pr regex_Valid_p40 τ (regex_Valid_q19 nx35 Q E) E H) (by kernel_rfl) (regex_Valid_39ok nx35 Q E τ H h))

theorem regex_Valid_41ok (nx35 : Int → HP) (Q : QT) (E : ET) (τ : Tau) (H : Heap) (h : regex_Valid_34_M nx35 Q E τ H) : vc Pr regex_Valid_p34 τ (regex_Valid_q16 nx35 Q E) E H :=
  (conv (B := vc Pr regex_Valid_p34 τ (regex_Valid_q16 nx35 Q E) E H) (by kernel_rfl) (vc_seq (K := (regex_Valid_26_M nx35 Q E)) (regex_Valid_40ok nx35 Q E τ H h) (regex_Valid_28ok nx35 Q E)))

theorem regex_Valid_42ok (nx35 : Int → HP) (Q : QT) (E : ET) (τ : Tau) (H : Heap) (h : regex_Valid_34_M nx35 Q E τ H) : vc Pr regex_Valid_p33 τ (regex_Valid_q15 nx35 Q E) E H :=
  (conv (B := vc Pr regex_Valid_p33 τ (regex_Valid_q15 nx35 Q E) E H) (by kernel_rfl) (regex_Valid_41ok nx35 Q E τ H h))

theorem regex_Valid_43ok (nx35 : Int → HP) (Q : QT) (E : ET) (τ : Tau) (H : Heap) (h : regex_Valid_34_M nx35 Q E τ H) : vc Pr regex_Valid_p26 τ (regex_Valid_q11 nx35 Q E) E H :=
  (conv (B := vc Pr regex_Valid_p26 τ (regex_Valid_q11 nx35 Q E) E H) (by kernel_rfl) (vc_seq (K := (regex_Valid_17_M nx35 Q E)) (regex_Valid_42ok nx35 Q E τ H h) (regex_Valid_20ok nx35 Q E)))

theorem regex_Valid_44ok (nx35 : Int → HP) (Q : QT) (E : ET) (τ : Tau) (H : Heap) (h : regex_Valid_34_M nx35 Q E τ H) : vc Pr regex_Valid_p25 τ (regex_Valid_q10 nx35 Q E) E H :=
  (conv (B := vc Pr regex_Valid_p25 τ (regex_Valid_q10 nx35 Q E) E H) (by kernel_rfl) (regex_Valid_43ok nx35 Q E τ H h))

theorem regex_Valid_45ok (nx35 : Int → HP) (Q : QT) (E : ET) (τ : Tau) (H : Heap) (h : regex_Valid_34_M nx35 Q E τ H) : vc Pr regex_Valid_p23 τ (regex_Valid_q9 nx35 Q E) E H :=
  (conv (B := vc Pr regex_Valid_p23 τ (regex_Valid_q9 nx35 Q E) E H) (by kernel_rfl) (vc_seq (K := (regex_Valid_10_M nx35 Q E)) (regex_Valid_44ok nx35 Q E τ H h) (regex_Valid_11ok nx35 Q E)))

theorem regex_Valid_46ok (nx35 : Int → HP) (Q : QT) (E : ET) (τ : Tau) (H : Heap) (h : regex_Valid_34_M nx35 Q E τ H) : vc Pr regex_Valid_p22 τ (regex_Valid_q8 nx35 Q E) E H :=
  (conv (B := vc Pr regex_Valid_p22 τ (regex_Valid_q8 nx35 Q E) E H) (by kernel_rfl) (regex_Valid_45ok nx35 Q E τ H h))

@[reducible] noncomputable def regex_Valid_q26 (nx35 : Int → HP) (Q : QT) (E : ET) : Exit → Tau → Heap → Prop := (xthen (regex_Valid_34_M nx35 Q E) (regex_Valid_q8 nx35 Q E))

@[reducible] noncomputable def regex_Valid_p49 : Code := sA regex_Valid_p21

def regex_Valid_47 (nx35 : Int → HP) (Q : QT) (E : ET) (x0 : OA) (l0 : Nat) (c0 : Nat) (x3 : OA) (l3 : Nat) (c3 : Nat) (x4 : Int) (x5 : OA) (x6 : Int) (x7 : Int) (x19 : OA) (l19 : Nat) (c19 : Nat) (x20 : Int) (x21 : Int) (H : Heap) : Prop :=
 ptr x5 fun q164 =>
 ldI .i64 q164 H fun n165 =>
 Does Pr 74 #[(.int .i64 n165)] H (fun v166 H167 =>
 ∃ n168 : Int, v166 = (.int .i64 n168) ∧ regex_Valid_34 nx35 Q E x0 l0 c0 x3 l3 c3 x4 x5 x6 x7 x19 l19 c19 x20 x21 n168 H167) E

def regex_Valid_47_M (nx35 : Int → HP) (Q : QT) (E : ET) (τ : Tau) (H : Heap) : Prop := mSl (τ 0) fun x0 l0 c0 => mSl (τ 3) fun x3 l3 c3 => mI .i64 (τ 4) fun x4 => mP (τ 5) fun x5 => mI .i64 (τ 6) fun x6 => mI .i64 (τ 7) fun x7 => mSl (τ 19) fun x19 l19 c19 => mI .i64 (τ 20) fun x20 => mI .i64 (τ 21) fun x21 => regex_Valid_47 nx35 Q E x0 l0 c0 x3 l3 c3 x4 x5 x6 x7 x19 l19 c19 x20 x21 H

theorem regex_Valid_48ok (nx35 : Int → HP) (Q : QT) (E : ET) (τ : Tau) (H : Heap) (h : regex_Valid_47_M nx35 Q E τ H) : vc Pr regex_Valid_p49 τ (regex_Valid_q26 nx35 Q E) E H :=
  vSl (i := 0) h (fun x0 l0 c0 h => vSl (i := 3) h (fun x3 l3 c3 h => vI (i := 4) h (fun x4 h => vP (i := 5) h (fun x5 h => vI (i := 6) h (fun x6 h => vI (i := 7) h (fun x7 h => vSl (i := 19) h (fun x19 l19 c19 h => vI (i := 20) h (fun x20 h => vI (i := 21) h (fun x21 h => (conv (by kernel_rfl) h))))))))))

theorem regex_Valid_49ok (nx35 : Int → HP) (Q : QT) (E : ET) (τ : Tau) (H : Heap) (h : regex_Valid_47_M nx35 Q E τ H) : vc Pr regex_Valid_p21 τ (regex_Valid_q8 nx35 Q E) E H :=
  (conv (B := vc Pr regex_Valid_p21 τ (regex_Valid_q8 nx35 Q E) E H) (by kernel_rfl) (vc_seq (K := (regex_Valid_34_M nx35 Q E)) (regex_Valid_48ok nx35 Q E τ H h) (regex_Valid_46ok nx35 Q E)))

theorem regex_Valid_50ok (nx35 : Int → HP) (Q : QT) (E : ET) (τ : Tau) (H : Heap) (h : regex_Valid_47_M nx35 Q E τ H) : vc Pr regex_Valid_p17 τ (regex_Valid_q6 nx35 Q E) E H :=
  (conv (B := vc Pr regex_Valid_p17 τ (regex_Valid_q6 nx35 Q E) E H) (by kernel_rfl) (vc_seq (K := (regex_Valid_7_M nx35 Q E)) (regex_Valid_49ok nx35 Q E τ H h) (regex_Valid_9ok nx35 Q E)))

@[reducible] noncomputable def regex_Valid_q27 (nx35 : Int → HP) (Q : QT) (E : ET) : Exit → Tau → Heap → Prop := (xthen (regex_Valid_47_M nx35 Q E) (regex_Valid_q6 nx35 Q E))

@[reducible] noncomputable def regex_Valid_p50 : Code := sA regex_Valid_p16

def regex_Valid_51 (nx35 : Int → HP) (Q : QT) (E : ET) (x0 : OA) (l0 : Nat) (c0 : Nat) (x3 : OA) (l3 : Nat) (c3 : Nat) (x4 : Int) (x5 : OA) (x6 : Int) (x7 : Int) (x19 : OA) (l19 : Nat) (c19 : Nat) (x20 : Int) (x21 : Int) (H : Heap) : Prop :=
 (0 ≤ (x4 : Int) ∧ (x4 : Int) < ((l3 : Nat) : Int)) ∧ ptr x3 fun q169 =>
 wr (Addr.add q169 ((x4 : Int).toNat * 1)) [(.int .i64 1)] H fun H170 =>
 regex_Valid_47 nx35 Q E x0 l0 c0 x3 l3 c3 x4 x5 x6 x7 x19 l19 c19 x20 x21 H170

def regex_Valid_51_M (nx35 : Int → HP) (Q : QT) (E : ET) (τ : Tau) (H : Heap) : Prop := mSl (τ 0) fun x0 l0 c0 => mSl (τ 3) fun x3 l3 c3 => mI .i64 (τ 4) fun x4 => mP (τ 5) fun x5 => mI .i64 (τ 6) fun x6 => mI .i64 (τ 7) fun x7 => mSl (τ 19) fun x19 l19 c19 => mI .i64 (τ 20) fun x20 => mI .i64 (τ 21) fun x21 => regex_Valid_51 nx35 Q E x0 l0 c0 x3 l3 c3 x4 x5 x6 x7 x19 l19 c19 x20 x21 H

theorem regex_Valid_52ok (nx35 : Int → HP) (Q : QT) (E : ET) (τ : Tau) (H : Heap) (h : regex_Valid_51_M nx35 Q E τ H) : vc Pr regex_Valid_p50 τ (regex_Valid_q27 nx35 Q E) E H :=
  vSl (i := 0) h (fun x0 l0 c0 h => vSl (i := 3) h (fun x3 l3 c3 h => vI (i := 4) h (fun x4 h => vP (i := 5) h (fun x5 h => vI (i := 6) h (fun x6 h => vI (i := 7) h (fun x7 h => vSl (i := 19) h (fun x19 l19 c19 h => vI (i := 20) h (fun x20 h => vI (i := 21) h (fun x21 h => (conv (by kernel_rfl) h))))))))))

theorem regex_Valid_53ok (nx35 : Int → HP) (Q : QT) (E : ET) (τ : Tau) (H : Heap) (h : regex_Valid_51_M nx35 Q E τ H) : vc Pr regex_Valid_p16 τ (regex_Valid_q6 nx35 Q E) E H :=
  (conv (B := vc Pr regex_Valid_p16 τ (regex_Valid_q6 nx35 Q E) E H) (by kernel_rfl) (vc_seq (K := (regex_Valid_47_M nx35 Q E)) (regex_Valid_52ok nx35 Q E τ H h) (regex_Valid_50ok nx35 Q E)))

@[reducible] noncomputable def regex_Valid_q28 (nx35 : Int → HP) (Q : QT) (E : ET) : Exit → Tau → Heap → Prop := (xthen (regex_Valid_51_M nx35 Q E) (regex_Valid_q6 nx35 Q E))

@[reducible] noncomputable def regex_Valid_p51 : Code := sA regex_Valid_p15

def regex_Valid_54 (nx35 : Int → HP) (Q : QT) (E : ET) (x0 : OA) (l0 : Nat) (c0 : Nat) (x3 : OA) (l3 : Nat) (c3 : Nat) (x4 : Int) (x5 : OA) (x19 : OA) (l19 : Nat) (c19 : Nat) (x20 : Int) (x21 : Int) (H : Heap) : Prop :=
 regex_Valid_51 nx35 Q E x0 l0 c0 x3 l3 c3 x4 x5 0 0 x19 l19 c19 x20 x21 H

def regex_Valid_54_M (nx35 : Int → HP) (Q : QT) (E : ET) (τ : Tau) (H : Heap) : Prop := mSl (τ 0) fun x0 l0 c0 => mSl (τ 3) fun x3 l3 c3 => mI .i64 (τ 4) fun x4 => mP (τ 5) fun x5 => mSl (τ 19) fun x19 l19 c19 => mI .i64 (τ 20) fun x20 => mI .i64 (τ 21) fun x21 => regex_Valid_54 nx35 Q E x0 l0 c0 x3 l3 c3 x4 x5 x19 l19 c19 x20 x21 H

theorem regex_Valid_55ok (nx35 : Int → HP) (Q : QT) (E : ET) (τ : Tau) (H : Heap) (h : regex_Valid_54_M nx35 Q E τ H) : vc Pr regex_Valid_p51 τ (regex_Valid_q28 nx35 Q E) E H :=
  vSl (i := 0) h (fun x0 l0 c0 h => vSl (i := 3) h (fun x3 l3 c3 h => vI (i := 4) h (fun x4 h => vP (i := 5) h (fun x5 h => vSl (i := 19) h (fun x19 l19 c19 h => vI (i := 20) h (fun x20 h => vI (i := 21) h (fun x21 h => (conv (by kernel_rfl) h))))))))

theorem regex_Valid_56ok (nx35 : Int → HP) (Q : QT) (E : ET) (τ : Tau) (H : Heap) (h : regex_Valid_54_M nx35 Q E τ H) : vc Pr regex_Valid_p15 τ (regex_Valid_q6 nx35 Q E) E H :=
  (conv (B := vc Pr regex_Valid_p15 τ (regex_Valid_q6 nx35 Q E) E H) (by kernel_rfl) (vc_seq (K := (regex_Valid_51_M nx35 Q E)) (regex_Valid_55ok nx35 Q E τ H h) (regex_Valid_53ok nx35 Q E)))

@[reducible] noncomputable def regex_Valid_q29 (nx35 : Int → HP) (Q : QT) (E : ET) : Exit → Tau → Heap → Prop := (xthen (regex_Valid_54_M nx35 Q E) (regex_Valid_q6 nx35 Q E))

@[reducible] noncomputable def regex_Valid_p52 : Code := sA regex_Valid_p14

@[reducible] noncomputable def regex_Valid_p53 : Code := sB regex_Valid_p52

def regex_Valid_57 (nx35 : Int → HP) (Q : QT) (E : ET) (x0 : OA) (l0 : Nat) (c0 : Nat) (x3 : OA) (l3 : Nat) (c3 : Nat) (x4 : Int) (x5 : OA) (x19 : OA) (l19 : Nat) (c19 : Nat) (x20 : Int) (x21 : Int) (x34 : Bool) (H : Heap) : Prop :=
 sel x34
 (Q (.bool false) H)
 (regex_Valid_54 nx35 Q E x0 l0 c0 x3 l3 c3 x4 x5 x19 l19 c19 x20 x21 H)

def regex_Valid_57_M (nx35 : Int → HP) (Q : QT) (E : ET) (τ : Tau) (H : Heap) : Prop := mSl (τ 0) fun x0 l0 c0 => mSl (τ 3) fun x3 l3 c3 => mI .i64 (τ 4) fun x4 => mP (τ 5) fun x5 => mSl (τ 19) fun x19 l19 c19 => mI .i64 (τ 20) fun x20 => mI .i64 (τ 21) fun x21 => mB (τ 34) fun x34 => regex_Valid_57 nx35 Q E x0 l0 c0 x3 l3 c3 x4 x5 x19 l19 c19 x20 x21 x34 H

theorem regex_Valid_58ok (nx35 : Int → HP) (Q : QT) (E : ET) (τ : Tau) (H : Heap) (h : regex_Valid_57_M nx35 Q E τ H) : vc Pr regex_Valid_p53 τ (regex_Valid_q29 nx35 Q E) E H :=
  vSl (i := 0) h (fun x0 l0 c0 h => vSl (i := 3) h (fun x3 l3 c3 h => vI (i := 4) h (fun x4 h => vP (i := 5) h (fun x5 h => vSl (i := 19) h (fun x19 l19 c19 h => vI (i := 20) h (fun x20 h => vI (i := 21) h (fun x21 h => vB (i := 34) h (fun x34 h => (conv (by kernel_rfl) h)))))))))

@[reducible] noncomputable def regex_Valid_q30 (nx35 : Int → HP) (Q : QT) (E : ET) : Exit → Tau → Heap → Prop := (xthen (regex_Valid_57_M nx35 Q E) (regex_Valid_q29 nx35 Q E))

@[reducible] noncomputable def regex_Valid_p54 : Code := sA regex_Valid_p52

def regex_Valid_59 (nx35 : Int → HP) (Q : QT) (E : ET) (x0 : OA) (l0 : Nat) (c0 : Nat) (x3 : OA) (l3 : Nat) (c3 : Nat) (x4 : Int) (x5 : OA) (x19 : OA) (l19 : Nat) (c19 : Nat) (x20 : Int) (x21 : Int) (H : Heap) : Prop :=
 ptr x5 fun q176 =>
 ldI .i64 q176 H fun n177 =>
 sel ((n177 : Int) != 2)
 (ptr x5 fun q178 =>
 ∃ n179 n180 n181 n182 : Int, Heap.rd H (Addr.add q178 3) 0 [(.int .u64 n179), (.int .u64 n180), (.int .u64 n181), (.int .u64 n182)] ∧ regex_Valid_57 nx35 Q E x0 l0 c0 x3 l3 c3 x4 x5 x19 l19 c19 x20 x21 (!(eqVs [(.int .u64 n179), (.int .u64 n180), (.int .u64 n181), (.int .u64 n182)] [(.int .u64 0), (.int .u64 0), (.int .u64 0), (.int .u64 0)])) H)
 (regex_Valid_57 nx35 Q E x0 l0 c0 x3 l3 c3 x4 x5 x19 l19 c19 x20 x21 false H)

def regex_Valid_59_M (nx35 : Int → HP) (Q : QT) (E : ET) (τ : Tau) (H : Heap) : Prop := mSl (τ 0) fun x0 l0 c0 => mSl (τ 3) fun x3 l3 c3 => mI .i64 (τ 4) fun x4 => mP (τ 5) fun x5 => mSl (τ 19) fun x19 l19 c19 => mI .i64 (τ 20) fun x20 => mI .i64 (τ 21) fun x21 => regex_Valid_59 nx35 Q E x0 l0 c0 x3 l3 c3 x4 x5 x19 l19 c19 x20 x21 H

theorem regex_Valid_60ok (nx35 : Int → HP) (Q : QT) (E : ET) (τ : Tau) (H : Heap) (h : regex_Valid_59_M nx35 Q E τ H) : vc Pr regex_Valid_p54 τ (regex_Valid_q30 nx35 Q E) E H :=
  vSl (i := 0) h (fun x0 l0 c0 h => vSl (i := 3) h (fun x3 l3 c3 h => vI (i := 4) h (fun x4 h => vP (i := 5) h (fun x5 h => vSl (i := 19) h (fun x19 l19 c19 h => vI (i := 20) h (fun x20 h => vI (i := 21) h (fun x21 h => (conv (by kernel_rfl) h))))))))

theorem regex_Valid_61ok (nx35 : Int → HP) (Q : QT) (E : ET) (τ : Tau) (H : Heap) (h : regex_Valid_59_M nx35 Q E τ H) : vc Pr regex_Valid_p52 τ (regex_Valid_q29 nx35 Q E) E H :=
  (conv (B := vc Pr regex_Valid_p52 τ (regex_Valid_q29 nx35 Q E) E H) (by kernel_rfl) (vc_seq (K := (regex_Valid_57_M nx35 Q E)) (regex_Valid_60ok nx35 Q E τ H h) (regex_Valid_58ok nx35 Q E)))

theorem regex_Valid_62ok (nx35 : Int → HP) (Q : QT) (E : ET) (τ : Tau) (H : Heap) (h : regex_Valid_59_M nx35 Q E τ H) : vc Pr regex_Valid_p14 τ (regex_Valid_q6 nx35 Q E) E H :=
  (conv (B := vc Pr regex_Valid_p14 τ (regex_Valid_q6 nx35 Q E) E H) (by kernel_rfl) (vc_seq (K := (regex_Valid_54_M nx35 Q E)) (regex_Valid_61ok nx35 Q E τ H h) (regex_Valid_56ok nx35 Q E)))

@[reducible] noncomputable def regex_Valid_q31 (nx35 : Int → HP) (Q : QT) (E : ET) : Exit → Tau → Heap → Prop := (xthen (regex_Valid_59_M nx35 Q E) (regex_Valid_q6 nx35 Q E))

@[reducible] noncomputable def regex_Valid_p55 : Code := sA regex_Valid_p13

def regex_Valid_63 (nx35 : Int → HP) (Q : QT) (E : ET) (x0 : OA) (l0 : Nat) (c0 : Nat) (x3 : OA) (l3 : Nat) (c3 : Nat) (x19 : OA) (l19 : Nat) (c19 : Nat) (x20 : Int) (x21 : Int) (H : Heap) : Prop :=
 (0 ≤ (x21 : Int) ∧ (x21 : Int) < ((l19 : Nat) : Int)) ∧ ptr x19 fun q183 =>
 ∃ n184 n185 n186 n187 n188 n189 n190 : Int, Heap.rd H (Addr.add q183 ((x21 : Int).toNat * 7)) 0 [(.int .i64 n184), (.int .i64 n185), (.int .i64 n186), (.int .u64 n187), (.int .u64 n188), (.int .u64 n189), (.int .u64 n190)] ∧ nw (.cells #[(.int .i64 0), (.int .i64 0), (.int .i64 0), (.int .u64 0), (.int .u64 0), (.int .u64 0), (.int .u64 0)] 48 (0, 0)) H fun i191 H192 =>
 wr ⟨i191, 0, none⟩ [(.int .i64 n184), (.int .i64 n185), (.int .i64 n186), (.int .u64 n187), (.int .u64 n188), (.int .u64 n189), (.int .u64 n190)] H192 fun H193 =>
 regex_Valid_59 nx35 Q E x0 l0 c0 x3 l3 c3 x21 (some ⟨i191, 0, none⟩) x19 l19 c19 x20 x21 H193

def regex_Valid_63_M (nx35 : Int → HP) (Q : QT) (E : ET) (τ : Tau) (H : Heap) : Prop := mSl (τ 0) fun x0 l0 c0 => mSl (τ 3) fun x3 l3 c3 => mSl (τ 19) fun x19 l19 c19 => mI .i64 (τ 20) fun x20 => mI .i64 (τ 21) fun x21 => regex_Valid_63 nx35 Q E x0 l0 c0 x3 l3 c3 x19 l19 c19 x20 x21 H

theorem regex_Valid_64ok (nx35 : Int → HP) (Q : QT) (E : ET) (τ : Tau) (H : Heap) (h : regex_Valid_63_M nx35 Q E τ H) : vc Pr regex_Valid_p55 τ (regex_Valid_q31 nx35 Q E) E H :=
  vSl (i := 0) h (fun x0 l0 c0 h => vSl (i := 3) h (fun x3 l3 c3 h => vSl (i := 19) h (fun x19 l19 c19 h => vI (i := 20) h (fun x20 h => vI (i := 21) h (fun x21 h => (conv (by kernel_rfl) h))))))

theorem regex_Valid_65ok (nx35 : Int → HP) (Q : QT) (E : ET) (τ : Tau) (H : Heap) (h : regex_Valid_63_M nx35 Q E τ H) : vc Pr regex_Valid_p13 τ (regex_Valid_q6 nx35 Q E) E H :=
  (conv (B := vc Pr regex_Valid_p13 τ (regex_Valid_q6 nx35 Q E) E H) (by kernel_rfl) (vc_seq (K := (regex_Valid_59_M nx35 Q E)) (regex_Valid_64ok nx35 Q E τ H h) (regex_Valid_62ok nx35 Q E)))

theorem regex_Valid_66ok (nx35 : Int → HP) (Q : QT) (E : ET) (τ : Tau) (H : Heap) (h : regex_Valid_63_M nx35 Q E τ H) : vc Pr regex_Valid_p12 τ (regex_Valid_q5 nx35 Q E) E H :=
  (conv (B := vc Pr regex_Valid_p12 τ (regex_Valid_q5 nx35 Q E) E H) (by kernel_rfl) (regex_Valid_65ok nx35 Q E τ H h))

theorem regex_Valid_67ok (nx35 : Int → HP) (Q : QT) (E : ET) (τ : Tau) (H : Heap) (h : regex_Valid_63_M nx35 Q E τ H) : vc Pr regex_Valid_p10 τ (regex_Valid_q4 nx35 Q E) E H :=
  (conv (B := vc Pr regex_Valid_p10 τ (regex_Valid_q4 nx35 Q E) E H) (by kernel_rfl) (vc_seq (K := (regex_Valid_3_M nx35 Q E)) (regex_Valid_66ok nx35 Q E τ H h) (regex_Valid_4ok nx35 Q E)))

@[reducible] noncomputable def regex_Valid_q32 (nx35 : Int → HP) (Q : QT) (E : ET) : Exit → Tau → Heap → Prop := (xthen (regex_Valid_63_M nx35 Q E) (regex_Valid_q4 nx35 Q E))

@[reducible] noncomputable def regex_Valid_p56 : Code := sA regex_Valid_p9

def regex_Valid_68 (nx35 : Int → HP) (Q : QT) (E : ET) (x0 : OA) (l0 : Nat) (c0 : Nat) (x3 : OA) (l3 : Nat) (c3 : Nat) (x19 : OA) (l19 : Nat) (c19 : Nat) (x20 : Int) (x21 : Int) (x22 : Bool) (H : Heap) : Prop :=
 sel x22
 (regex_Valid_63 nx35 Q E x0 l0 c0 x3 l3 c3 x19 l19 c19 x20 x21 H)
 (regex_Valid_1 Q E x0 l0 c0 x3 l3 c3 H)

def regex_Valid_68_M (nx35 : Int → HP) (Q : QT) (E : ET) (τ : Tau) (H : Heap) : Prop := mSl (τ 0) fun x0 l0 c0 => mSl (τ 3) fun x3 l3 c3 => mSl (τ 19) fun x19 l19 c19 => mI .i64 (τ 20) fun x20 => mI .i64 (τ 21) fun x21 => mB (τ 22) fun x22 => regex_Valid_68 nx35 Q E x0 l0 c0 x3 l3 c3 x19 l19 c19 x20 x21 x22 H

theorem regex_Valid_69ok (nx35 : Int → HP) (Q : QT) (E : ET) (τ : Tau) (H : Heap) (h : regex_Valid_68_M nx35 Q E τ H) : vc Pr regex_Valid_p56 τ (regex_Valid_q32 nx35 Q E) E H :=
  vSl (i := 0) h (fun x0 l0 c0 h => vSl (i := 3) h (fun x3 l3 c3 h => vSl (i := 19) h (fun x19 l19 c19 h => vI (i := 20) h (fun x20 h => vI (i := 21) h (fun x21 h => vB (i := 22) h (fun x22 h => (conv (by kernel_rfl) h)))))))

theorem regex_Valid_70ok (nx35 : Int → HP) (Q : QT) (E : ET) (τ : Tau) (H : Heap) (h : regex_Valid_68_M nx35 Q E τ H) : vc Pr regex_Valid_p9 τ (regex_Valid_q4 nx35 Q E) E H :=
  (conv (B := vc Pr regex_Valid_p9 τ (regex_Valid_q4 nx35 Q E) E H) (by kernel_rfl) (vc_seq (K := (regex_Valid_63_M nx35 Q E)) (regex_Valid_69ok nx35 Q E τ H h) (regex_Valid_67ok nx35 Q E)))

@[reducible] noncomputable def regex_Valid_q33 (nx35 : Int → HP) (Q : QT) (E : ET) : Exit → Tau → Heap → Prop := (xthen (regex_Valid_68_M nx35 Q E) (regex_Valid_q4 nx35 Q E))

@[reducible] noncomputable def regex_Valid_p57 : Code := sA regex_Valid_p8

def regex_Valid_71 (nx35 : Int → HP) (Q : QT) (E : ET) (x0 : OA) (l0 : Nat) (c0 : Nat) (x3 : OA) (l3 : Nat) (c3 : Nat) (x19 : OA) (l19 : Nat) (c19 : Nat) (x20 : Int) (x21 : Int) (H : Heap) : Prop :=
 regex_Valid_68 nx35 Q E x0 l0 c0 x3 l3 c3 x19 l19 c19 x20 x21 (decide ((x21 : Int) < x20)) H

def regex_Valid_71_M (nx35 : Int → HP) (Q : QT) (E : ET) (τ : Tau) (H : Heap) : Prop := mSl (τ 0) fun x0 l0 c0 => mSl (τ 3) fun x3 l3 c3 => mSl (τ 19) fun x19 l19 c19 => mI .i64 (τ 20) fun x20 => mI .i64 (τ 21) fun x21 => regex_Valid_71 nx35 Q E x0 l0 c0 x3 l3 c3 x19 l19 c19 x20 x21 H

theorem regex_Valid_72ok (nx35 : Int → HP) (Q : QT) (E : ET) (τ : Tau) (H : Heap) (h : regex_Valid_71_M nx35 Q E τ H) : vc Pr regex_Valid_p57 τ (regex_Valid_q33 nx35 Q E) E H :=
  vSl (i := 0) h (fun x0 l0 c0 h => vSl (i := 3) h (fun x3 l3 c3 h => vSl (i := 19) h (fun x19 l19 c19 h => vI (i := 20) h (fun x20 h => vI (i := 21) h (fun x21 h => (conv (by kernel_rfl) h))))))

theorem regex_Valid_73ok (nx35 : Int → HP) (Q : QT) (E : ET) (τ : Tau) (H : Heap) (h : regex_Valid_71_M nx35 Q E τ H) : vc Pr regex_Valid_p8 τ (regex_Valid_q4 nx35 Q E) E H :=
  (conv (B := vc Pr regex_Valid_p8 τ (regex_Valid_q4 nx35 Q E) E H) (by kernel_rfl) (vc_seq (K := (regex_Valid_68_M nx35 Q E)) (regex_Valid_72ok nx35 Q E τ H h) (regex_Valid_70ok nx35 Q E)))

def regex_Valid_74 (Q : QT) (E : ET) (x0 : OA) (l0 : Nat) (c0 : Nat) (x3 : OA) (l3 : Nat) (c3 : Nat) (x19 : OA) (l19 : Nat) (c19 : Nat) (x20 : Int) (x21 : Int) (H : Heap) : Prop :=
 ∃ (I : Int → HP) (μ : Int → Heap → Nat), I x21 H ∧ ∀ (x21 : Int) (H : Heap), I x21 H →
 regex_Valid_71 (fun x21' H1 => I x21' H1 ∧ μ x21' H1 < μ x21 H) Q E x0 l0 c0 x3 l3 c3 x19 l19 c19 x20 x21 H

def regex_Valid_74_M (Q : QT) (E : ET) (τ : Tau) (H : Heap) : Prop := mSl (τ 0) fun x0 l0 c0 => mSl (τ 3) fun x3 l3 c3 => mSl (τ 19) fun x19 l19 c19 => mI .i64 (τ 20) fun x20 => mI .i64 (τ 21) fun x21 => regex_Valid_74 Q E x0 l0 c0 x3 l3 c3 x19 l19 c19 x20 x21 H

theorem regex_Valid_75ok (Q : QT) (E : ET) (τ : Tau) (H : Heap) (h : regex_Valid_74_M Q E τ H) : vc Pr regex_Valid_p7 τ (regex_Valid_q3 Q E) E H :=
  vSl (i := 0) h (fun x0 l0 c0 h => vSl (i := 3) h (fun x3 l3 c3 h => vSl (i := 19) h (fun x19 l19 c19 h => vI (i := 20) h (fun x20 h => vI (i := 21) h (fun x21 h => match h with | ⟨I, μ, h0, hr⟩ => (conv (B := vc Pr regex_Valid_p7 (Tau.upd (Tau.upd (Tau.upd (Tau.upd (Tau.upd τ 0 (.slice x0 l0 c0)) 3 (.slice x3 l3 c3)) 19 (.slice x19 l19 c19)) 20 (.int .i64 x20)) 21 (.int .i64 x21)) (regex_Valid_q3 Q E) E H) (by kernel_rfl) (vc_loop (c := sI regex_Valid_p7) (τ := (Tau.upd (Tau.upd (Tau.upd (Tau.upd (Tau.upd τ 0 (.slice x0 l0 c0)) 3 (.slice x3 l3 c3)) 19 (.slice x19 l19 c19)) 20 (.int .i64 x20)) 21 (.int .i64 x21))) [0, 3, 19, 20] (fun τ H => mI .i64 (τ 21) fun x21' => I x21' H) (fun τ H => μ (gI (τ 21)) H) (by kernel_rfl) h0 (fun τ1 H1 hf hI => fix_elim (τ := τ1) (i := 0) (v := (.slice x0 l0 c0)) (G := fun τ => vc Pr (sI regex_Valid_p7) τ (xthen (fun τ2 H2 => (mI .i64 (τ2 21) fun x21' => I x21' H2) ∧ μ (gI (τ2 21)) H2 < μ (gI (τ 21)) H1) (regex_Valid_q3 Q E)) E H1) (hf 0 (by simp)) (fix_elim (τ := (Tau.upd τ1 0 (.slice x0 l0 c0))) (i := 3) (v := (.slice x3 l3 c3)) (G := fun τ => vc Pr (sI regex_Valid_p7) τ (xthen (fun τ2 H2 => (mI .i64 (τ2 21) fun x21' => I x21' H2) ∧ μ (gI (τ2 21)) H2 < μ (gI (τ 21)) H1) (regex_Valid_q3 Q E)) E H1) (hf 3 (by simp)) (fix_elim (τ := (Tau.upd (Tau.upd τ1 0 (.slice x0 l0 c0)) 3 (.slice x3 l3 c3))) (i := 19) (v := (.slice x19 l19 c19)) (G := fun τ => vc Pr (sI regex_Valid_p7) τ (xthen (fun τ2 H2 => (mI .i64 (τ2 21) fun x21' => I x21' H2) ∧ μ (gI (τ2 21)) H2 < μ (gI (τ 21)) H1) (regex_Valid_q3 Q E)) E H1) (hf 19 (by simp)) (fix_elim (τ := (Tau.upd (Tau.upd (Tau.upd τ1 0 (.slice x0 l0 c0)) 3 (.slice x3 l3 c3)) 19 (.slice x19 l19 c19))) (i := 20) (v := (.int .i64 x20)) (G := fun τ => vc Pr (sI regex_Valid_p7) τ (xthen (fun τ2 H2 => (mI .i64 (τ2 21) fun x21' => I x21' H2) ∧ μ (gI (τ2 21)) H2 < μ (gI (τ 21)) H1) (regex_Valid_q3 Q E)) E H1) (hf 20 (by simp)) (mI_elim (i := 21) (G := fun τ => vc Pr (sI regex_Valid_p7) τ (xthen (fun τ2 H2 => (mI .i64 (τ2 21) fun x21' => I x21' H2) ∧ μ (gI (τ2 21)) H2 < μ (gI (τ 21)) H1) (regex_Valid_q3 Q E)) E H1) hI (fun x21r h => (conv (B := vc Pr (sI regex_Valid_p7) (Tau.upd (Tau.upd (Tau.upd (Tau.upd (Tau.upd τ1 0 (.slice x0 l0 c0)) 3 (.slice x3 l3 c3)) 19 (.slice x19 l19 c19)) 20 (.int .i64 x20)) 21 (.int .i64 x21r)) (xthen (fun τ2 H2 => (mI .i64 (τ2 21) fun x21' => I x21' H2) ∧ μ (gI (τ2 21)) H2 < μ (gI ((Tau.upd (Tau.upd (Tau.upd (Tau.upd (Tau.upd τ1 0 (.slice x0 l0 c0)) 3 (.slice x3 l3 c3)) 19 (.slice x19 l19 c19)) 20 (.int .i64 x20)) 21 (.int .i64 x21r)) 21)) H1) (regex_Valid_q3 Q E)) E H1) (by kernel_rfl) (vc_xthen (regex_Valid_73ok (fun x21' H2 => I x21' H2 ∧ μ x21' H2 < μ x21r H1) Q E (Tau.upd (Tau.upd (Tau.upd (Tau.upd (Tau.upd τ1 0 (.slice x0 l0 c0)) 3 (.slice x3 l3 c3)) 19 (.slice x19 l19 c19)) 20 (.int .i64 x20)) 21 (.int .i64 x21r)) H1 (conv (B := regex_Valid_71_M (fun x21' H2 => I x21' H2 ∧ μ x21' H2 < μ x21r H1) Q E (Tau.upd (Tau.upd (Tau.upd (Tau.upd (Tau.upd τ1 0 (.slice x0 l0 c0)) 3 (.slice x3 l3 c3)) 19 (.slice x19 l19 c19)) 20 (.int .i64 x20)) 21 (.int .i64 x21r)) H1) (by kernel_rfl) (hr x21r H1 h))) (fun τ2 H2 hk => mI_elim (i := 21) (G := fun τ => (mI .i64 (τ 21) fun x21' => I x21' H2) ∧ μ (gI (τ 21)) H2 < μ x21r H1) hk (fun x21' h => h)))))))))))))))))

theorem regex_Valid_76ok (Q : QT) (E : ET) (τ : Tau) (H : Heap) (h : regex_Valid_74_M Q E τ H) : vc Pr regex_Valid_p6 τ (regex_Valid_q2 Q E) E H :=
  (conv (B := vc Pr regex_Valid_p6 τ (regex_Valid_q2 Q E) E H) (by kernel_rfl) (regex_Valid_75ok Q E τ H h))

@[reducible] noncomputable def regex_Valid_q34 (Q : QT) (E : ET) : Exit → Tau → Heap → Prop := (xthen (regex_Valid_74_M Q E) (regex_Valid_q2 Q E))

@[reducible] noncomputable def regex_Valid_p58 : Code := sA regex_Valid_p5

def regex_Valid_77 (Q : QT) (E : ET) (x0 : OA) (l0 : Nat) (c0 : Nat) (x3 : OA) (l3 : Nat) (c3 : Nat) (H : Heap) : Prop :=
 regex_Valid_74 Q E x0 l0 c0 x3 l3 c3 x0 l0 c0 ((l0 : Nat) : Int) 0 H

def regex_Valid_77_M (Q : QT) (E : ET) (τ : Tau) (H : Heap) : Prop := mSl (τ 0) fun x0 l0 c0 => mSl (τ 3) fun x3 l3 c3 => regex_Valid_77 Q E x0 l0 c0 x3 l3 c3 H

theorem regex_Valid_78ok (Q : QT) (E : ET) (τ : Tau) (H : Heap) (h : regex_Valid_77_M Q E τ H) : vc Pr regex_Valid_p58 τ (regex_Valid_q34 Q E) E H :=
  vSl (i := 0) h (fun x0 l0 c0 h => vSl (i := 3) h (fun x3 l3 c3 h => (conv (by kernel_rfl) h)))

theorem regex_Valid_79ok (Q : QT) (E : ET) (τ : Tau) (H : Heap) (h : regex_Valid_77_M Q E τ H) : vc Pr regex_Valid_p5 τ (regex_Valid_q2 Q E) E H :=
  (conv (B := vc Pr regex_Valid_p5 τ (regex_Valid_q2 Q E) E H) (by kernel_rfl) (vc_seq (K := (regex_Valid_74_M Q E)) (regex_Valid_78ok Q E τ H h) (regex_Valid_76ok Q E)))

theorem regex_Valid_80ok (Q : QT) (E : ET) (τ : Tau) (H : Heap) (h : regex_Valid_77_M Q E τ H) : vc Pr regex_Valid_p3 τ (regex_Valid_q1 Q E) E H :=
  (conv (B := vc Pr regex_Valid_p3 τ (regex_Valid_q1 Q E) E H) (by kernel_rfl) (vc_seq (K := (regex_Valid_1_M Q E)) (regex_Valid_79ok Q E τ H h) (regex_Valid_2ok Q E)))

@[reducible] noncomputable def regex_Valid_q35 (Q : QT) (E : ET) : Exit → Tau → Heap → Prop := (xthen (regex_Valid_77_M Q E) (regex_Valid_q1 Q E))

@[reducible] noncomputable def regex_Valid_p59 : Code := sA regex_Valid_p2

def regex_Valid_81 (Q : QT) (E : ET) (x0 : OA) (l0 : Nat) (c0 : Nat) (H : Heap) : Prop :=
 (0 ≤ (((l0 : Nat) : Int) : Int) ∧ (((l0 : Nat) : Int) : Int) ≤ ((l0 : Nat) : Int) ∧ (((l0 : Nat) : Int) : Int) ≤ 281474976710656 ∧ ((8 : Nat) : Int) * ((l0 : Nat) : Int) ≤ 281474976710656) ∧ nw (.cells (rep (((l0 : Nat) : Int) : Int).toNat [(.int .i64 0)]).toArray 3 (0, 0)) H fun i194 H195 =>
 regex_Valid_77 Q E x0 l0 c0 (some ⟨i194, 0, none⟩) ((((l0 : Nat) : Int) : Int).toNat) ((((l0 : Nat) : Int) : Int).toNat) H195

def regex_Valid_81_M (Q : QT) (E : ET) (τ : Tau) (H : Heap) : Prop := mSl (τ 0) fun x0 l0 c0 => regex_Valid_81 Q E x0 l0 c0 H

theorem regex_Valid_82ok (Q : QT) (E : ET) (τ : Tau) (H : Heap) (h : regex_Valid_81_M Q E τ H) : vc Pr regex_Valid_p59 τ (regex_Valid_q35 Q E) E H :=
  vSl (i := 0) h (fun x0 l0 c0 h => (conv (by kernel_rfl) h))

theorem regex_Valid_83ok (Q : QT) (E : ET) (τ : Tau) (H : Heap) (h : regex_Valid_81_M Q E τ H) : vc Pr regex_Valid_p2 τ (regex_Valid_q1 Q E) E H :=
  (conv (B := vc Pr regex_Valid_p2 τ (regex_Valid_q1 Q E) E H) (by kernel_rfl) (vc_seq (K := (regex_Valid_77_M Q E)) (regex_Valid_82ok Q E τ H h) (regex_Valid_80ok Q E)))

@[reducible] noncomputable def regex_Valid_q36 (Q : QT) (E : ET) : Exit → Tau → Heap → Prop := (xthen (regex_Valid_81_M Q E) (regex_Valid_q1 Q E))

@[reducible] noncomputable def regex_Valid_p60 : Code := sA regex_Valid_p1

@[reducible] noncomputable def regex_Valid_p61 : Code := sB regex_Valid_p60

def regex_Valid_84 (Q : QT) (E : ET) (x0 : OA) (l0 : Nat) (c0 : Nat) (x15 : Bool) (H : Heap) : Prop :=
 sel x15
 (Q (.bool false) H)
 (regex_Valid_81 Q E x0 l0 c0 H)

def regex_Valid_84_M (Q : QT) (E : ET) (τ : Tau) (H : Heap) : Prop := mSl (τ 0) fun x0 l0 c0 => mB (τ 15) fun x15 => regex_Valid_84 Q E x0 l0 c0 x15 H

theorem regex_Valid_85ok (Q : QT) (E : ET) (τ : Tau) (H : Heap) (h : regex_Valid_84_M Q E τ H) : vc Pr regex_Valid_p61 τ (regex_Valid_q36 Q E) E H :=
  vSl (i := 0) h (fun x0 l0 c0 h => vB (i := 15) h (fun x15 h => (conv (by kernel_rfl) h)))

@[reducible] noncomputable def regex_Valid_q37 (Q : QT) (E : ET) : Exit → Tau → Heap → Prop := (xthen (regex_Valid_84_M Q E) (regex_Valid_q36 Q E))

@[reducible] noncomputable def regex_Valid_p62 : Code := sA regex_Valid_p60

def regex_Valid_86 (Q : QT) (E : ET) (x0 : OA) (l0 : Nat) (c0 : Nat) (H : Heap) : Prop :=
 sel ((((l0 : Nat) : Int) : Int) == 0)
 (regex_Valid_84 Q E x0 l0 c0 true H)
 (regex_Valid_84 Q E x0 l0 c0 (decide ((((l0 : Nat) : Int) : Int) > 256)) H)

def regex_Valid_86_M (Q : QT) (E : ET) (τ : Tau) (H : Heap) : Prop := mSl (τ 0) fun x0 l0 c0 => regex_Valid_86 Q E x0 l0 c0 H

theorem regex_Valid_87ok (Q : QT) (E : ET) (τ : Tau) (H : Heap) (h : regex_Valid_86_M Q E τ H) : vc Pr regex_Valid_p62 τ (regex_Valid_q37 Q E) E H :=
  vSl (i := 0) h (fun x0 l0 c0 h => (conv (by kernel_rfl) h))

theorem regex_Valid_88ok (Q : QT) (E : ET) (τ : Tau) (H : Heap) (h : regex_Valid_86_M Q E τ H) : vc Pr regex_Valid_p60 τ (regex_Valid_q36 Q E) E H :=
  (conv (B := vc Pr regex_Valid_p60 τ (regex_Valid_q36 Q E) E H) (by kernel_rfl) (vc_seq (K := (regex_Valid_84_M Q E)) (regex_Valid_87ok Q E τ H h) (regex_Valid_85ok Q E)))

theorem regex_Valid_89ok (Q : QT) (E : ET) (τ : Tau) (H : Heap) (h : regex_Valid_86_M Q E τ H) : vc Pr regex_Valid_p1 τ (regex_Valid_q1 Q E) E H :=
  (conv (B := vc Pr regex_Valid_p1 τ (regex_Valid_q1 Q E) E H) (by kernel_rfl) (vc_seq (K := (regex_Valid_81_M Q E)) (regex_Valid_88ok Q E τ H h) (regex_Valid_83ok Q E)))

@[reducible] noncomputable def regex_Valid_q38 (Q : QT) (E : ET) : Exit → Tau → Heap → Prop := (xthen (regex_Valid_86_M Q E) (regex_Valid_q1 Q E))

@[reducible] noncomputable def regex_Valid_p63 : Code := sA regex_Valid_p0

def regex_Valid (Q : QT) (E : ET) (a0 : OA) (a0l : Nat) (a0c : Nat) (H : Heap) : Prop :=
 regex_Valid_86 Q E a0 a0l a0c H

theorem regex_Valid_fn (a0 : OA) (a0l : Nat) (a0c : Nat) (Q : QT) (E : ET) (H : Heap) (h : regex_Valid Q E a0 a0l a0c H)   : Does Pr 40 #[(.slice a0 a0l a0c)] H Q E :=
  Fn_of_vc (fn := Try.f40) (c := regex_Valid_p0) (args := [(.slice a0 a0l a0c)]) mixed (by kernel_rfl) (by kernel_rfl) (by kernel_rfl) (by kernel_rfl) (by kernel_rfl) ((conv (B := vc Pr regex_Valid_p0 (argT [(.slice a0 a0l a0c)]) (regex_Valid_q1 Q E) E H) (by kernel_rfl) (vc_seq (K := (regex_Valid_86_M Q E)) (conv (B := vc Pr regex_Valid_p63 (argT [(.slice a0 a0l a0c)]) (regex_Valid_q38 Q E) E H) (by kernel_rfl) h) (regex_Valid_89ok Q E))))

/-! (*jobmux/regex.parser).pattern -/
@[reducible] noncomputable def regex_parser_pattern_q1 (Q : QT) (E : ET) : Exit → Tau → Heap → Prop := (retQ Pr (Try.f60).results.toList Q)

@[reducible] noncomputable def regex_parser_pattern_p0 : Code := bodyOf Try.f60

@[reducible] noncomputable def regex_parser_pattern_p1 : Code := sB regex_parser_pattern_p0

@[reducible] noncomputable def regex_parser_pattern_p2 : Code := sB regex_parser_pattern_p1

@[reducible] noncomputable def regex_parser_pattern_q2 (Q : QT) (E : ET) : Exit → Tau → Heap → Prop := (xblock 0 (regex_parser_pattern_q1 Q E))

@[reducible] noncomputable def regex_parser_pattern_p3 : Code := sI regex_parser_pattern_p2

@[reducible] noncomputable def regex_parser_pattern_q3 (nx4 : Int → HP) (Q : QT) (E : ET) : Exit → Tau → Heap → Prop := (xthen (fun τ H => mI .i64 (τ 3) fun x3' => nx4 x3' H) (regex_parser_pattern_q2 Q E))

@[reducible] noncomputable def regex_parser_pattern_p4 : Code := sI regex_parser_pattern_p3

@[reducible] noncomputable def regex_parser_pattern_q4 (nx4 : Int → HP) (Q : QT) (E : ET) : Exit → Tau → Heap → Prop := (xblock 1 (regex_parser_pattern_q3 nx4 Q E))

@[reducible] noncomputable def regex_parser_pattern_p5 : Code := sI regex_parser_pattern_p4

@[reducible] noncomputable def regex_parser_pattern_p6 : Code := sB regex_parser_pattern_p5

def regex_parser_pattern_1 (nx4 : Int → HP) (Q : QT) (E : ET) (x0 : OA) (x3 : Int) (H : Heap) : Prop :=
 ptr x0 fun q9 =>
 ldI .i64 (Addr.add q9 1) H fun n10 =>
 ptr x0 fun q11 =>
 wr (Addr.add q11 1) [(.int .i64 (IntKind.wrap .i64 (n10 + 1)))] H fun H12 =>
 Does Pr 93 #[(.pointer x0)] H12 (fun v13 H14 =>
 ∃ n15 : Int, v13 = (.int .i64 n15) ∧ Does Pr 95 #[(.pointer x0), (.agg #[(.int .i64 4), (.int .i64 x3), (.int .i64 n15), (.int .u64 0), (.int .u64 0), (.int .u64 0), (.int .u64 0)])] H14 (fun v16 H17 =>
 ∃ n18 : Int, v16 = (.int .i64 n18) ∧ nx4 n18 H17) E) E

def regex_parser_pattern_1_M (nx4 : Int → HP) (Q : QT) (E : ET) (τ : Tau) (H : Heap) : Prop := mP (τ 0) fun x0 => mI .i64 (τ 3) fun x3 => regex_parser_pattern_1 nx4 Q E x0 x3 H

theorem regex_parser_pattern_2ok (nx4 : Int → HP) (Q : QT) (E : ET) (τ : Tau) (H : Heap) (h : regex_parser_pattern_1_M nx4 Q E τ H) : vc Pr regex_parser_pattern_p6 τ (regex_parser_pattern_q4 nx4 Q E) E H :=
  vP (i := 0) h (fun x0 h => vI (i := 3) h (fun x3 h => (conv (by kernel_rfl) h)))

@[reducible] noncomputable def regex_parser_pattern_q5 (nx4 : Int → HP) (Q : QT) (E : ET) : Exit → Tau → Heap → Prop := (xthen (regex_parser_pattern_1_M nx4 Q E) (regex_parser_pattern_q4 nx4 Q E))

@[reducible] noncomputable def regex_parser_pattern_p7 : Code := sA regex_parser_pattern_p5

@[reducible] noncomputable def regex_parser_pattern_p8 : Code := sB regex_parser_pattern_p7

@[reducible] noncomputable def regex_parser_pattern_p9 : Code := sB regex_parser_pattern_p8

def regex_parser_pattern_3 (nx4 : Int → HP) (Q : QT) (E : ET) (x0 : OA) (x3 : Int) (x18 : Bool) (H : Heap) : Prop :=
 sel x18
 (Q (.int .i64 x3) H)
 (regex_parser_pattern_1 nx4 Q E x0 x3 H)

def regex_parser_pattern_3_M (nx4 : Int → HP) (Q : QT) (E : ET) (τ : Tau) (H : Heap) : Prop := mP (τ 0) fun x0 => mI .i64 (τ 3) fun x3 => mB (τ 18) fun x18 => regex_parser_pattern_3 nx4 Q E x0 x3 x18 H

theorem regex_parser_pattern_4ok (nx4 : Int → HP) (Q : QT) (E : ET) (τ : Tau) (H : Heap) (h : regex_parser_pattern_3_M nx4 Q E τ H) : vc Pr regex_parser_pattern_p9 τ (regex_parser_pattern_q5 nx4 Q E) E H :=
  vP (i := 0) h (fun x0 h => vI (i := 3) h (fun x3 h => vB (i := 18) h (fun x18 h => (conv (by kernel_rfl) h))))

@[reducible] noncomputable def regex_parser_pattern_q6 (nx4 : Int → HP) (Q : QT) (E : ET) : Exit → Tau → Heap → Prop := (xthen (regex_parser_pattern_3_M nx4 Q E) (regex_parser_pattern_q5 nx4 Q E))

@[reducible] noncomputable def regex_parser_pattern_p10 : Code := sA regex_parser_pattern_p8

def regex_parser_pattern_5 (nx4 : Int → HP) (Q : QT) (E : ET) (x0 : OA) (x3 : Int) (x4 : Int) (x5 : Bool) (H : Heap) : Prop :=
 sel (!x5)
 (regex_parser_pattern_3 nx4 Q E x0 x3 true H)
 (regex_parser_pattern_3 nx4 Q E x0 x3 ((x4 : Int) != 124) H)

def regex_parser_pattern_5_M (nx4 : Int → HP) (Q : QT) (E : ET) (τ : Tau) (H : Heap) : Prop := mP (τ 0) fun x0 => mI .i64 (τ 3) fun x3 => mI .u8 (τ 4) fun x4 => mB (τ 5) fun x5 => regex_parser_pattern_5 nx4 Q E x0 x3 x4 x5 H

theorem regex_parser_pattern_6ok (nx4 : Int → HP) (Q : QT) (E : ET) (τ : Tau) (H : Heap) (h : regex_parser_pattern_5_M nx4 Q E τ H) : vc Pr regex_parser_pattern_p10 τ (regex_parser_pattern_q6 nx4 Q E) E H :=
  vP (i := 0) h (fun x0 h => vI (i := 3) h (fun x3 h => vI (i := 4) h (fun x4 h => vB (i := 5) h (fun x5 h => (conv (by kernel_rfl) h)))))

theorem regex_parser_pattern_7ok (nx4 : Int → HP) (Q : QT) (E : ET) (τ : Tau) (H : Heap) (h : regex_parser_pattern_5_M nx4 Q E τ H) : vc Pr regex_parser_pattern_p8 τ (regex_parser_pattern_q5 nx4 Q E) E H :=
  (conv (B := vc Pr regex_parser_pattern_p8 τ (regex_parser_pattern_q5 nx4 Q E) E H) (by kernel_rfl) (vc_seq (K := (regex_parser_pattern_3_M nx4 Q E)) (regex_parser_pattern_6ok nx4 Q E τ H h) (regex_parser_pattern_4ok nx4 Q E)))

@[reducible] noncomputable def regex_parser_pattern_q7 (nx4 : Int → HP) (Q : QT) (E : ET) : Exit → Tau → Heap → Prop := (xthen (regex_parser_pattern_5_M nx4 Q E) (regex_parser_pattern_q5 nx4 Q E))

@[reducible] noncomputable def regex_parser_pattern_p11 : Code := sA regex_parser_pattern_p7

def regex_parser_pattern_8 (nx4 : Int → HP) (Q : QT) (E : ET) (x0 : OA) (x3 : Int) (H : Heap) : Prop :=
 Does Pr 94 #[(.pointer x0)] H (fun v23 H24 =>
 ∃ n25 : Int, ∃ b26 : Bool, v23 = (.tuple #[(.int .u8 n25), (.bool b26)]) ∧ regex_parser_pattern_5 nx4 Q E x0 x3 n25 b26 H24) E

def regex_parser_pattern_8_M (nx4 : Int → HP) (Q : QT) (E : ET) (τ : Tau) (H : Heap) : Prop := mP (τ 0) fun x0 => mI .i64 (τ 3) fun x3 => regex_parser_pattern_8 nx4 Q E x0 x3 H

theorem regex_parser_pattern_9ok (nx4 : Int → HP) (Q : QT) (E : ET) (τ : Tau) (H : Heap) (h : regex_parser_pattern_8_M nx4 Q E τ H) : vc Pr regex_parser_pattern_p11 τ (regex_parser_pattern_q7 nx4 Q E) E H :=
  vP (i := 0) h (fun x0 h => vI (i := 3) h (fun x3 h => (conv (by kernel_rfl) h)))

theorem regex_parser_pattern_10ok (nx4 : Int → HP) (Q : QT) (E : ET) (τ : Tau) (H : Heap) (h : regex_parser_pattern_8_M nx4 Q E τ H) : vc Pr regex_parser_pattern_p7 τ (regex_parser_pattern_q5 nx4 Q E) E H :=
  (conv (B := vc Pr regex_parser_pattern_p7 τ (regex_parser_pattern_q5 nx4 Q E) E H) (by kernel_rfl) (vc_seq (K := (regex_parser_pattern_5_M nx4 Q E)) (regex_parser_pattern_9ok nx4 Q E τ H h) (regex_parser_pattern_7ok nx4 Q E)))

theorem regex_parser_pattern_11ok (nx4 : Int → HP) (Q : QT) (E : ET) (τ : Tau) (H : Heap) (h : regex_parser_pattern_8_M nx4 Q E τ H) : vc Pr regex_parser_pattern_p5 τ (regex_parser_pattern_q4 nx4 Q E) E H :=
  (conv (B := vc Pr regex_parser_pattern_p5 τ (regex_parser_pattern_q4 nx4 Q E) E H) (by kernel_rfl) (vc_seq (K := (regex_parser_pattern_1_M nx4 Q E)) (regex_parser_pattern_10ok nx4 Q E τ H h) (regex_parser_pattern_2ok nx4 Q E)))

theorem regex_parser_pattern_12ok (nx4 : Int → HP) (Q : QT) (E : ET) (τ : Tau) (H : Heap) (h : regex_parser_pattern_8_M nx4 Q E τ H) : vc Pr regex_parser_pattern_p4 τ (regex_parser_pattern_q3 nx4 Q E) E H :=
  (conv (B := vc Pr regex_parser_pattern_p4 τ (regex_parser_pattern_q3 nx4 Q E) E H) (by kernel_rfl) (regex_parser_pattern_11ok nx4 Q E τ H h))

def regex_parser_pattern_13 (Q : QT) (E : ET) (x0 : OA) (x3 : Int) (H : Heap) : Prop :=
 ∃ (I : Int → HP) (μ : Int → Heap → Nat), I x3 H ∧ ∀ (x3 : Int) (H : Heap), I x3 H →
 regex_parser_pattern_8 (fun x3' H1 => I x3' H1 ∧ μ x3' H1 < μ x3 H) Q E x0 x3 H

def regex_parser_pattern_13_M (Q : QT) (E : ET) (τ : Tau) (H : Heap) : Prop := mP (τ 0) fun x0 => mI .i64 (τ 3) fun x3 => regex_parser_pattern_13 Q E x0 x3 H

theorem regex_parser_pattern_14ok (Q : QT) (E : ET) (τ : Tau) (H : Heap) (h : regex_parser_pattern_13_M Q E τ H) : vc Pr regex_parser_pattern_p3 τ (regex_parser_pattern_q2 Q E) E H :=
  vP (i := 0) h (fun x0 h => vI (i := 3) h (fun x3 h => match h with | ⟨I, μ, h0, hr⟩ => (conv (B := vc Pr regex_parser_pattern_p3 (Tau.upd (Tau.upd τ 0 (.pointer x0)) 3 (.int .i64 x3)) (regex_parser_pattern_q2 Q E) E H) (by kernel_rfl) (vc_loop (c := sI regex_parser_pattern_p3) (τ := (Tau.upd (Tau.upd τ 0 (.pointer x0)) 3 (.int .i64 x3))) [0] (fun τ H => mI .i64 (τ 3) fun x3' => I x3' H) (fun τ H => μ (gI (τ 3)) H) (by kernel_rfl) h0 (fun τ1 H1 hf hI => fix_elim (τ := τ1) (i := 0) (v := (.pointer x0)) (G := fun τ => vc Pr (sI regex_parser_pattern_p3) τ (xthen (fun τ2 H2 => (mI .i64 (τ2 3) fun x3' => I x3' H2) ∧ μ (gI (τ2 3)) H2 < μ (gI (τ 3)) H1) (regex_parser_pattern_q2 Q E)) E H1) (hf 0 (by simp)) (mI_elim (i := 3) (G := fun τ => vc Pr (sI regex_parser_pattern_p3) τ (xthen (fun τ2 H2 => (mI .i64 (τ2 3) fun x3' => I x3' H2) ∧ μ (gI (τ2 3)) H2 < μ (gI (τ 3)) H1) (regex_parser_pattern_q2 Q E)) E H1) hI (fun x3r h => (conv (B := vc Pr (sI regex_parser_pattern_p3) (Tau.upd (Tau.upd τ1 0 (.pointer x0)) 3 (.int .i64 x3r)) (xthen (fun τ2 H2 => (mI .i64 (τ2 3) fun x3' => I x3' H2) ∧ μ (gI (τ2 3)) H2 < μ (gI ((Tau.upd (Tau.upd τ1 0 (.pointer x0)) 3 (.int .i64 x3r)) 3)) H1) (regex_parser_pattern_q2 Q E)) E H1) (by kernel_rfl) (vc_xthen (regex_parser_pattern_12ok (fun x3' H2 => I x3' H2 ∧ μ x3' H2 < μ x3r H1) Q E (Tau.upd (Tau.upd τ1 0 (.pointer x0)) 3 (.int .i64 x3r)) H1 (conv (B := regex_parser_pattern_8_M (fun x3' H2 => I x3' H2 ∧ μ x3' H2 < μ x3r H1) Q E (Tau.upd (Tau.upd τ1 0 (.pointer x0)) 3 (.int .i64 x3r)) H1) (by kernel_rfl) (hr x3r H1 h))) (fun τ2 H2 hk => mI_elim (i := 3) (G := fun τ => (mI .i64 (τ 3) fun x3' => I x3' H2) ∧ μ (gI (τ 3)) H2 < μ x3r H1) hk (fun x3' h => h)))))))))))

theorem regex_parser_pattern_15ok (Q : QT) (E : ET) (τ : Tau) (H : Heap) (h : regex_parser_pattern_13_M Q E τ H) : vc Pr regex_parser_pattern_p2 τ (regex_parser_pattern_q1 Q E) E H :=
  (conv (B := vc Pr regex_parser_pattern_p2 τ (regex_parser_pattern_q1 Q E) E H) (by kernel_rfl) (regex_parser_pattern_14ok Q E τ H h))

@[reducible] noncomputable def regex_parser_pattern_q8 (Q : QT) (E : ET) : Exit → Tau → Heap → Prop := (xthen (regex_parser_pattern_13_M Q E) (regex_parser_pattern_q1 Q E))

@[reducible] noncomputable def regex_parser_pattern_p12 : Code := sA regex_parser_pattern_p1

def regex_parser_pattern_16 (Q : QT) (E : ET) (x0 : OA) (H : Heap) : Prop :=
 Does Pr 93 #[(.pointer x0)] H (fun v27 H28 =>
 ∃ n29 : Int, v27 = (.int .i64 n29) ∧ regex_parser_pattern_13 Q E x0 n29 H28) E

def regex_parser_pattern_16_M (Q : QT) (E : ET) (τ : Tau) (H : Heap) : Prop := mP (τ 0) fun x0 => regex_parser_pattern_16 Q E x0 H

theorem regex_parser_pattern_17ok (Q : QT) (E : ET) (τ : Tau) (H : Heap) (h : regex_parser_pattern_16_M Q E τ H) : vc Pr regex_parser_pattern_p12 τ (regex_parser_pattern_q8 Q E) E H :=
  vP (i := 0) h (fun x0 h => (conv (by kernel_rfl) h))

theorem regex_parser_pattern_18ok (Q : QT) (E : ET) (τ : Tau) (H : Heap) (h : regex_parser_pattern_16_M Q E τ H) : vc Pr regex_parser_pattern_p1 τ (regex_parser_pattern_q1 Q E) E H :=
  (conv (B := vc Pr regex_parser_pattern_p1 τ (regex_parser_pattern_q1 Q E) E H) (by kernel_rfl) (vc_seq (K := (regex_parser_pattern_13_M Q E)) (regex_parser_pattern_17ok Q E τ H h) (regex_parser_pattern_15ok Q E)))

@[reducible] noncomputable def regex_parser_pattern_q9 (Q : QT) (E : ET) : Exit → Tau → Heap → Prop := (xthen (regex_parser_pattern_16_M Q E) (regex_parser_pattern_q1 Q E))

@[reducible] noncomputable def regex_parser_pattern_p13 : Code := sA regex_parser_pattern_p0

def regex_parser_pattern (Q : QT) (E : ET) (a0 : OA) (H : Heap) : Prop :=
 regex_parser_pattern_16 Q E a0 H

theorem regex_parser_pattern_fn (a0 : OA) (Q : QT) (E : ET) (H : Heap) (h : regex_parser_pattern Q E a0 H)   : Does Pr 60 #[(.pointer a0)] H Q E :=
  Fn_of_vc (fn := Try.f60) (c := regex_parser_pattern_p0) (args := [(.pointer a0)]) mixed (by kernel_rfl) (by kernel_rfl) (by kernel_rfl) (by kernel_rfl) (by kernel_rfl) ((conv (B := vc Pr regex_parser_pattern_p0 (argT [(.pointer a0)]) (regex_parser_pattern_q1 Q E) E H) (by kernel_rfl) (vc_seq (K := (regex_parser_pattern_16_M Q E)) (conv (B := vc Pr regex_parser_pattern_p13 (argT [(.pointer a0)]) (regex_parser_pattern_q9 Q E) E H) (by kernel_rfl) h) (regex_parser_pattern_18ok Q E))))

/-! jobmux/regex.Kids -/
@[reducible] noncomputable def regex_Kids_q1 (Q : QT) (E : ET) : Exit → Tau → Heap → Prop := (retQ Pr (Try.f74).results.toList Q)

@[reducible] noncomputable def regex_Kids_p0 : Code := bodyOf Try.f74

@[reducible] noncomputable def regex_Kids_p1 : Code := sB regex_Kids_p0

@[reducible] noncomputable def regex_Kids_p2 : Code := sB regex_Kids_p1

def regex_Kids_1 (Q : QT) (E : ET)  (H : Heap) : Prop :=
 Q (.int .i64 (-1)) H

def regex_Kids_1_M (Q : QT) (E : ET) (τ : Tau) (H : Heap) : Prop := regex_Kids_1 Q E  H

theorem regex_Kids_2ok (Q : QT) (E : ET) (τ : Tau) (H : Heap) (h : regex_Kids_1_M Q E τ H) : vc Pr regex_Kids_p2 τ (regex_Kids_q1 Q E) E H :=
  (conv (B := vc Pr regex_Kids_p2 τ (regex_Kids_q1 Q E) E H) (by kernel_rfl) h)

@[reducible] noncomputable def regex_Kids_q2 (Q : QT) (E : ET) : Exit → Tau → Heap → Prop := (xthen (regex_Kids_1_M Q E) (regex_Kids_q1 Q E))

@[reducible] noncomputable def regex_Kids_p3 : Code := sA regex_Kids_p1

@[reducible] noncomputable def regex_Kids_p4 : Code := sB regex_Kids_p3

@[reducible] noncomputable def regex_Kids_q3 (Q : QT) (E : ET) : Exit → Tau → Heap → Prop := (xblock 0 (regex_Kids_q2 Q E))

@[reducible] noncomputable def regex_Kids_p5 : Code := sI regex_Kids_p4

@[reducible] noncomputable def regex_Kids_p6 : Code := sB regex_Kids_p5

@[reducible] noncomputable def regex_Kids_p7 : Code := sT regex_Kids_p6

def regex_Kids_3 (Q : QT) (E : ET)  (H : Heap) : Prop :=
 Q (.int .i64 0) H

def regex_Kids_3_M (Q : QT) (E : ET) (τ : Tau) (H : Heap) : Prop := regex_Kids_3 Q E  H

theorem regex_Kids_4ok (Q : QT) (E : ET) (τ : Tau) (H : Heap) (h : regex_Kids_3_M Q E τ H) : vc Pr regex_Kids_p7 τ (regex_Kids_q3 Q E) E H :=
  (conv (B := vc Pr regex_Kids_p7 τ (regex_Kids_q3 Q E) E H) (by kernel_rfl) h)

@[reducible] noncomputable def regex_Kids_p8 : Code := sE regex_Kids_p6

@[reducible] noncomputable def regex_Kids_p9 : Code := sB regex_Kids_p8

@[reducible] noncomputable def regex_Kids_p10 : Code := sT regex_Kids_p9

def regex_Kids_5 (Q : QT) (E : ET)  (H : Heap) : Prop :=
 Q (.int .i64 1) H

def regex_Kids_5_M (Q : QT) (E : ET) (τ : Tau) (H : Heap) : Prop := regex_Kids_5 Q E  H

theorem regex_Kids_6ok (Q : QT) (E : ET) (τ : Tau) (H : Heap) (h : regex_Kids_5_M Q E τ H) : vc Pr regex_Kids_p10 τ (regex_Kids_q3 Q E) E H :=
  (conv (B := vc Pr regex_Kids_p10 τ (regex_Kids_q3 Q E) E H) (by kernel_rfl) h)

@[reducible] noncomputable def regex_Kids_p11 : Code := sE regex_Kids_p9

@[reducible] noncomputable def regex_Kids_p12 : Code := sB regex_Kids_p11

def regex_Kids_7 (Q : QT) (E : ET) (x13 : Bool) (H : Heap) : Prop :=
 sel x13
 (Q (.int .i64 2) H)
 (regex_Kids_1 Q E  H)

def regex_Kids_7_M (Q : QT) (E : ET) (τ : Tau) (H : Heap) : Prop := mB (τ 13) fun x13 => regex_Kids_7 Q E x13 H

theorem regex_Kids_8ok (Q : QT) (E : ET) (τ : Tau) (H : Heap) (h : regex_Kids_7_M Q E τ H) : vc Pr regex_Kids_p12 τ (regex_Kids_q3 Q E) E H :=
  vB (i := 13) h (fun x13 h => (conv (by kernel_rfl) h))

@[reducible] noncomputable def regex_Kids_q4 (Q : QT) (E : ET) : Exit → Tau → Heap → Prop := (xthen (regex_Kids_7_M Q E) (regex_Kids_q3 Q E))

@[reducible] noncomputable def regex_Kids_p13 : Code := sA regex_Kids_p11

def regex_Kids_9 (Q : QT) (E : ET) (x3 : Int) (H : Heap) : Prop :=
 sel ((x3 : Int) == 3)
 (regex_Kids_7 Q E ((x3 : Int) == 3) H)
 (regex_Kids_7 Q E ((x3 : Int) == 4) H)

def regex_Kids_9_M (Q : QT) (E : ET) (τ : Tau) (H : Heap) : Prop := mI .i64 (τ 3) fun x3 => regex_Kids_9 Q E x3 H

theorem regex_Kids_10ok (Q : QT) (E : ET) (τ : Tau) (H : Heap) (h : regex_Kids_9_M Q E τ H) : vc Pr regex_Kids_p13 τ (regex_Kids_q4 Q E) E H :=
  vI (i := 3) h (fun x3 h => (conv (by kernel_rfl) h))

theorem regex_Kids_11ok (Q : QT) (E : ET) (τ : Tau) (H : Heap) (h : regex_Kids_9_M Q E τ H) : vc Pr regex_Kids_p11 τ (regex_Kids_q3 Q E) E H :=
  (conv (B := vc Pr regex_Kids_p11 τ (regex_Kids_q3 Q E) E H) (by kernel_rfl) (vc_seq (K := (regex_Kids_7_M Q E)) (regex_Kids_10ok Q E τ H h) (regex_Kids_8ok Q E)))

def regex_Kids_12 (Q : QT) (E : ET) (x3 : Int) (x9 : Bool) (H : Heap) : Prop :=
 sel x9
 (regex_Kids_5 Q E  H)
 (regex_Kids_9 Q E x3 H)

def regex_Kids_12_M (Q : QT) (E : ET) (τ : Tau) (H : Heap) : Prop := mI .i64 (τ 3) fun x3 => mB (τ 9) fun x9 => regex_Kids_12 Q E x3 x9 H

theorem regex_Kids_13ok (Q : QT) (E : ET) (τ : Tau) (H : Heap) (h : regex_Kids_12_M Q E τ H) : vc Pr regex_Kids_p9 τ (regex_Kids_q3 Q E) E H :=
  vI (i := 3) h (fun x3 h => vB (i := 9) h (fun x9 h => (conv (B := vc Pr regex_Kids_p9 (Tau.upd (Tau.upd τ 3 (.int .i64 x3)) 9 (.bool x9)) (regex_Kids_q3 Q E) E H) (by kernel_rfl) (sel_map (regex_Kids_6ok Q E (Tau.upd (Tau.upd τ 3 (.int .i64 x3)) 9 (.bool x9)) H) (regex_Kids_11ok Q E (Tau.upd (Tau.upd τ 3 (.int .i64 x3)) 9 (.bool x9)) H) (conv (B := sel x9 (regex_Kids_5_M Q E (Tau.upd (Tau.upd τ 3 (.int .i64 x3)) 9 (.bool x9)) H) (regex_Kids_9_M Q E (Tau.upd (Tau.upd τ 3 (.int .i64 x3)) 9 (.bool x9)) H)) (by kernel_rfl) h)))))

@[reducible] noncomputable def regex_Kids_q5 (Q : QT) (E : ET) : Exit → Tau → Heap → Prop := (xthen (regex_Kids_12_M Q E) (regex_Kids_q3 Q E))

@[reducible] noncomputable def regex_Kids_p14 : Code := sA regex_Kids_p8

def regex_Kids_14 (Q : QT) (E : ET) (x3 : Int) (H : Heap) : Prop :=
 sel ((x3 : Int) == 5)
 (regex_Kids_12 Q E x3 ((x3 : Int) == 5) H)
 (sel ((x3 : Int) == 6)
 (regex_Kids_12 Q E x3 ((x3 : Int) == 6) H)
 (regex_Kids_12 Q E x3 ((x3 : Int) == 7) H))

def regex_Kids_14_M (Q : QT) (E : ET) (τ : Tau) (H : Heap) : Prop := mI .i64 (τ 3) fun x3 => regex_Kids_14 Q E x3 H

theorem regex_Kids_15ok (Q : QT) (E : ET) (τ : Tau) (H : Heap) (h : regex_Kids_14_M Q E τ H) : vc Pr regex_Kids_p14 τ (regex_Kids_q5 Q E) E H :=
  vI (i := 3) h (fun x3 h => (conv (by kernel_rfl) h))

theorem regex_Kids_16ok (Q : QT) (E : ET) (τ : Tau) (H : Heap) (h : regex_Kids_14_M Q E τ H) : vc Pr regex_Kids_p8 τ (regex_Kids_q3 Q E) E H :=
  (conv (B := vc Pr regex_Kids_p8 τ (regex_Kids_q3 Q E) E H) (by kernel_rfl) (vc_seq (K := (regex_Kids_12_M Q E)) (regex_Kids_15ok Q E τ H h) (regex_Kids_13ok Q E)))

def regex_Kids_17 (Q : QT) (E : ET) (x3 : Int) (x4 : Bool) (H : Heap) : Prop :=
 sel x4
 (regex_Kids_3 Q E  H)
 (regex_Kids_14 Q E x3 H)

def regex_Kids_17_M (Q : QT) (E : ET) (τ : Tau) (H : Heap) : Prop := mI .i64 (τ 3) fun x3 => mB (τ 4) fun x4 => regex_Kids_17 Q E x3 x4 H

theorem regex_Kids_18ok (Q : QT) (E : ET) (τ : Tau) (H : Heap) (h : regex_Kids_17_M Q E τ H) : vc Pr regex_Kids_p6 τ (regex_Kids_q3 Q E) E H :=
  vI (i := 3) h (fun x3 h => vB (i := 4) h (fun x4 h => (conv (B := vc Pr regex_Kids_p6 (Tau.upd (Tau.upd τ 3 (.int .i64 x3)) 4 (.bool x4)) (regex_Kids_q3 Q E) E H) (by kernel_rfl) (sel_map (regex_Kids_4ok Q E (Tau.upd (Tau.upd τ 3 (.int .i64 x3)) 4 (.bool x4)) H) (regex_Kids_16ok Q E (Tau.upd (Tau.upd τ 3 (.int .i64 x3)) 4 (.bool x4)) H) (conv (B := sel x4 (regex_Kids_3_M Q E (Tau.upd (Tau.upd τ 3 (.int .i64 x3)) 4 (.bool x4)) H) (regex_Kids_14_M Q E (Tau.upd (Tau.upd τ 3 (.int .i64 x3)) 4 (.bool x4)) H)) (by kernel_rfl) h)))))

@[reducible] noncomputable def regex_Kids_q6 (Q : QT) (E : ET) : Exit → Tau → Heap → Prop := (xthen (regex_Kids_17_M Q E) (regex_Kids_q3 Q E))

@[reducible] noncomputable def regex_Kids_p15 : Code := sA regex_Kids_p5

def regex_Kids_19 (Q : QT) (E : ET) (x3 : Int) (H : Heap) : Prop :=
 sel ((x3 : Int) == 1)
 (regex_Kids_17 Q E x3 ((x3 : Int) == 1) H)
 (sel ((x3 : Int) == 2)
 (regex_Kids_17 Q E x3 ((x3 : Int) == 2) H)
 (sel ((x3 : Int) == 8)
 (regex_Kids_17 Q E x3 ((x3 : Int) == 8) H)
 (regex_Kids_17 Q E x3 ((x3 : Int) == 9) H)))

def regex_Kids_19_M (Q : QT) (E : ET) (τ : Tau) (H : Heap) : Prop := mI .i64 (τ 3) fun x3 => regex_Kids_19 Q E x3 H

theorem regex_Kids_20ok (Q : QT) (E : ET) (τ : Tau) (H : Heap) (h : regex_Kids_19_M Q E τ H) : vc Pr regex_Kids_p15 τ (regex_Kids_q6 Q E) E H :=
  vI (i := 3) h (fun x3 h => (conv (by kernel_rfl) h))

theorem regex_Kids_21ok (Q : QT) (E : ET) (τ : Tau) (H : Heap) (h : regex_Kids_19_M Q E τ H) : vc Pr regex_Kids_p5 τ (regex_Kids_q3 Q E) E H :=
  (conv (B := vc Pr regex_Kids_p5 τ (regex_Kids_q3 Q E) E H) (by kernel_rfl) (vc_seq (K := (regex_Kids_17_M Q E)) (regex_Kids_20ok Q E τ H h) (regex_Kids_18ok Q E)))

theorem regex_Kids_22ok (Q : QT) (E : ET) (τ : Tau) (H : Heap) (h : regex_Kids_19_M Q E τ H) : vc Pr regex_Kids_p4 τ (regex_Kids_q2 Q E) E H :=
  (conv (B := vc Pr regex_Kids_p4 τ (regex_Kids_q2 Q E) E H) (by kernel_rfl) (regex_Kids_21ok Q E τ H h))

@[reducible] noncomputable def regex_Kids_q7 (Q : QT) (E : ET) : Exit → Tau → Heap → Prop := (xthen (regex_Kids_19_M Q E) (regex_Kids_q2 Q E))

@[reducible] noncomputable def regex_Kids_p16 : Code := sA regex_Kids_p3

def regex_Kids_23 (Q : QT) (E : ET) (x0 : Int) (H : Heap) : Prop :=
 regex_Kids_19 Q E x0 H

def regex_Kids_23_M (Q : QT) (E : ET) (τ : Tau) (H : Heap) : Prop := mI .i64 (τ 0) fun x0 => regex_Kids_23 Q E x0 H

theorem regex_Kids_24ok (Q : QT) (E : ET) (τ : Tau) (H : Heap) (h : regex_Kids_23_M Q E τ H) : vc Pr regex_Kids_p16 τ (regex_Kids_q7 Q E) E H :=
  vI (i := 0) h (fun x0 h => (conv (by kernel_rfl) h))

theorem regex_Kids_25ok (Q : QT) (E : ET) (τ : Tau) (H : Heap) (h : regex_Kids_23_M Q E τ H) : vc Pr regex_Kids_p3 τ (regex_Kids_q2 Q E) E H :=
  (conv (B := vc Pr regex_Kids_p3 τ (regex_Kids_q2 Q E) E H) (by kernel_rfl) (vc_seq (K := (regex_Kids_19_M Q E)) (regex_Kids_24ok Q E τ H h) (regex_Kids_22ok Q E)))

theorem regex_Kids_26ok (Q : QT) (E : ET) (τ : Tau) (H : Heap) (h : regex_Kids_23_M Q E τ H) : vc Pr regex_Kids_p1 τ (regex_Kids_q1 Q E) E H :=
  (conv (B := vc Pr regex_Kids_p1 τ (regex_Kids_q1 Q E) E H) (by kernel_rfl) (vc_seq (K := (regex_Kids_1_M Q E)) (regex_Kids_25ok Q E τ H h) (regex_Kids_2ok Q E)))

@[reducible] noncomputable def regex_Kids_q8 (Q : QT) (E : ET) : Exit → Tau → Heap → Prop := (xthen (regex_Kids_23_M Q E) (regex_Kids_q1 Q E))

@[reducible] noncomputable def regex_Kids_p17 : Code := sA regex_Kids_p0

def regex_Kids (Q : QT) (E : ET) (a0 : Int) (H : Heap) : Prop :=
 regex_Kids_23 Q E a0 H

theorem regex_Kids_fn (a0 : Int) (Q : QT) (E : ET) (H : Heap) (h : regex_Kids Q E a0 H)   : Does Pr 74 #[(.int .i64 a0)] H Q E :=
  Fn_of_vc (fn := Try.f74) (c := regex_Kids_p0) (args := [(.int .i64 a0)]) mixed (by kernel_rfl) (by kernel_rfl) (by kernel_rfl) (by kernel_rfl) (by kernel_rfl) ((conv (B := vc Pr regex_Kids_p0 (argT [(.int .i64 a0)]) (regex_Kids_q1 Q E) E H) (by kernel_rfl) (vc_seq (K := (regex_Kids_23_M Q E)) (conv (B := vc Pr regex_Kids_p17 (argT [(.int .i64 a0)]) (regex_Kids_q8 Q E) E H) (by kernel_rfl) h) (regex_Kids_26ok Q E))))

/-! (*jobmux/regex.parser).alternative -/
@[reducible] noncomputable def regex_parser_alternative_q1 (Q : QT) (E : ET) : Exit → Tau → Heap → Prop := (retQ Pr (Try.f93).results.toList Q)

@[reducible] noncomputable def regex_parser_alternative_p0 : Code := bodyOf Try.f93

@[reducible] noncomputable def regex_parser_alternative_p1 : Code := sB regex_parser_alternative_p0

@[reducible] noncomputable def regex_parser_alternative_p2 : Code := sB regex_parser_alternative_p1

@[reducible] noncomputable def regex_parser_alternative_p3 : Code := sB regex_parser_alternative_p2

@[reducible] noncomputable def regex_parser_alternative_p4 : Code := sB regex_parser_alternative_p3

def regex_parser_alternative_1 (Q : QT) (E : ET) (x3 : Int) (H : Heap) : Prop :=
 Q (.int .i64 x3) H

def regex_parser_alternative_1_M (Q : QT) (E : ET) (τ : Tau) (H : Heap) : Prop := mI .i64 (τ 3) fun x3 => regex_parser_alternative_1 Q E x3 H

theorem regex_parser_alternative_2ok (Q : QT) (E : ET) (τ : Tau) (H : Heap) (h : regex_parser_alternative_1_M Q E τ H) : vc Pr regex_parser_alternative_p4 τ (regex_parser_alternative_q1 Q E) E H :=
  vI (i := 3) h (fun x3 h => (conv (by kernel_rfl) h))

@[reducible] noncomputable def regex_parser_alternative_q2 (Q : QT) (E : ET) : Exit → Tau → Heap → Prop := (xthen (regex_parser_alternative_1_M Q E) (regex_parser_alternative_q1 Q E))

@[reducible] noncomputable def regex_parser_alternative_p5 : Code := sA regex_parser_alternative_p3

def regex_parser_alternative_3 (Q : QT) (E : ET) (x0 : OA) (x3 : Int) (H : Heap) : Prop :=
 sel (decide ((x3 : Int) < 0))
 (Does Pr 95 #[(.pointer x0), (.agg #[(.int .i64 1), (.int .i64 0), (.int .i64 0), (.int .u64 0), (.int .u64 0), (.int .u64 0), (.int .u64 0)])] H (fun v19 H20 =>
 ∃ n21 : Int, v19 = (.int .i64 n21) ∧ Q (.int .i64 n21) H20) E)
 (regex_parser_alternative_1 Q E x3 H)

def regex_parser_alternative_3_M (Q : QT) (E : ET) (τ : Tau) (H : Heap) : Prop := mP (τ 0) fun x0 => mI .i64 (τ 3) fun x3 => regex_parser_alternative_3 Q E x0 x3 H

theorem regex_parser_alternative_4ok (Q : QT) (E : ET) (τ : Tau) (H : Heap) (h : regex_parser_alternative_3_M Q E τ H) : vc Pr regex_parser_alternative_p5 τ (regex_parser_alternative_q2 Q E) E H :=
  vP (i := 0) h (fun x0 h => vI (i := 3) h (fun x3 h => (conv (by kernel_rfl) h)))

theorem regex_parser_alternative_5ok (Q : QT) (E : ET) (τ : Tau) (H : Heap) (h : regex_parser_alternative_3_M Q E τ H) : vc Pr regex_parser_alternative_p3 τ (regex_parser_alternative_q1 Q E) E H :=
  (conv (B := vc Pr regex_parser_alternative_p3 τ (regex_parser_alternative_q1 Q E) E H) (by kernel_rfl) (vc_seq (K := (regex_parser_alternative_1_M Q E)) (regex_parser_alternative_4ok Q E τ H h) (regex_parser_alternative_2ok Q E)))

@[reducible] noncomputable def regex_parser_alternative_q3 (Q : QT) (E : ET) : Exit → Tau → Heap → Prop := (xthen (regex_parser_alternative_3_M Q E) (regex_parser_alternative_q1 Q E))

@[reducible] noncomputable def regex_parser_alternative_p6 : Code := sA regex_parser_alternative_p2

@[reducible] noncomputable def regex_parser_alternative_q4 (Q : QT) (E : ET) : Exit → Tau → Heap → Prop := (xblock 0 (regex_parser_alternative_q3 Q E))

@[reducible] noncomputable def regex_parser_alternative_p7 : Code := sI regex_parser_alternative_p6

@[reducible] noncomputable def regex_parser_alternative_q5 (nx22 : Int → HP) (Q : QT) (E : ET) : Exit → Tau → Heap → Prop := (xthen (fun τ H => mI .i64 (τ 3) fun x3' => nx22 x3' H) (regex_parser_alternative_q4 Q E))

@[reducible] noncomputable def regex_parser_alternative_p8 : Code := sI regex_parser_alternative_p7

@[reducible] noncomputable def regex_parser_alternative_q6 (nx22 : Int → HP) (Q : QT) (E : ET) : Exit → Tau → Heap → Prop := (xblock 1 (regex_parser_alternative_q5 nx22 Q E))

@[reducible] noncomputable def regex_parser_alternative_p9 : Code := sI regex_parser_alternative_p8

@[reducible] noncomputable def regex_parser_alternative_p10 : Code := sB regex_parser_alternative_p9

@[reducible] noncomputable def regex_parser_alternative_p11 : Code := sB regex_parser_alternative_p10

@[reducible] noncomputable def regex_parser_alternative_p12 : Code := sB regex_parser_alternative_p11

@[reducible] noncomputable def regex_parser_alternative_p13 : Code := sB regex_parser_alternative_p12

@[reducible] noncomputable def regex_parser_alternative_p14 : Code := sB regex_parser_alternative_p13

def regex_parser_alternative_6 (nx22 : Int → HP) (Q : QT) (E : ET) (x0 : OA) (x6 : Int) (H : Heap) : Prop :=
 nx22 x6 H

def regex_parser_alternative_6_M (nx22 : Int → HP) (Q : QT) (E : ET) (τ : Tau) (H : Heap) : Prop := mP (τ 0) fun x0 => mI .i64 (τ 6) fun x6 => regex_parser_alternative_6 nx22 Q E x0 x6 H

theorem regex_parser_alternative_7ok (nx22 : Int → HP) (Q : QT) (E : ET) (τ : Tau) (H : Heap) (h : regex_parser_alternative_6_M nx22 Q E τ H) : vc Pr regex_parser_alternative_p14 τ (regex_parser_alternative_q6 nx22 Q E) E H :=
  vP (i := 0) h (fun x0 h => vI (i := 6) h (fun x6 h => (conv (by kernel_rfl) h)))

@[reducible] noncomputable def regex_parser_alternative_q7 (nx22 : Int → HP) (Q : QT) (E : ET) : Exit → Tau → Heap → Prop := (xthen (regex_parser_alternative_6_M nx22 Q E) (regex_parser_alternative_q6 nx22 Q E))

@[reducible] noncomputable def regex_parser_alternative_p15 : Code := sA regex_parser_alternative_p13

def regex_parser_alternative_8 (nx22 : Int → HP) (Q : QT) (E : ET) (x0 : OA) (x3 : Int) (x6 : Int) (H : Heap) : Prop :=
 sel (decide ((x3 : Int) ≥ 0))
 (Does Pr 95 #[(.pointer x0), (.agg #[(.int .i64 3), (.int .i64 x3), (.int .i64 x6), (.int .u64 0), (.int .u64 0), (.int .u64 0), (.int .u64 0)])] H (fun v38 H39 =>
 ∃ n40 : Int, v38 = (.int .i64 n40) ∧ regex_parser_alternative_6 nx22 Q E x0 n40 H39) E)
 (regex_parser_alternative_6 nx22 Q E x0 x6 H)

def regex_parser_alternative_8_M (nx22 : Int → HP) (Q : QT) (E : ET) (τ : Tau) (H : Heap) : Prop := mP (τ 0) fun x0 => mI .i64 (τ 3) fun x3 => mI .i64 (τ 6) fun x6 => regex_parser_alternative_8 nx22 Q E x0 x3 x6 H

theorem regex_parser_alternative_9ok (nx22 : Int → HP) (Q : QT) (E : ET) (τ : Tau) (H : Heap) (h : regex_parser_alternative_8_M nx22 Q E τ H) : vc Pr regex_parser_alternative_p15 τ (regex_parser_alternative_q7 nx22 Q E) E H :=
  vP (i := 0) h (fun x0 h => vI (i := 3) h (fun x3 h => vI (i := 6) h (fun x6 h => (conv (by kernel_rfl) h))))

theorem regex_parser_alternative_10ok (nx22 : Int → HP) (Q : QT) (E : ET) (τ : Tau) (H : Heap) (h : regex_parser_alternative_8_M nx22 Q E τ H) : vc Pr regex_parser_alternative_p13 τ (regex_parser_alternative_q6 nx22 Q E) E H :=
  (conv (B := vc Pr regex_parser_alternative_p13 τ (regex_parser_alternative_q6 nx22 Q E) E H) (by kernel_rfl) (vc_seq (K := (regex_parser_alternative_6_M nx22 Q E)) (regex_parser_alternative_9ok nx22 Q E τ H h) (regex_parser_alternative_7ok nx22 Q E)))

@[reducible] noncomputable def regex_parser_alternative_q8 (nx22 : Int → HP) (Q : QT) (E : ET) : Exit → Tau → Heap → Prop := (xthen (regex_parser_alternative_8_M nx22 Q E) (regex_parser_alternative_q6 nx22 Q E))

@[reducible] noncomputable def regex_parser_alternative_p16 : Code := sA regex_parser_alternative_p12

def regex_parser_alternative_11 (nx22 : Int → HP) (Q : QT) (E : ET) (x0 : OA) (x3 : Int) (x4 : Int) (H : Heap) : Prop :=
 Does Pr 104 #[(.pointer x0), (.int .u8 x4)] H (fun v41 H42 =>
 ∃ n43 : Int, v41 = (.int .i64 n43) ∧ regex_parser_alternative_8 nx22 Q E x0 x3 n43 H42) E

def regex_parser_alternative_11_M (nx22 : Int → HP) (Q : QT) (E : ET) (τ : Tau) (H : Heap) : Prop := mP (τ 0) fun x0 => mI .i64 (τ 3) fun x3 => mI .u8 (τ 4) fun x4 => regex_parser_alternative_11 nx22 Q E x0 x3 x4 H

theorem regex_parser_alternative_12ok (nx22 : Int → HP) (Q : QT) (E : ET) (τ : Tau) (H : Heap) (h : regex_parser_alternative_11_M nx22 Q E τ H) : vc Pr regex_parser_alternative_p16 τ (regex_parser_alternative_q8 nx22 Q E) E H :=
  vP (i := 0) h (fun x0 h => vI (i := 3) h (fun x3 h => vI (i := 4) h (fun x4 h => (conv (by kernel_rfl) h))))

theorem regex_parser_alternative_13ok (nx22 : Int → HP) (Q : QT) (E : ET) (τ : Tau) (H : Heap) (h : regex_parser_alternative_11_M nx22 Q E τ H) : vc Pr regex_parser_alternative_p12 τ (regex_parser_alternative_q6 nx22 Q E) E H :=
  (conv (B := vc Pr regex_parser_alternative_p12 τ (regex_parser_alternative_q6 nx22 Q E) E H) (by kernel_rfl) (vc_seq (K := (regex_parser_alternative_8_M nx22 Q E)) (regex_parser_alternative_12ok nx22 Q E τ H h) (regex_parser_alternative_10ok nx22 Q E)))

@[reducible] noncomputable def regex_parser_alternative_q9 (nx22 : Int → HP) (Q : QT) (E : ET) : Exit → Tau → Heap → Prop := (xthen (regex_parser_alternative_11_M nx22 Q E) (regex_parser_alternative_q6 nx22 Q E))

@[reducible] noncomputable def regex_parser_alternative_p17 : Code := sA regex_parser_alternative_p11

@[reducible] noncomputable def regex_parser_alternative_p18 : Code := sB regex_parser_alternative_p17

def regex_parser_alternative_14 (nx22 : Int → HP) (Q : QT) (E : ET) (x0 : OA) (x3 : Int) (x4 : Int) (x35 : Bool) (H : Heap) : Prop :=
 sel x35
 (regex_parser_alternative_3 Q E x0 x3 H)
 (regex_parser_alternative_11 nx22 Q E x0 x3 x4 H)

def regex_parser_alternative_14_M (nx22 : Int → HP) (Q : QT) (E : ET) (τ : Tau) (H : Heap) : Prop := mP (τ 0) fun x0 => mI .i64 (τ 3) fun x3 => mI .u8 (τ 4) fun x4 => mB (τ 35) fun x35 => regex_parser_alternative_14 nx22 Q E x0 x3 x4 x35 H

theorem regex_parser_alternative_15ok (nx22 : Int → HP) (Q : QT) (E : ET) (τ : Tau) (H : Heap) (h : regex_parser_alternative_14_M nx22 Q E τ H) : vc Pr regex_parser_alternative_p18 τ (regex_parser_alternative_q9 nx22 Q E) E H :=
  vP (i := 0) h (fun x0 h => vI (i := 3) h (fun x3 h => vI (i := 4) h (fun x4 h => vB (i := 35) h (fun x35 h => (conv (by kernel_rfl) h)))))

@[reducible] noncomputable def regex_parser_alternative_q10 (nx22 : Int → HP) (Q : QT) (E : ET) : Exit → Tau → Heap → Prop := (xthen (regex_parser_alternative_14_M nx22 Q E) (regex_parser_alternative_q9 nx22 Q E))

@[reducible] noncomputable def regex_parser_alternative_p19 : Code := sA regex_parser_alternative_p17

def regex_parser_alternative_16 (nx22 : Int → HP) (Q : QT) (E : ET) (x0 : OA) (x3 : Int) (x4 : Int) (x5 : Bool) (H : Heap) : Prop :=
 sel (!x5)
 (regex_parser_alternative_14 nx22 Q E x0 x3 x4 true H)
 (sel ((x4 : Int) == 124)
 (regex_parser_alternative_14 nx22 Q E x0 x3 x4 true H)
 (regex_parser_alternative_14 nx22 Q E x0 x3 x4 ((x4 : Int) == 41) H))

def regex_parser_alternative_16_M (nx22 : Int → HP) (Q : QT) (E : ET) (τ : Tau) (H : Heap) : Prop := mP (τ 0) fun x0 => mI .i64 (τ 3) fun x3 => mI .u8 (τ 4) fun x4 => mB (τ 5) fun x5 => regex_parser_alternative_16 nx22 Q E x0 x3 x4 x5 H

theorem regex_parser_alternative_17ok (nx22 : Int → HP) (Q : QT) (E : ET) (τ : Tau) (H : Heap) (h : regex_parser_alternative_16_M nx22 Q E τ H) : vc Pr regex_parser_alternative_p19 τ (regex_parser_alternative_q10 nx22 Q E) E H :=
  vP (i := 0) h (fun x0 h => vI (i := 3) h (fun x3 h => vI (i := 4) h (fun x4 h => vB (i := 5) h (fun x5 h => (conv (by kernel_rfl) h)))))

theorem regex_parser_alternative_18ok (nx22 : Int → HP) (Q : QT) (E : ET) (τ : Tau) (H : Heap) (h : regex_parser_alternative_16_M nx22 Q E τ H) : vc Pr regex_parser_alternative_p17 τ (regex_parser_alternative_q9 nx22 Q E) E H :=
  (conv (B := vc Pr regex_parser_alternative_p17 τ (regex_parser_alternative_q9 nx22 Q E) E H) (by kernel_rfl) (vc_seq (K := (regex_parser_alternative_14_M nx22 Q E)) (regex_parser_alternative_17ok nx22 Q E τ H h) (regex_parser_alternative_15ok nx22 Q E)))

theorem regex_parser_alternative_19ok (nx22 : Int → HP) (Q : QT) (E : ET) (τ : Tau) (H : Heap) (h : regex_parser_alternative_16_M nx22 Q E τ H) : vc Pr regex_parser_alternative_p11 τ (regex_parser_alternative_q6 nx22 Q E) E H :=
  (conv (B := vc Pr regex_parser_alternative_p11 τ (regex_parser_alternative_q6 nx22 Q E) E H) (by kernel_rfl) (vc_seq (K := (regex_parser_alternative_11_M nx22 Q E)) (regex_parser_alternative_18ok nx22 Q E τ H h) (regex_parser_alternative_13ok nx22 Q E)))

@[reducible] noncomputable def regex_parser_alternative_q11 (nx22 : Int → HP) (Q : QT) (E : ET) : Exit → Tau → Heap → Prop := (xthen (regex_parser_alternative_16_M nx22 Q E) (regex_parser_alternative_q6 nx22 Q E))

@[reducible] noncomputable def regex_parser_alternative_p20 : Code := sA regex_parser_alternative_p10

@[reducible] noncomputable def regex_parser_alternative_p21 : Code := sB regex_parser_alternative_p20

def regex_parser_alternative_20 (nx22 : Int → HP) (Q : QT) (E : ET) (x0 : OA) (x3 : Int) (x4 : Int) (x5 : Bool) (x23 : Bool) (H : Heap) : Prop :=
 sel x23
 (Does Pr 103 #[(.pointer x0), (.int .i64 83)] H (fun v46 H47 =>
 ∃ n48 : Int, v46 = (.int .i64 n48) ∧ regex_parser_alternative_16 nx22 Q E x0 x3 x4 x5 H47) E)
 (regex_parser_alternative_16 nx22 Q E x0 x3 x4 x5 H)

def regex_parser_alternative_20_M (nx22 : Int → HP) (Q : QT) (E : ET) (τ : Tau) (H : Heap) : Prop := mP (τ 0) fun x0 => mI .i64 (τ 3) fun x3 => mI .u8 (τ 4) fun x4 => mB (τ 5) fun x5 => mB (τ 23) fun x23 => regex_parser_alternative_20 nx22 Q E x0 x3 x4 x5 x23 H

theorem regex_parser_alternative_21ok (nx22 : Int → HP) (Q : QT) (E : ET) (τ : Tau) (H : Heap) (h : regex_parser_alternative_20_M nx22 Q E τ H) : vc Pr regex_parser_alternative_p21 τ (regex_parser_alternative_q11 nx22 Q E) E H :=
  vP (i := 0) h (fun x0 h => vI (i := 3) h (fun x3 h => vI (i := 4) h (fun x4 h => vB (i := 5) h (fun x5 h => vB (i := 23) h (fun x23 h => (conv (by kernel_rfl) h))))))

@[reducible] noncomputable def regex_parser_alternative_q12 (nx22 : Int → HP) (Q : QT) (E : ET) : Exit → Tau → Heap → Prop := (xthen (regex_parser_alternative_20_M nx22 Q E) (regex_parser_alternative_q11 nx22 Q E))

@[reducible] noncomputable def regex_parser_alternative_p22 : Code := sA regex_parser_alternative_p20

def regex_parser_alternative_22 (nx22 : Int → HP) (Q : QT) (E : ET) (x0 : OA) (x3 : Int) (x4 : Int) (x5 : Bool) (H : Heap) : Prop :=
 sel x5
 (sel ((x4 : Int) == 41)
 (ptr x0 fun q49 =>
 ldI .i64 (Addr.add q49 2) H fun n50 =>
 regex_parser_alternative_20 nx22 Q E x0 x3 x4 x5 ((n50 : Int) == 0) H)
 (regex_parser_alternative_20 nx22 Q E x0 x3 x4 x5 false H))
 (regex_parser_alternative_20 nx22 Q E x0 x3 x4 x5 false H)

def regex_parser_alternative_22_M (nx22 : Int → HP) (Q : QT) (E : ET) (τ : Tau) (H : Heap) : Prop := mP (τ 0) fun x0 => mI .i64 (τ 3) fun x3 => mI .u8 (τ 4) fun x4 => mB (τ 5) fun x5 => regex_parser_alternative_22 nx22 Q E x0 x3 x4 x5 H

theorem regex_parser_alternative_23ok (nx22 : Int → HP) (Q : QT) (E : ET) (τ : Tau) (H : Heap) (h : regex_parser_alternative_22_M nx22 Q E τ H) : vc Pr regex_parser_alternative_p22 τ (regex_parser_alternative_q12 nx22 Q E) E H :=
  vP (i := 0) h (fun x0 h => vI (i := 3) h (fun x3 h => vI (i := 4) h (fun x4 h => vB (i := 5) h (fun x5 h => (conv (by kernel_rfl) h)))))

theorem regex_parser_alternative_24ok (nx22 : Int → HP) (Q : QT) (E : ET) (τ : Tau) (H : Heap) (h : regex_parser_alternative_22_M nx22 Q E τ H) : vc Pr regex_parser_alternative_p20 τ (regex_parser_alternative_q11 nx22 Q E) E H :=
  (conv (B := vc Pr regex_parser_alternative_p20 τ (regex_parser_alternative_q11 nx22 Q E) E H) (by kernel_rfl) (vc_seq (K := (regex_parser_alternative_20_M nx22 Q E)) (regex_parser_alternative_23ok nx22 Q E τ H h) (regex_parser_alternative_21ok nx22 Q E)))

theorem regex_parser_alternative_25ok (nx22 : Int → HP) (Q : QT) (E : ET) (τ : Tau) (H : Heap) (h : regex_parser_alternative_22_M nx22 Q E τ H) : vc Pr regex_parser_alternative_p10 τ (regex_parser_alternative_q6 nx22 Q E) E H :=
  (conv (B := vc Pr regex_parser_alternative_p10 τ (regex_parser_alternative_q6 nx22 Q E) E H) (by kernel_rfl) (vc_seq (K := (regex_parser_alternative_16_M nx22 Q E)) (regex_parser_alternative_24ok nx22 Q E τ H h) (regex_parser_alternative_19ok nx22 Q E)))

@[reducible] noncomputable def regex_parser_alternative_q13 (nx22 : Int → HP) (Q : QT) (E : ET) : Exit → Tau → Heap → Prop := (xthen (regex_parser_alternative_22_M nx22 Q E) (regex_parser_alternative_q6 nx22 Q E))

@[reducible] noncomputable def regex_parser_alternative_p23 : Code := sA regex_parser_alternative_p9

def regex_parser_alternative_26 (nx22 : Int → HP) (Q : QT) (E : ET) (x0 : OA) (x3 : Int) (H : Heap) : Prop :=
 Does Pr 94 #[(.pointer x0)] H (fun v51 H52 =>
 ∃ n53 : Int, ∃ b54 : Bool, v51 = (.tuple #[(.int .u8 n53), (.bool b54)]) ∧ regex_parser_alternative_22 nx22 Q E x0 x3 n53 b54 H52) E

def regex_parser_alternative_26_M (nx22 : Int → HP) (Q : QT) (E : ET) (τ : Tau) (H : Heap) : Prop := mP (τ 0) fun x0 => mI .i64 (τ 3) fun x3 => regex_parser_alternative_26 nx22 Q E x0 x3 H

theorem regex_parser_alternative_27ok (nx22 : Int → HP) (Q : QT) (E : ET) (τ : Tau) (H : Heap) (h : regex_parser_alternative_26_M nx22 Q E τ H) : vc Pr regex_parser_alternative_p23 τ (regex_parser_alternative_q13 nx22 Q E) E H :=
  vP (i := 0) h (fun x0 h => vI (i := 3) h (fun x3 h => (conv (by kernel_rfl) h)))

theorem regex_parser_alternative_28ok (nx22 : Int → HP) (Q : QT) (E : ET) (τ : Tau) (H : Heap) (h : regex_parser_alternative_26_M nx22 Q E τ H) : vc Pr regex_parser_alternative_p9 τ (regex_parser_alternative_q6 nx22 Q E) E H :=
  (conv (B := vc Pr regex_parser_alternative_p9 τ (regex_parser_alternative_q6 nx22 Q E) E H) (by kernel_rfl) (vc_seq (K := (regex_parser_alternative_22_M nx22 Q E)) (regex_parser_alternative_27ok nx22 Q E τ H h) (regex_parser_alternative_25ok nx22 Q E)))

theorem regex_parser_alternative_29ok (nx22 : Int → HP) (Q : QT) (E : ET) (τ : Tau) (H : Heap) (h : regex_parser_alternative_26_M nx22 Q E τ H) : vc Pr regex_parser_alternative_p8 τ (regex_parser_alternative_q5 nx22 Q E) E H :=
  (conv (B := vc Pr regex_parser_alternative_p8 τ (regex_parser_alternative_q5 nx22 Q E) E H) (by kernel_rfl) (regex_parser_alternative_28ok nx22 Q E τ H h))

def regex_parser_alternative_30 (Q : QT) (E : ET) (x0 : OA) (x3 : Int) (H : Heap) : Prop :=
 ∃ (I : Int → HP) (μ : Int → Heap → Nat), I x3 H ∧ ∀ (x3 : Int) (H : Heap), I x3 H →
 regex_parser_alternative_26 (fun x3' H1 => I x3' H1 ∧ μ x3' H1 < μ x3 H) Q E x0 x3 H

def regex_parser_alternative_30_M (Q : QT) (E : ET) (τ : Tau) (H : Heap) : Prop := mP (τ 0) fun x0 => mI .i64 (τ 3) fun x3 => regex_parser_alternative_30 Q E x0 x3 H

theorem regex_parser_alternative_31ok (Q : QT) (E : ET) (τ : Tau) (H : Heap) (h : regex_parser_alternative_30_M Q E τ H) : vc Pr regex_parser_alternative_p7 τ (regex_parser_alternative_q4 Q E) E H :=
  vP (i := 0) h (fun x0 h => vI (i := 3) h (fun x3 h => match h with | ⟨I, μ, h0, hr⟩ => (conv (B := vc Pr regex_parser_alternative_p7 (Tau.upd (Tau.upd τ 0 (.pointer x0)) 3 (.int .i64 x3)) (regex_parser_alternative_q4 Q E) E H) (by kernel_rfl) (vc_loop (c := sI regex_parser_alternative_p7) (τ := (Tau.upd (Tau.upd τ 0 (.pointer x0)) 3 (.int .i64 x3))) [0] (fun τ H => mI .i64 (τ 3) fun x3' => I x3' H) (fun τ H => μ (gI (τ 3)) H) (by kernel_rfl) h0 (fun τ1 H1 hf hI => fix_elim (τ := τ1) (i := 0) (v := (.pointer x0)) (G := fun τ => vc Pr (sI regex_parser_alternative_p7) τ (xthen (fun τ2 H2 => (mI .i64 (τ2 3) fun x3' => I x3' H2) ∧ μ (gI (τ2 3)) H2 < μ (gI (τ 3)) H1) (regex_parser_alternative_q4 Q E)) E H1) (hf 0 (by simp)) (mI_elim (i := 3) (G := fun τ => vc Pr (sI regex_parser_alternative_p7) τ (xthen (fun τ2 H2 => (mI .i64 (τ2 3) fun x3' => I x3' H2) ∧ μ (gI (τ2 3)) H2 < μ (gI (τ 3)) H1) (regex_parser_alternative_q4 Q E)) E H1) hI (fun x3r h => (conv (B := vc Pr (sI regex_parser_alternative_p7) (Tau.upd (Tau.upd τ1 0 (.pointer x0)) 3 (.int .i64 x3r)) (xthen (fun τ2 H2 => (mI .i64 (τ2 3) fun x3' => I x3' H2) ∧ μ (gI (τ2 3)) H2 < μ (gI ((Tau.upd (Tau.upd τ1 0 (.pointer x0)) 3 (.int .i64 x3r)) 3)) H1) (regex_parser_alternative_q4 Q E)) E H1) (by kernel_rfl) (vc_xthen (regex_parser_alternative_29ok (fun x3' H2 => I x3' H2 ∧ μ x3' H2 < μ x3r H1) Q E (Tau.upd (Tau.upd τ1 0 (.pointer x0)) 3 (.int .i64 x3r)) H1 (conv (B := regex_parser_alternative_26_M (fun x3' H2 => I x3' H2 ∧ μ x3' H2 < μ x3r H1) Q E (Tau.upd (Tau.upd τ1 0 (.pointer x0)) 3 (.int .i64 x3r)) H1) (by kernel_rfl) (hr x3r H1 h))) (fun τ2 H2 hk => mI_elim (i := 3) (G := fun τ => (mI .i64 (τ 3) fun x3' => I x3' H2) ∧ μ (gI (τ 3)) H2 < μ x3r H1) hk (fun x3' h => h)))))))))))

theorem regex_parser_alternative_32ok (Q : QT) (E : ET) (τ : Tau) (H : Heap) (h : regex_parser_alternative_30_M Q E τ H) : vc Pr regex_parser_alternative_p6 τ (regex_parser_alternative_q3 Q E) E H :=
  (conv (B := vc Pr regex_parser_alternative_p6 τ (regex_parser_alternative_q3 Q E) E H) (by kernel_rfl) (regex_parser_alternative_31ok Q E τ H h))

theorem regex_parser_alternative_33ok (Q : QT) (E : ET) (τ : Tau) (H : Heap) (h : regex_parser_alternative_30_M Q E τ H) : vc Pr regex_parser_alternative_p2 τ (regex_parser_alternative_q1 Q E) E H :=
  (conv (B := vc Pr regex_parser_alternative_p2 τ (regex_parser_alternative_q1 Q E) E H) (by kernel_rfl) (vc_seq (K := (regex_parser_alternative_3_M Q E)) (regex_parser_alternative_32ok Q E τ H h) (regex_parser_alternative_5ok Q E)))

@[reducible] noncomputable def regex_parser_alternative_q14 (Q : QT) (E : ET) : Exit → Tau → Heap → Prop := (xthen (regex_parser_alternative_30_M Q E) (regex_parser_alternative_q1 Q E))

@[reducible] noncomputable def regex_parser_alternative_p24 : Code := sA regex_parser_alternative_p1

def regex_parser_alternative_34 (Q : QT) (E : ET) (x0 : OA) (H : Heap) : Prop :=
 regex_parser_alternative_30 Q E x0 (-1) H

def regex_parser_alternative_34_M (Q : QT) (E : ET) (τ : Tau) (H : Heap) : Prop := mP (τ 0) fun x0 => regex_parser_alternative_34 Q E x0 H

theorem regex_parser_alternative_35ok (Q : QT) (E : ET) (τ : Tau) (H : Heap) (h : regex_parser_alternative_34_M Q E τ H) : vc Pr regex_parser_alternative_p24 τ (regex_parser_alternative_q14 Q E) E H :=
  vP (i := 0) h (fun x0 h => (conv (by kernel_rfl) h))

theorem regex_parser_alternative_36ok (Q : QT) (E : ET) (τ : Tau) (H : Heap) (h : regex_parser_alternative_34_M Q E τ H) : vc Pr regex_parser_alternative_p1 τ (regex_parser_alternative_q1 Q E) E H :=
  (conv (B := vc Pr regex_parser_alternative_p1 τ (regex_parser_alternative_q1 Q E) E H) (by kernel_rfl) (vc_seq (K := (regex_parser_alternative_30_M Q E)) (regex_parser_alternative_35ok Q E τ H h) (regex_parser_alternative_33ok Q E)))

@[reducible] noncomputable def regex_parser_alternative_q15 (Q : QT) (E : ET) : Exit → Tau → Heap → Prop := (xthen (regex_parser_alternative_34_M Q E) (regex_parser_alternative_q1 Q E))

@[reducible] noncomputable def regex_parser_alternative_p25 : Code := sA regex_parser_alternative_p0

def regex_parser_alternative (Q : QT) (E : ET) (a0 : OA) (H : Heap) : Prop :=
 regex_parser_alternative_34 Q E a0 H

theorem regex_parser_alternative_fn (a0 : OA) (Q : QT) (E : ET) (H : Heap) (h : regex_parser_alternative Q E a0 H)   : Does Pr 93 #[(.pointer a0)] H Q E :=
  Fn_of_vc (fn := Try.f93) (c := regex_parser_alternative_p0) (args := [(.pointer a0)]) mixed (by kernel_rfl) (by kernel_rfl) (by kernel_rfl) (by kernel_rfl) (by kernel_rfl) ((conv (B := vc Pr regex_parser_alternative_p0 (argT [(.pointer a0)]) (regex_parser_alternative_q1 Q E) E H) (by kernel_rfl) (vc_seq (K := (regex_parser_alternative_34_M Q E)) (conv (B := vc Pr regex_parser_alternative_p25 (argT [(.pointer a0)]) (regex_parser_alternative_q15 Q E) E H) (by kernel_rfl) h) (regex_parser_alternative_36ok Q E))))

/-! (*jobmux/regex.parser).next -/
@[reducible] noncomputable def regex_parser_next_q1 (Q : QT) (E : ET) : Exit → Tau → Heap → Prop := (retQ Pr (Try.f94).results.toList Q)

@[reducible] noncomputable def regex_parser_next_p0 : Code := bodyOf Try.f94

@[reducible] noncomputable def regex_parser_next_p1 : Code := sB regex_parser_next_p0

@[reducible] noncomputable def regex_parser_next_p2 : Code := sB regex_parser_next_p1

def regex_parser_next_1 (Q : QT) (E : ET) (x0 : OA) (H : Heap) : Prop :=
 ptr x0 fun q7 =>
 ldS q7 H fun s8 =>
 ptr x0 fun q9 =>
 ldI .i64 (Addr.add q9 1) H fun n10 =>
 (0 ≤ (n10 : Int) ∧ (n10 : Int) < ((ByteArray.size s8 : Nat) : Int)) ∧ Q (.tuple #[(.int .u8 (sAt s8 n10)), (.bool true)]) H

def regex_parser_next_1_M (Q : QT) (E : ET) (τ : Tau) (H : Heap) : Prop := mP (τ 0) fun x0 => regex_parser_next_1 Q E x0 H

theorem regex_parser_next_2ok (Q : QT) (E : ET) (τ : Tau) (H : Heap) (h : regex_parser_next_1_M Q E τ H) : vc Pr regex_parser_next_p2 τ (regex_parser_next_q1 Q E) E H :=
  vP (i := 0) h (fun x0 h => (conv (by kernel_rfl) h))

@[reducible] noncomputable def regex_parser_next_q2 (Q : QT) (E : ET) : Exit → Tau → Heap → Prop := (xthen (regex_parser_next_1_M Q E) (regex_parser_next_q1 Q E))

@[reducible] noncomputable def regex_parser_next_p3 : Code := sA regex_parser_next_p1

@[reducible] noncomputable def regex_parser_next_p4 : Code := sB regex_parser_next_p3

def regex_parser_next_3 (Q : QT) (E : ET) (x0 : OA) (x20 : Bool) (H : Heap) : Prop :=
 sel x20
 (Q (.tuple #[(.int .u8 0), (.bool false)]) H)
 (regex_parser_next_1 Q E x0 H)

def regex_parser_next_3_M (Q : QT) (E : ET) (τ : Tau) (H : Heap) : Prop := mP (τ 0) fun x0 => mB (τ 20) fun x20 => regex_parser_next_3 Q E x0 x20 H

theorem regex_parser_next_4ok (Q : QT) (E : ET) (τ : Tau) (H : Heap) (h : regex_parser_next_3_M Q E τ H) : vc Pr regex_parser_next_p4 τ (regex_parser_next_q2 Q E) E H :=
  vP (i := 0) h (fun x0 h => vB (i := 20) h (fun x20 h => (conv (by kernel_rfl) h)))

@[reducible] noncomputable def regex_parser_next_q3 (Q : QT) (E : ET) : Exit → Tau → Heap → Prop := (xthen (regex_parser_next_3_M Q E) (regex_parser_next_q2 Q E))

@[reducible] noncomputable def regex_parser_next_p5 : Code := sA regex_parser_next_p3

def regex_parser_next_5 (Q : QT) (E : ET) (x0 : OA) (H : Heap) : Prop :=
 ptr x0 fun q17 =>
 ldI .i64 (Addr.add q17 4) H fun n18 =>
 sel ((n18 : Int) != 0)
 (regex_parser_next_3 Q E x0 true H)
 (ptr x0 fun q19 =>
 ldI .i64 (Addr.add q19 1) H fun n20 =>
 ptr x0 fun q21 =>
 ldS q21 H fun s22 =>
 regex_parser_next_3 Q E x0 (decide ((n20 : Int) ≥ ((ByteArray.size s22 : Nat) : Int))) H)

def regex_parser_next_5_M (Q : QT) (E : ET) (τ : Tau) (H : Heap) : Prop := mP (τ 0) fun x0 => regex_parser_next_5 Q E x0 H

theorem regex_parser_next_6ok (Q : QT) (E : ET) (τ : Tau) (H : Heap) (h : regex_parser_next_5_M Q E τ H) : vc Pr regex_parser_next_p5 τ (regex_parser_next_q3 Q E) E H :=
  vP (i := 0) h (fun x0 h => (conv (by kernel_rfl) h))

theorem regex_parser_next_7ok (Q : QT) (E : ET) (τ : Tau) (H : Heap) (h : regex_parser_next_5_M Q E τ H) : vc Pr regex_parser_next_p3 τ (regex_parser_next_q2 Q E) E H :=
  (conv (B := vc Pr regex_parser_next_p3 τ (regex_parser_next_q2 Q E) E H) (by kernel_rfl) (vc_seq (K := (regex_parser_next_3_M Q E)) (regex_parser_next_6ok Q E τ H h) (regex_parser_next_4ok Q E)))

theorem regex_parser_next_8ok (Q : QT) (E : ET) (τ : Tau) (H : Heap) (h : regex_parser_next_5_M Q E τ H) : vc Pr regex_parser_next_p1 τ (regex_parser_next_q1 Q E) E H :=
  (conv (B := vc Pr regex_parser_next_p1 τ (regex_parser_next_q1 Q E) E H) (by kernel_rfl) (vc_seq (K := (regex_parser_next_1_M Q E)) (regex_parser_next_7ok Q E τ H h) (regex_parser_next_2ok Q E)))

@[reducible] noncomputable def regex_parser_next_q4 (Q : QT) (E : ET) : Exit → Tau → Heap → Prop := (xthen (regex_parser_next_5_M Q E) (regex_parser_next_q1 Q E))

@[reducible] noncomputable def regex_parser_next_p6 : Code := sA regex_parser_next_p0

def regex_parser_next (Q : QT) (E : ET) (a0 : OA) (H : Heap) : Prop :=
 regex_parser_next_5 Q E a0 H

theorem regex_parser_next_fn (a0 : OA) (Q : QT) (E : ET) (H : Heap) (h : regex_parser_next Q E a0 H)   : Does Pr 94 #[(.pointer a0)] H Q E :=
  Fn_of_vc (fn := Try.f94) (c := regex_parser_next_p0) (args := [(.pointer a0)]) mixed (by kernel_rfl) (by kernel_rfl) (by kernel_rfl) (by kernel_rfl) (by kernel_rfl) ((conv (B := vc Pr regex_parser_next_p0 (argT [(.pointer a0)]) (regex_parser_next_q1 Q E) E H) (by kernel_rfl) (vc_seq (K := (regex_parser_next_5_M Q E)) (conv (B := vc Pr regex_parser_next_p6 (argT [(.pointer a0)]) (regex_parser_next_q4 Q E) E H) (by kernel_rfl) h) (regex_parser_next_8ok Q E))))

/-! (*jobmux/regex.parser).put -/
@[reducible] noncomputable def regex_parser_put_q1 (Q : QT) (E : ET) : Exit → Tau → Heap → Prop := (retQ Pr (Try.f95).results.toList Q)

@[reducible] noncomputable def regex_parser_put_p0 : Code := bodyOf Try.f95

def regex_parser_put (Q : QT) (E : ET) (a0 : OA) (a1_0 : Int) (a1_1 : Int) (a1_2 : Int) (a1_3 : Int) (a1_4 : Int) (a1_5 : Int) (a1_6 : Int) (H : Heap) : Prop :=
 nw (.cells #[(.int .i64 a1_0), (.int .i64 a1_1), (.int .i64 a1_2), (.int .u64 a1_3), (.int .u64 a1_4), (.int .u64 a1_5), (.int .u64 a1_6)] 48 (0, 0)) H fun i1 H2 =>
 ptr a0 fun q3 =>
 ldSl (Addr.add q3 3) H2 fun p4 l5 c6 =>
 ∃ n7 n8 n9 n10 n11 n12 n13 : Int, Heap.rd H2 ⟨i1, 0, none⟩ 0 [(.int .i64 n7), (.int .i64 n8), (.int .i64 n9), (.int .u64 n10), (.int .u64 n11), (.int .u64 n12), (.int .u64 n13)] ∧ nw (.cells #[(.int .i64 n7), (.int .i64 n8), (.int .i64 n9), (.int .u64 n10), (.int .u64 n11), (.int .u64 n12), (.int .u64 n13)] 48 (0, 0)) H2 fun i14 H15 =>
 app Pr 23 p4 l5 c6 (.slice (some ⟨i14, 0, none⟩) 1 1) H15 fun p16 l17 c18 H19 =>
 ptr a0 fun q20 =>
 wr (Addr.add q20 3) [(.slice p16 l17 c18)] H19 fun H21 =>
 ptr a0 fun q22 =>
 ldSl (Addr.add q22 3) H21 fun p23 l24 c25 =>
 Q (.int .i64 (IntKind.wrap .i64 (((l24 : Nat) : Int) - 1))) H21

theorem regex_parser_put_fn (a0 : OA) (a1_0 : Int) (a1_1 : Int) (a1_2 : Int) (a1_3 : Int) (a1_4 : Int) (a1_5 : Int) (a1_6 : Int) (Q : QT) (E : ET) (H : Heap) (h : regex_parser_put Q E a0 a1_0 a1_1 a1_2 a1_3 a1_4 a1_5 a1_6 H)   : Does Pr 95 #[(.pointer a0), (.agg #[(.int .i64 a1_0), (.int .i64 a1_1), (.int .i64 a1_2), (.int .u64 a1_3), (.int .u64 a1_4), (.int .u64 a1_5), (.int .u64 a1_6)])] H Q E :=
  Fn_of_vc (fn := Try.f95) (c := regex_parser_put_p0) (args := [(.pointer a0), (.agg #[(.int .i64 a1_0), (.int .i64 a1_1), (.int .i64 a1_2), (.int .u64 a1_3), (.int .u64 a1_4), (.int .u64 a1_5), (.int .u64 a1_6)])]) mixed (by kernel_rfl) (by kernel_rfl) (by kernel_rfl) (by kernel_rfl) (by kernel_rfl) ((conv (B := vc Pr regex_parser_put_p0 (argT [(.pointer a0), (.agg #[(.int .i64 a1_0), (.int .i64 a1_1), (.int .i64 a1_2), (.int .u64 a1_3), (.int .u64 a1_4), (.int .u64 a1_5), (.int .u64 a1_6)])]) (regex_parser_put_q1 Q E) E H) (by kernel_rfl) h))

/-! (*jobmux/regex.parser).fail -/
@[reducible] noncomputable def regex_parser_fail_q1 (Q : QT) (E : ET) : Exit → Tau → Heap → Prop := (retQ Pr (Try.f103).results.toList Q)

@[reducible] noncomputable def regex_parser_fail_p0 : Code := bodyOf Try.f103

@[reducible] noncomputable def regex_parser_fail_p1 : Code := sB regex_parser_fail_p0

@[reducible] noncomputable def regex_parser_fail_p2 : Code := sB regex_parser_fail_p1

def regex_parser_fail_1 (Q : QT) (E : ET) (x0 : OA) (H : Heap) : Prop :=
 ptr x0 fun q5 =>
 ldI .i64 (Addr.add q5 4) H fun n6 =>
 Q (.int .i64 n6) H

def regex_parser_fail_1_M (Q : QT) (E : ET) (τ : Tau) (H : Heap) : Prop := mP (τ 0) fun x0 => regex_parser_fail_1 Q E x0 H

theorem regex_parser_fail_2ok (Q : QT) (E : ET) (τ : Tau) (H : Heap) (h : regex_parser_fail_1_M Q E τ H) : vc Pr regex_parser_fail_p2 τ (regex_parser_fail_q1 Q E) E H :=
  vP (i := 0) h (fun x0 h => (conv (by kernel_rfl) h))

@[reducible] noncomputable def regex_parser_fail_q2 (Q : QT) (E : ET) : Exit → Tau → Heap → Prop := (xthen (regex_parser_fail_1_M Q E) (regex_parser_fail_q1 Q E))

@[reducible] noncomputable def regex_parser_fail_p3 : Code := sA regex_parser_fail_p1

def regex_parser_fail_3 (Q : QT) (E : ET) (x0 : OA) (x1 : Int) (H : Heap) : Prop :=
 ptr x0 fun q7 =>
 ldI .i64 (Addr.add q7 4) H fun n8 =>
 sel ((n8 : Int) == 0)
 (ptr x0 fun q9 =>
 wr (Addr.add q9 4) [(.int .i64 x1)] H fun H10 =>
 regex_parser_fail_1 Q E x0 H10)
 (regex_parser_fail_1 Q E x0 H)

def regex_parser_fail_3_M (Q : QT) (E : ET) (τ : Tau) (H : Heap) : Prop := mP (τ 0) fun x0 => mI .i64 (τ 1) fun x1 => regex_parser_fail_3 Q E x0 x1 H

theorem regex_parser_fail_4ok (Q : QT) (E : ET) (τ : Tau) (H : Heap) (h : regex_parser_fail_3_M Q E τ H) : vc Pr regex_parser_fail_p3 τ (regex_parser_fail_q2 Q E) E H :=
  vP (i := 0) h (fun x0 h => vI (i := 1) h (fun x1 h => (conv (by kernel_rfl) h)))

theorem regex_parser_fail_5ok (Q : QT) (E : ET) (τ : Tau) (H : Heap) (h : regex_parser_fail_3_M Q E τ H) : vc Pr regex_parser_fail_p1 τ (regex_parser_fail_q1 Q E) E H :=
  (conv (B := vc Pr regex_parser_fail_p1 τ (regex_parser_fail_q1 Q E) E H) (by kernel_rfl) (vc_seq (K := (regex_parser_fail_1_M Q E)) (regex_parser_fail_4ok Q E τ H h) (regex_parser_fail_2ok Q E)))

@[reducible] noncomputable def regex_parser_fail_q3 (Q : QT) (E : ET) : Exit → Tau → Heap → Prop := (xthen (regex_parser_fail_3_M Q E) (regex_parser_fail_q1 Q E))

@[reducible] noncomputable def regex_parser_fail_p4 : Code := sA regex_parser_fail_p0

def regex_parser_fail (Q : QT) (E : ET) (a0 : OA) (a1 : Int) (H : Heap) : Prop :=
 regex_parser_fail_3 Q E a0 a1 H

theorem regex_parser_fail_fn (a0 : OA) (a1 : Int) (Q : QT) (E : ET) (H : Heap) (h : regex_parser_fail Q E a0 a1 H)   : Does Pr 103 #[(.pointer a0), (.int .i64 a1)] H Q E :=
  Fn_of_vc (fn := Try.f103) (c := regex_parser_fail_p0) (args := [(.pointer a0), (.int .i64 a1)]) mixed (by kernel_rfl) (by kernel_rfl) (by kernel_rfl) (by kernel_rfl) (by kernel_rfl) ((conv (B := vc Pr regex_parser_fail_p0 (argT [(.pointer a0), (.int .i64 a1)]) (regex_parser_fail_q1 Q E) E H) (by kernel_rfl) (vc_seq (K := (regex_parser_fail_3_M Q E)) (conv (B := vc Pr regex_parser_fail_p4 (argT [(.pointer a0), (.int .i64 a1)]) (regex_parser_fail_q3 Q E) E H) (by kernel_rfl) h) (regex_parser_fail_5ok Q E))))

/-! (*jobmux/regex.parser).part -/
@[reducible] noncomputable def regex_parser_part_q1 (Q : QT) (E : ET) : Exit → Tau → Heap → Prop := (retQ Pr (Try.f104).results.toList Q)

@[reducible] noncomputable def regex_parser_part_p0 : Code := bodyOf Try.f104

@[reducible] noncomputable def regex_parser_part_p1 : Code := sB regex_parser_part_p0

@[reducible] noncomputable def regex_parser_part_p2 : Code := sB regex_parser_part_p1

@[reducible] noncomputable def regex_parser_part_q2 (Q : QT) (E : ET) : Exit → Tau → Heap → Prop := (xblock 0 (regex_parser_part_q1 Q E))

@[reducible] noncomputable def regex_parser_part_p3 : Code := sI regex_parser_part_p2

@[reducible] noncomputable def regex_parser_part_q3 (nx4 : Int → HP) (Q : QT) (E : ET) : Exit → Tau → Heap → Prop := (xthen (fun τ H => mI .i64 (τ 5) fun x5' => nx4 x5' H) (regex_parser_part_q2 Q E))

@[reducible] noncomputable def regex_parser_part_p4 : Code := sI regex_parser_part_p3

@[reducible] noncomputable def regex_parser_part_q4 (nx4 : Int → HP) (Q : QT) (E : ET) : Exit → Tau → Heap → Prop := (xblock 1 (regex_parser_part_q3 nx4 Q E))

@[reducible] noncomputable def regex_parser_part_p5 : Code := sI regex_parser_part_p4

@[reducible] noncomputable def regex_parser_part_p6 : Code := sB regex_parser_part_p5

@[reducible] noncomputable def regex_parser_part_p7 : Code := sB regex_parser_part_p6

def regex_parser_part_1 (nx4 : Int → HP) (Q : QT) (E : ET) (x0 : OA) (x5 : Int) (x6 : Int) (H : Heap) : Prop :=
 ptr x0 fun q9 =>
 ldI .i64 (Addr.add q9 1) H fun n10 =>
 ptr x0 fun q11 =>
 wr (Addr.add q11 1) [(.int .i64 (IntKind.wrap .i64 (n10 + 1)))] H fun H12 =>
 Does Pr 95 #[(.pointer x0), (.agg #[(.int .i64 x6), (.int .i64 x5), (.int .i64 0), (.int .u64 0), (.int .u64 0), (.int .u64 0), (.int .u64 0)])] H12 (fun v13 H14 =>
 ∃ n15 : Int, v13 = (.int .i64 n15) ∧ nx4 n15 H14) E

def regex_parser_part_1_M (nx4 : Int → HP) (Q : QT) (E : ET) (τ : Tau) (H : Heap) : Prop := mP (τ 0) fun x0 => mI .i64 (τ 5) fun x5 => mI .i64 (τ 6) fun x6 => regex_parser_part_1 nx4 Q E x0 x5 x6 H

theorem regex_parser_part_2ok (nx4 : Int → HP) (Q : QT) (E : ET) (τ : Tau) (H : Heap) (h : regex_parser_part_1_M nx4 Q E τ H) : vc Pr regex_parser_part_p7 τ (regex_parser_part_q4 nx4 Q E) E H :=
  vP (i := 0) h (fun x0 h => vI (i := 5) h (fun x5 h => vI (i := 6) h (fun x6 h => (conv (by kernel_rfl) h))))

@[reducible] noncomputable def regex_parser_part_q5 (nx4 : Int → HP) (Q : QT) (E : ET) : Exit → Tau → Heap → Prop := (xthen (regex_parser_part_1_M nx4 Q E) (regex_parser_part_q4 nx4 Q E))

@[reducible] noncomputable def regex_parser_part_p8 : Code := sA regex_parser_part_p6

def regex_parser_part_3 (nx4 : Int → HP) (Q : QT) (E : ET) (x0 : OA) (x5 : Int) (H : Heap) : Prop :=
 Does Pr 94 #[(.pointer x0)] H (fun v16 H17 =>
 ∃ n18 : Int, ∃ b19 : Bool, v16 = (.tuple #[(.int .u8 n18), (.bool b19)]) ∧ sel ((n18 : Int) == 42)
 (regex_parser_part_1 nx4 Q E x0 x5 5 H17)
 (sel ((n18 : Int) == 43)
 (regex_parser_part_1 nx4 Q E x0 x5 6 H17)
 (sel ((n18 : Int) == 63)
 (regex_parser_part_1 nx4 Q E x0 x5 7 H17)
 (Q (.int .i64 x5) H17)))) E

def regex_parser_part_3_M (nx4 : Int → HP) (Q : QT) (E : ET) (τ : Tau) (H : Heap) : Prop := mP (τ 0) fun x0 => mI .i64 (τ 5) fun x5 => regex_parser_part_3 nx4 Q E x0 x5 H

theorem regex_parser_part_4ok (nx4 : Int → HP) (Q : QT) (E : ET) (τ : Tau) (H : Heap) (h : regex_parser_part_3_M nx4 Q E τ H) : vc Pr regex_parser_part_p8 τ (regex_parser_part_q5 nx4 Q E) E H :=
  vP (i := 0) h (fun x0 h => vI (i := 5) h (fun x5 h => (conv (by kernel_rfl) h)))

theorem regex_parser_part_5ok (nx4 : Int → HP) (Q : QT) (E : ET) (τ : Tau) (H : Heap) (h : regex_parser_part_3_M nx4 Q E τ H) : vc Pr regex_parser_part_p6 τ (regex_parser_part_q4 nx4 Q E) E H :=
  (conv (B := vc Pr regex_parser_part_p6 τ (regex_parser_part_q4 nx4 Q E) E H) (by kernel_rfl) (vc_seq (K := (regex_parser_part_1_M nx4 Q E)) (regex_parser_part_4ok nx4 Q E τ H h) (regex_parser_part_2ok nx4 Q E)))

@[reducible] noncomputable def regex_parser_part_q6 (nx4 : Int → HP) (Q : QT) (E : ET) : Exit → Tau → Heap → Prop := (xthen (regex_parser_part_3_M nx4 Q E) (regex_parser_part_q4 nx4 Q E))

@[reducible] noncomputable def regex_parser_part_p9 : Code := sA regex_parser_part_p5

def regex_parser_part_6 (nx4 : Int → HP) (Q : QT) (E : ET) (x0 : OA) (x5 : Int) (H : Heap) : Prop :=
 regex_parser_part_3 nx4 Q E x0 x5 H

def regex_parser_part_6_M (nx4 : Int → HP) (Q : QT) (E : ET) (τ : Tau) (H : Heap) : Prop := mP (τ 0) fun x0 => mI .i64 (τ 5) fun x5 => regex_parser_part_6 nx4 Q E x0 x5 H

theorem regex_parser_part_7ok (nx4 : Int → HP) (Q : QT) (E : ET) (τ : Tau) (H : Heap) (h : regex_parser_part_6_M nx4 Q E τ H) : vc Pr regex_parser_part_p9 τ (regex_parser_part_q6 nx4 Q E) E H :=
  vP (i := 0) h (fun x0 h => vI (i := 5) h (fun x5 h => (conv (by kernel_rfl) h)))

theorem regex_parser_part_8ok (nx4 : Int → HP) (Q : QT) (E : ET) (τ : Tau) (H : Heap) (h : regex_parser_part_6_M nx4 Q E τ H) : vc Pr regex_parser_part_p5 τ (regex_parser_part_q4 nx4 Q E) E H :=
  (conv (B := vc Pr regex_parser_part_p5 τ (regex_parser_part_q4 nx4 Q E) E H) (by kernel_rfl) (vc_seq (K := (regex_parser_part_3_M nx4 Q E)) (regex_parser_part_7ok nx4 Q E τ H h) (regex_parser_part_5ok nx4 Q E)))

theorem regex_parser_part_9ok (nx4 : Int → HP) (Q : QT) (E : ET) (τ : Tau) (H : Heap) (h : regex_parser_part_6_M nx4 Q E τ H) : vc Pr regex_parser_part_p4 τ (regex_parser_part_q3 nx4 Q E) E H :=
  (conv (B := vc Pr regex_parser_part_p4 τ (regex_parser_part_q3 nx4 Q E) E H) (by kernel_rfl) (regex_parser_part_8ok nx4 Q E τ H h))

def regex_parser_part_10 (Q : QT) (E : ET) (x0 : OA) (x5 : Int) (H : Heap) : Prop :=
 ∃ (I : Int → HP) (μ : Int → Heap → Nat), I x5 H ∧ ∀ (x5 : Int) (H : Heap), I x5 H →
 regex_parser_part_6 (fun x5' H1 => I x5' H1 ∧ μ x5' H1 < μ x5 H) Q E x0 x5 H

def regex_parser_part_10_M (Q : QT) (E : ET) (τ : Tau) (H : Heap) : Prop := mP (τ 0) fun x0 => mI .i64 (τ 5) fun x5 => regex_parser_part_10 Q E x0 x5 H

theorem regex_parser_part_11ok (Q : QT) (E : ET) (τ : Tau) (H : Heap) (h : regex_parser_part_10_M Q E τ H) : vc Pr regex_parser_part_p3 τ (regex_parser_part_q2 Q E) E H :=
  vP (i := 0) h (fun x0 h => vI (i := 5) h (fun x5 h => match h with | ⟨I, μ, h0, hr⟩ => (conv (B := vc Pr regex_parser_part_p3 (Tau.upd (Tau.upd τ 0 (.pointer x0)) 5 (.int .i64 x5)) (regex_parser_part_q2 Q E) E H) (by kernel_rfl) (vc_loop (c := sI regex_parser_part_p3) (τ := (Tau.upd (Tau.upd τ 0 (.pointer x0)) 5 (.int .i64 x5))) [0] (fun τ H => mI .i64 (τ 5) fun x5' => I x5' H) (fun τ H => μ (gI (τ 5)) H) (by kernel_rfl) h0 (fun τ1 H1 hf hI => fix_elim (τ := τ1) (i := 0) (v := (.pointer x0)) (G := fun τ => vc Pr (sI regex_parser_part_p3) τ (xthen (fun τ2 H2 => (mI .i64 (τ2 5) fun x5' => I x5' H2) ∧ μ (gI (τ2 5)) H2 < μ (gI (τ 5)) H1) (regex_parser_part_q2 Q E)) E H1) (hf 0 (by simp)) (mI_elim (i := 5) (G := fun τ => vc Pr (sI regex_parser_part_p3) τ (xthen (fun τ2 H2 => (mI .i64 (τ2 5) fun x5' => I x5' H2) ∧ μ (gI (τ2 5)) H2 < μ (gI (τ 5)) H1) (regex_parser_part_q2 Q E)) E H1) hI (fun x5r h => (conv (B := vc Pr (sI regex_parser_part_p3) (Tau.upd (Tau.upd τ1 0 (.pointer x0)) 5 (.int .i64 x5r)) (xthen (fun τ2 H2 => (mI .i64 (τ2 5) fun x5' => I x5' H2) ∧ μ (gI (τ2 5)) H2 < μ (gI ((Tau.upd (Tau.upd τ1 0 (.pointer x0)) 5 (.int .i64 x5r)) 5)) H1) (regex_parser_part_q2 Q E)) E H1) (by kernel_rfl) (vc_xthen (regex_parser_part_9ok (fun x5' H2 => I x5' H2 ∧ μ x5' H2 < μ x5r H1) Q E (Tau.upd (Tau.upd τ1 0 (.pointer x0)) 5 (.int .i64 x5r)) H1 (conv (B := regex_parser_part_6_M (fun x5' H2 => I x5' H2 ∧ μ x5' H2 < μ x5r H1) Q E (Tau.upd (Tau.upd τ1 0 (.pointer x0)) 5 (.int .i64 x5r)) H1) (by kernel_rfl) (hr x5r H1 h))) (fun τ2 H2 hk => mI_elim (i := 5) (G := fun τ => (mI .i64 (τ 5) fun x5' => I x5' H2) ∧ μ (gI (τ 5)) H2 < μ x5r H1) hk (fun x5' h => h)))))))))))

theorem regex_parser_part_12ok (Q : QT) (E : ET) (τ : Tau) (H : Heap) (h : regex_parser_part_10_M Q E τ H) : vc Pr regex_parser_part_p2 τ (regex_parser_part_q1 Q E) E H :=
  (conv (B := vc Pr regex_parser_part_p2 τ (regex_parser_part_q1 Q E) E H) (by kernel_rfl) (regex_parser_part_11ok Q E τ H h))

@[reducible] noncomputable def regex_parser_part_q7 (Q : QT) (E : ET) : Exit → Tau → Heap → Prop := (xthen (regex_parser_part_10_M Q E) (regex_parser_part_q1 Q E))

@[reducible] noncomputable def regex_parser_part_p10 : Code := sA regex_parser_part_p1

def regex_parser_part_13 (Q : QT) (E : ET) (x0 : OA) (x1 : Int) (H : Heap) : Prop :=
 Does Pr 106 #[(.pointer x0), (.int .u8 x1)] H (fun v20 H21 =>
 ∃ n22 : Int, v20 = (.int .i64 n22) ∧ regex_parser_part_10 Q E x0 n22 H21) E

def regex_parser_part_13_M (Q : QT) (E : ET) (τ : Tau) (H : Heap) : Prop := mP (τ 0) fun x0 => mI .u8 (τ 1) fun x1 => regex_parser_part_13 Q E x0 x1 H

theorem regex_parser_part_14ok (Q : QT) (E : ET) (τ : Tau) (H : Heap) (h : regex_parser_part_13_M Q E τ H) : vc Pr regex_parser_part_p10 τ (regex_parser_part_q7 Q E) E H :=
  vP (i := 0) h (fun x0 h => vI (i := 1) h (fun x1 h => (conv (by kernel_rfl) h)))

theorem regex_parser_part_15ok (Q : QT) (E : ET) (τ : Tau) (H : Heap) (h : regex_parser_part_13_M Q E τ H) : vc Pr regex_parser_part_p1 τ (regex_parser_part_q1 Q E) E H :=
  (conv (B := vc Pr regex_parser_part_p1 τ (regex_parser_part_q1 Q E) E H) (by kernel_rfl) (vc_seq (K := (regex_parser_part_10_M Q E)) (regex_parser_part_14ok Q E τ H h) (regex_parser_part_12ok Q E)))

@[reducible] noncomputable def regex_parser_part_q8 (Q : QT) (E : ET) : Exit → Tau → Heap → Prop := (xthen (regex_parser_part_13_M Q E) (regex_parser_part_q1 Q E))

@[reducible] noncomputable def regex_parser_part_p11 : Code := sA regex_parser_part_p0

def regex_parser_part (Q : QT) (E : ET) (a0 : OA) (a1 : Int) (H : Heap) : Prop :=
 regex_parser_part_13 Q E a0 a1 H

theorem regex_parser_part_fn (a0 : OA) (a1 : Int) (Q : QT) (E : ET) (H : Heap) (h : regex_parser_part Q E a0 a1 H)   : Does Pr 104 #[(.pointer a0), (.int .u8 a1)] H Q E :=
  Fn_of_vc (fn := Try.f104) (c := regex_parser_part_p0) (args := [(.pointer a0), (.int .u8 a1)]) mixed (by kernel_rfl) (by kernel_rfl) (by kernel_rfl) (by kernel_rfl) (by kernel_rfl) ((conv (B := vc Pr regex_parser_part_p0 (argT [(.pointer a0), (.int .u8 a1)]) (regex_parser_part_q1 Q E) E H) (by kernel_rfl) (vc_seq (K := (regex_parser_part_13_M Q E)) (conv (B := vc Pr regex_parser_part_p11 (argT [(.pointer a0), (.int .u8 a1)]) (regex_parser_part_q8 Q E) E H) (by kernel_rfl) h) (regex_parser_part_15ok Q E))))

/-! (*jobmux/regex.parser).atom -/
@[reducible] noncomputable def regex_parser_atom_q1 (Q : QT) (E : ET) : Exit → Tau → Heap → Prop := (retQ Pr (Try.f106).results.toList Q)

@[reducible] noncomputable def regex_parser_atom_p0 : Code := bodyOf Try.f106

@[reducible] noncomputable def regex_parser_atom_p1 : Code := sB regex_parser_atom_p0

@[reducible] noncomputable def regex_parser_atom_p2 : Code := sB regex_parser_atom_p1

@[reducible] noncomputable def regex_parser_atom_p3 : Code := sB regex_parser_atom_p2

def regex_parser_atom_1 (Q : QT) (E : ET)  (H : Heap) : Prop :=
 Q (.int .i64 0) H

def regex_parser_atom_1_M (Q : QT) (E : ET) (τ : Tau) (H : Heap) : Prop := regex_parser_atom_1 Q E  H

theorem regex_parser_atom_2ok (Q : QT) (E : ET) (τ : Tau) (H : Heap) (h : regex_parser_atom_1_M Q E τ H) : vc Pr regex_parser_atom_p3 τ (regex_parser_atom_q1 Q E) E H :=
  (conv (B := vc Pr regex_parser_atom_p3 τ (regex_parser_atom_q1 Q E) E H) (by kernel_rfl) h)

@[reducible] noncomputable def regex_parser_atom_q2 (Q : QT) (E : ET) : Exit → Tau → Heap → Prop := (xthen (regex_parser_atom_1_M Q E) (regex_parser_atom_q1 Q E))

@[reducible] noncomputable def regex_parser_atom_p4 : Code := sA regex_parser_atom_p2

@[reducible] noncomputable def regex_parser_atom_p5 : Code := sB regex_parser_atom_p4

@[reducible] noncomputable def regex_parser_atom_q3 (Q : QT) (E : ET) : Exit → Tau → Heap → Prop := (xblock 0 (regex_parser_atom_q2 Q E))

@[reducible] noncomputable def regex_parser_atom_p6 : Code := sI regex_parser_atom_p5

@[reducible] noncomputable def regex_parser_atom_p7 : Code := sB regex_parser_atom_p6

@[reducible] noncomputable def regex_parser_atom_p8 : Code := sT regex_parser_atom_p7

def regex_parser_atom_3 (Q : QT) (E : ET) (x0 : OA) (H : Heap) : Prop :=
 Does Pr 112 #[(.string ⟨[10].toArray⟩)] H (fun v99 H100 =>
 ∃ n101 n102 n103 n104 : Int, v99 = (.agg #[(.int .u64 n101), (.int .u64 n102), (.int .u64 n103), (.int .u64 n104)]) ∧ Does Pr 111 #[(.agg #[(.int .u64 n101), (.int .u64 n102), (.int .u64 n103), (.int .u64 n104)])] H100 (fun v105 H106 =>
 ∃ n107 n108 n109 n110 : Int, v105 = (.agg #[(.int .u64 n107), (.int .u64 n108), (.int .u64 n109), (.int .u64 n110)]) ∧ Does Pr 95 #[(.pointer x0), (.agg #[(.int .i64 2), (.int .i64 0), (.int .i64 0), (.int .u64 n107), (.int .u64 n108), (.int .u64 n109), (.int .u64 n110)])] H106 (fun v111 H112 =>
 ∃ n113 : Int, v111 = (.int .i64 n113) ∧ Q (.int .i64 n113) H112) E) E) E

def regex_parser_atom_3_M (Q : QT) (E : ET) (τ : Tau) (H : Heap) : Prop := mP (τ 0) fun x0 => regex_parser_atom_3 Q E x0 H

theorem regex_parser_atom_4ok (Q : QT) (E : ET) (τ : Tau) (H : Heap) (h : regex_parser_atom_3_M Q E τ H) : vc Pr regex_parser_atom_p8 τ (regex_parser_atom_q3 Q E) E H :=
  vP (i := 0) h (fun x0 h => (conv (by kernel_rfl) h))

@[reducible] noncomputable def regex_parser_atom_p9 : Code := sE regex_parser_atom_p7

@[reducible] noncomputable def regex_parser_atom_p10 : Code := sB regex_parser_atom_p9

@[reducible] noncomputable def regex_parser_atom_p11 : Code := sT regex_parser_atom_p10

def regex_parser_atom_5 (Q : QT) (E : ET) (x0 : OA) (H : Heap) : Prop :=
 Does Pr 95 #[(.pointer x0), (.agg #[(.int .i64 8), (.int .i64 0), (.int .i64 0), (.int .u64 0), (.int .u64 0), (.int .u64 0), (.int .u64 0)])] H (fun v114 H115 =>
 ∃ n116 : Int, v114 = (.int .i64 n116) ∧ Q (.int .i64 n116) H115) E

def regex_parser_atom_5_M (Q : QT) (E : ET) (τ : Tau) (H : Heap) : Prop := mP (τ 0) fun x0 => regex_parser_atom_5 Q E x0 H

theorem regex_parser_atom_6ok (Q : QT) (E : ET) (τ : Tau) (H : Heap) (h : regex_parser_atom_5_M Q E τ H) : vc Pr regex_parser_atom_p11 τ (regex_parser_atom_q3 Q E) E H :=
  vP (i := 0) h (fun x0 h => (conv (by kernel_rfl) h))

@[reducible] noncomputable def regex_parser_atom_p12 : Code := sE regex_parser_atom_p10

@[reducible] noncomputable def regex_parser_atom_p13 : Code := sB regex_parser_atom_p12

@[reducible] noncomputable def regex_parser_atom_p14 : Code := sT regex_parser_atom_p13

def regex_parser_atom_7 (Q : QT) (E : ET) (x0 : OA) (H : Heap) : Prop :=
 Does Pr 95 #[(.pointer x0), (.agg #[(.int .i64 9), (.int .i64 0), (.int .i64 0), (.int .u64 0), (.int .u64 0), (.int .u64 0), (.int .u64 0)])] H (fun v117 H118 =>
 ∃ n119 : Int, v117 = (.int .i64 n119) ∧ Q (.int .i64 n119) H118) E

def regex_parser_atom_7_M (Q : QT) (E : ET) (τ : Tau) (H : Heap) : Prop := mP (τ 0) fun x0 => regex_parser_atom_7 Q E x0 H

theorem regex_parser_atom_8ok (Q : QT) (E : ET) (τ : Tau) (H : Heap) (h : regex_parser_atom_7_M Q E τ H) : vc Pr regex_parser_atom_p14 τ (regex_parser_atom_q3 Q E) E H :=
  vP (i := 0) h (fun x0 h => (conv (by kernel_rfl) h))

@[reducible] noncomputable def regex_parser_atom_p15 : Code := sE regex_parser_atom_p13

@[reducible] noncomputable def regex_parser_atom_p16 : Code := sB regex_parser_atom_p15

@[reducible] noncomputable def regex_parser_atom_p17 : Code := sT regex_parser_atom_p16

def regex_parser_atom_9 (Q : QT) (E : ET) (x0 : OA) (H : Heap) : Prop :=
 Does Pr 113 #[(.pointer x0)] H (fun v120 H121 =>
 ∃ n122 n123 n124 n125 : Int, v120 = (.agg #[(.int .u64 n122), (.int .u64 n123), (.int .u64 n124), (.int .u64 n125)]) ∧ Does Pr 95 #[(.pointer x0), (.agg #[(.int .i64 2), (.int .i64 0), (.int .i64 0), (.int .u64 n122), (.int .u64 n123), (.int .u64 n124), (.int .u64 n125)])] H121 (fun v126 H127 =>
 ∃ n128 : Int, v126 = (.int .i64 n128) ∧ Q (.int .i64 n128) H127) E) E

def regex_parser_atom_9_M (Q : QT) (E : ET) (τ : Tau) (H : Heap) : Prop := mP (τ 0) fun x0 => regex_parser_atom_9 Q E x0 H

theorem regex_parser_atom_10ok (Q : QT) (E : ET) (τ : Tau) (H : Heap) (h : regex_parser_atom_9_M Q E τ H) : vc Pr regex_parser_atom_p17 τ (regex_parser_atom_q3 Q E) E H :=
  vP (i := 0) h (fun x0 h => (conv (by kernel_rfl) h))

@[reducible] noncomputable def regex_parser_atom_p18 : Code := sE regex_parser_atom_p16

@[reducible] noncomputable def regex_parser_atom_p19 : Code := sB regex_parser_atom_p18

@[reducible] noncomputable def regex_parser_atom_p20 : Code := sT regex_parser_atom_p19

def regex_parser_atom_11 (Q : QT) (E : ET) (x0 : OA) (H : Heap) : Prop :=
 Does Pr 103 #[(.pointer x0), (.int .i64 80)] H (fun v129 H130 =>
 ∃ n131 : Int, v129 = (.int .i64 n131) ∧ regex_parser_atom_1 Q E  H130) E

def regex_parser_atom_11_M (Q : QT) (E : ET) (τ : Tau) (H : Heap) : Prop := mP (τ 0) fun x0 => regex_parser_atom_11 Q E x0 H

theorem regex_parser_atom_12ok (Q : QT) (E : ET) (τ : Tau) (H : Heap) (h : regex_parser_atom_11_M Q E τ H) : vc Pr regex_parser_atom_p20 τ (regex_parser_atom_q3 Q E) E H :=
  vP (i := 0) h (fun x0 h => (conv (by kernel_rfl) h))

@[reducible] noncomputable def regex_parser_atom_p21 : Code := sE regex_parser_atom_p19

@[reducible] noncomputable def regex_parser_atom_p22 : Code := sB regex_parser_atom_p21

@[reducible] noncomputable def regex_parser_atom_p23 : Code := sT regex_parser_atom_p22

def regex_parser_atom_13 (Q : QT) (E : ET) (x0 : OA) (H : Heap) : Prop :=
 Does Pr 103 #[(.pointer x0), (.int .i64 81)] H (fun v132 H133 =>
 ∃ n134 : Int, v132 = (.int .i64 n134) ∧ regex_parser_atom_1 Q E  H133) E

def regex_parser_atom_13_M (Q : QT) (E : ET) (τ : Tau) (H : Heap) : Prop := mP (τ 0) fun x0 => regex_parser_atom_13 Q E x0 H

theorem regex_parser_atom_14ok (Q : QT) (E : ET) (τ : Tau) (H : Heap) (h : regex_parser_atom_13_M Q E τ H) : vc Pr regex_parser_atom_p23 τ (regex_parser_atom_q3 Q E) E H :=
  vP (i := 0) h (fun x0 h => (conv (by kernel_rfl) h))

@[reducible] noncomputable def regex_parser_atom_p24 : Code := sE regex_parser_atom_p22

@[reducible] noncomputable def regex_parser_atom_p25 : Code := sB regex_parser_atom_p24

@[reducible] noncomputable def regex_parser_atom_p26 : Code := sT regex_parser_atom_p25

def regex_parser_atom_15 (Q : QT) (E : ET) (x0 : OA) (H : Heap) : Prop :=
 ptr x0 fun q135 =>
 ldI .i64 (Addr.add q135 1) H fun n136 =>
 ptr x0 fun q137 =>
 wr (Addr.add q137 1) [(.int .i64 (IntKind.wrap .i64 (n136 - 1)))] H fun H138 =>
 Does Pr 114 #[(.pointer x0)] H138 (fun v139 H140 =>
 ∃ n141 n142 n143 n144 n145 : Int, ∃ b146 : Bool, v139 = (.tuple #[(.int .u8 n141), (.agg #[(.int .u64 n142), (.int .u64 n143), (.int .u64 n144), (.int .u64 n145)]), (.bool b146)]) ∧ nw (.cells #[(.int .u64 0), (.int .u64 0), (.int .u64 0), (.int .u64 0)] 46 (0, 0)) H140 fun i147 H148 =>
 wr ⟨i147, 0, none⟩ [(.int .u64 n142), (.int .u64 n143), (.int .u64 n144), (.int .u64 n145)] H148 fun H149 =>
 ∃ n150 n151 n152 n153 : Int, Heap.rd H149 ⟨i147, 0, none⟩ 0 [(.int .u64 n150), (.int .u64 n151), (.int .u64 n152), (.int .u64 n153)] ∧ Does Pr 95 #[(.pointer x0), (.agg #[(.int .i64 2), (.int .i64 0), (.int .i64 0), (.int .u64 n150), (.int .u64 n151), (.int .u64 n152), (.int .u64 n153)])] H149 (fun v154 H155 =>
 ∃ n156 : Int, v154 = (.int .i64 n156) ∧ Q (.int .i64 n156) H155) E) E

def regex_parser_atom_15_M (Q : QT) (E : ET) (τ : Tau) (H : Heap) : Prop := mP (τ 0) fun x0 => regex_parser_atom_15 Q E x0 H

theorem regex_parser_atom_16ok (Q : QT) (E : ET) (τ : Tau) (H : Heap) (h : regex_parser_atom_15_M Q E τ H) : vc Pr regex_parser_atom_p26 τ (regex_parser_atom_q3 Q E) E H :=
  vP (i := 0) h (fun x0 h => (conv (by kernel_rfl) h))

@[reducible] noncomputable def regex_parser_atom_p27 : Code := sE regex_parser_atom_p25

@[reducible] noncomputable def regex_parser_atom_p28 : Code := sB regex_parser_atom_p27

@[reducible] noncomputable def regex_parser_atom_p29 : Code := sT regex_parser_atom_p28

@[reducible] noncomputable def regex_parser_atom_p30 : Code := sB regex_parser_atom_p29

@[reducible] noncomputable def regex_parser_atom_p31 : Code := sB regex_parser_atom_p30

@[reducible] noncomputable def regex_parser_atom_p32 : Code := sB regex_parser_atom_p31

def regex_parser_atom_17 (Q : QT) (E : ET) (x0 : OA) (x8 : Int) (H : Heap) : Prop :=
 ptr x0 fun q180 =>
 ldI .i64 (Addr.add q180 2) H fun n181 =>
 ptr x0 fun q182 =>
 wr (Addr.add q182 2) [(.int .i64 (IntKind.wrap .i64 (n181 - 1)))] H fun H183 =>
 Q (.int .i64 x8) H183

def regex_parser_atom_17_M (Q : QT) (E : ET) (τ : Tau) (H : Heap) : Prop := mP (τ 0) fun x0 => mI .i64 (τ 8) fun x8 => regex_parser_atom_17 Q E x0 x8 H

theorem regex_parser_atom_18ok (Q : QT) (E : ET) (τ : Tau) (H : Heap) (h : regex_parser_atom_17_M Q E τ H) : vc Pr regex_parser_atom_p32 τ (regex_parser_atom_q3 Q E) E H :=
  vP (i := 0) h (fun x0 h => vI (i := 8) h (fun x8 h => (conv (by kernel_rfl) h)))

@[reducible] noncomputable def regex_parser_atom_q4 (Q : QT) (E : ET) : Exit → Tau → Heap → Prop := (xthen (regex_parser_atom_17_M Q E) (regex_parser_atom_q3 Q E))

@[reducible] noncomputable def regex_parser_atom_p33 : Code := sA regex_parser_atom_p31

@[reducible] noncomputable def regex_parser_atom_p34 : Code := sB regex_parser_atom_p33

@[reducible] noncomputable def regex_parser_atom_p35 : Code := sB regex_parser_atom_p34

def regex_parser_atom_19 (Q : QT) (E : ET) (x0 : OA) (x8 : Int) (x106 : Bool) (H : Heap) : Prop :=
 sel x106
 (ptr x0 fun q188 =>
 ldI .i64 (Addr.add q188 1) H fun n189 =>
 ptr x0 fun q190 =>
 wr (Addr.add q190 1) [(.int .i64 (IntKind.wrap .i64 (n189 + 1)))] H fun H191 =>
 regex_parser_atom_17 Q E x0 x8 H191)
 (Does Pr 103 #[(.pointer x0), (.int .i64 83)] H (fun v192 H193 =>
 ∃ n194 : Int, v192 = (.int .i64 n194) ∧ regex_parser_atom_17 Q E x0 x8 H193) E)

def regex_parser_atom_19_M (Q : QT) (E : ET) (τ : Tau) (H : Heap) : Prop := mP (τ 0) fun x0 => mI .i64 (τ 8) fun x8 => mB (τ 106) fun x106 => regex_parser_atom_19 Q E x0 x8 x106 H

theorem regex_parser_atom_20ok (Q : QT) (E : ET) (τ : Tau) (H : Heap) (h : regex_parser_atom_19_M Q E τ H) : vc Pr regex_parser_atom_p35 τ (regex_parser_atom_q4 Q E) E H :=
  vP (i := 0) h (fun x0 h => vI (i := 8) h (fun x8 h => vB (i := 106) h (fun x106 h => (conv (by kernel_rfl) h))))

@[reducible] noncomputable def regex_parser_atom_q5 (Q : QT) (E : ET) : Exit → Tau → Heap → Prop := (xthen (regex_parser_atom_19_M Q E) (regex_parser_atom_q4 Q E))

@[reducible] noncomputable def regex_parser_atom_p36 : Code := sA regex_parser_atom_p34

def regex_parser_atom_21 (Q : QT) (E : ET) (x0 : OA) (x8 : Int) (x9 : Int) (x10 : Bool) (H : Heap) : Prop :=
 sel x10
 (regex_parser_atom_19 Q E x0 x8 ((x9 : Int) == 41) H)
 (regex_parser_atom_19 Q E x0 x8 false H)

def regex_parser_atom_21_M (Q : QT) (E : ET) (τ : Tau) (H : Heap) : Prop := mP (τ 0) fun x0 => mI .i64 (τ 8) fun x8 => mI .u8 (τ 9) fun x9 => mB (τ 10) fun x10 => regex_parser_atom_21 Q E x0 x8 x9 x10 H

theorem regex_parser_atom_22ok (Q : QT) (E : ET) (τ : Tau) (H : Heap) (h : regex_parser_atom_21_M Q E τ H) : vc Pr regex_parser_atom_p36 τ (regex_parser_atom_q5 Q E) E H :=
  vP (i := 0) h (fun x0 h => vI (i := 8) h (fun x8 h => vI (i := 9) h (fun x9 h => vB (i := 10) h (fun x10 h => (conv (by kernel_rfl) h)))))

theorem regex_parser_atom_23ok (Q : QT) (E : ET) (τ : Tau) (H : Heap) (h : regex_parser_atom_21_M Q E τ H) : vc Pr regex_parser_atom_p34 τ (regex_parser_atom_q4 Q E) E H :=
  (conv (B := vc Pr regex_parser_atom_p34 τ (regex_parser_atom_q4 Q E) E H) (by kernel_rfl) (vc_seq (K := (regex_parser_atom_19_M Q E)) (regex_parser_atom_22ok Q E τ H h) (regex_parser_atom_20ok Q E)))

@[reducible] noncomputable def regex_parser_atom_q6 (Q : QT) (E : ET) : Exit → Tau → Heap → Prop := (xthen (regex_parser_atom_21_M Q E) (regex_parser_atom_q4 Q E))

@[reducible] noncomputable def regex_parser_atom_p37 : Code := sA regex_parser_atom_p33

def regex_parser_atom_24 (Q : QT) (E : ET) (x0 : OA) (x8 : Int) (H : Heap) : Prop :=
 Does Pr 94 #[(.pointer x0)] H (fun v195 H196 =>
 ∃ n197 : Int, ∃ b198 : Bool, v195 = (.tuple #[(.int .u8 n197), (.bool b198)]) ∧ regex_parser_atom_21 Q E x0 x8 n197 b198 H196) E

def regex_parser_atom_24_M (Q : QT) (E : ET) (τ : Tau) (H : Heap) : Prop := mP (τ 0) fun x0 => mI .i64 (τ 8) fun x8 => regex_parser_atom_24 Q E x0 x8 H

theorem regex_parser_atom_25ok (Q : QT) (E : ET) (τ : Tau) (H : Heap) (h : regex_parser_atom_24_M Q E τ H) : vc Pr regex_parser_atom_p37 τ (regex_parser_atom_q6 Q E) E H :=
  vP (i := 0) h (fun x0 h => vI (i := 8) h (fun x8 h => (conv (by kernel_rfl) h)))

theorem regex_parser_atom_26ok (Q : QT) (E : ET) (τ : Tau) (H : Heap) (h : regex_parser_atom_24_M Q E τ H) : vc Pr regex_parser_atom_p33 τ (regex_parser_atom_q4 Q E) E H :=
  (conv (B := vc Pr regex_parser_atom_p33 τ (regex_parser_atom_q4 Q E) E H) (by kernel_rfl) (vc_seq (K := (regex_parser_atom_21_M Q E)) (regex_parser_atom_25ok Q E τ H h) (regex_parser_atom_23ok Q E)))

theorem regex_parser_atom_27ok (Q : QT) (E : ET) (τ : Tau) (H : Heap) (h : regex_parser_atom_24_M Q E τ H) : vc Pr regex_parser_atom_p31 τ (regex_parser_atom_q3 Q E) E H :=
  (conv (B := vc Pr regex_parser_atom_p31 τ (regex_parser_atom_q3 Q E) E H) (by kernel_rfl) (vc_seq (K := (regex_parser_atom_17_M Q E)) (regex_parser_atom_26ok Q E τ H h) (regex_parser_atom_18ok Q E)))

@[reducible] noncomputable def regex_parser_atom_q7 (Q : QT) (E : ET) : Exit → Tau → Heap → Prop := (xthen (regex_parser_atom_24_M Q E) (regex_parser_atom_q3 Q E))

@[reducible] noncomputable def regex_parser_atom_p38 : Code := sA regex_parser_atom_p30

def regex_parser_atom_28 (Q : QT) (E : ET) (x0 : OA) (H : Heap) : Prop :=
 Does Pr 60 #[(.pointer x0)] H (fun v199 H200 =>
 ∃ n201 : Int, v199 = (.int .i64 n201) ∧ regex_parser_atom_24 Q E x0 n201 H200) E

def regex_parser_atom_28_M (Q : QT) (E : ET) (τ : Tau) (H : Heap) : Prop := mP (τ 0) fun x0 => regex_parser_atom_28 Q E x0 H

theorem regex_parser_atom_29ok (Q : QT) (E : ET) (τ : Tau) (H : Heap) (h : regex_parser_atom_28_M Q E τ H) : vc Pr regex_parser_atom_p38 τ (regex_parser_atom_q7 Q E) E H :=
  vP (i := 0) h (fun x0 h => (conv (by kernel_rfl) h))

theorem regex_parser_atom_30ok (Q : QT) (E : ET) (τ : Tau) (H : Heap) (h : regex_parser_atom_28_M Q E τ H) : vc Pr regex_parser_atom_p30 τ (regex_parser_atom_q3 Q E) E H :=
  (conv (B := vc Pr regex_parser_atom_p30 τ (regex_parser_atom_q3 Q E) E H) (by kernel_rfl) (vc_seq (K := (regex_parser_atom_24_M Q E)) (regex_parser_atom_29ok Q E τ H h) (regex_parser_atom_27ok Q E)))

@[reducible] noncomputable def regex_parser_atom_q8 (Q : QT) (E : ET) : Exit → Tau → Heap → Prop := (xthen (regex_parser_atom_28_M Q E) (regex_parser_atom_q3 Q E))

@[reducible] noncomputable def regex_parser_atom_p39 : Code := sA regex_parser_atom_p29

def regex_parser_atom_31 (Q : QT) (E : ET) (x0 : OA) (H : Heap) : Prop :=
 ptr x0 fun q202 =>
 ldI .i64 (Addr.add q202 2) H fun n203 =>
 ptr x0 fun q204 =>
 wr (Addr.add q204 2) [(.int .i64 (IntKind.wrap .i64 (n203 + 1)))] H fun H205 =>
 ptr x0 fun q206 =>
 ldI .i64 (Addr.add q206 2) H205 fun n207 =>
 sel (decide ((n207 : Int) > 24))
 (Does Pr 103 #[(.pointer x0), (.int .i64 84)] H205 (fun v208 H209 =>
 ∃ n210 : Int, v208 = (.int .i64 n210) ∧ Q (.int .i64 0) H209) E)
 (regex_parser_atom_28 Q E x0 H205)

def regex_parser_atom_31_M (Q : QT) (E : ET) (τ : Tau) (H : Heap) : Prop := mP (τ 0) fun x0 => regex_parser_atom_31 Q E x0 H

theorem regex_parser_atom_32ok (Q : QT) (E : ET) (τ : Tau) (H : Heap) (h : regex_parser_atom_31_M Q E τ H) : vc Pr regex_parser_atom_p39 τ (regex_parser_atom_q8 Q E) E H :=
  vP (i := 0) h (fun x0 h => (conv (by kernel_rfl) h))

theorem regex_parser_atom_33ok (Q : QT) (E : ET) (τ : Tau) (H : Heap) (h : regex_parser_atom_31_M Q E τ H) : vc Pr regex_parser_atom_p29 τ (regex_parser_atom_q3 Q E) E H :=
  (conv (B := vc Pr regex_parser_atom_p29 τ (regex_parser_atom_q3 Q E) E H) (by kernel_rfl) (vc_seq (K := (regex_parser_atom_28_M Q E)) (regex_parser_atom_32ok Q E τ H h) (regex_parser_atom_30ok Q E)))

@[reducible] noncomputable def regex_parser_atom_p40 : Code := sE regex_parser_atom_p28

def regex_parser_atom_34 (Q : QT) (E : ET) (x0 : OA) (x1 : Int) (H : Heap) : Prop :=
 Does Pr 115 #[(.agg #[(.int .u64 0), (.int .u64 0), (.int .u64 0), (.int .u64 0)]), (.int .u8 x1), (.int .u8 x1)] H (fun v211 H212 =>
 ∃ n213 n214 n215 n216 : Int, v211 = (.agg #[(.int .u64 n213), (.int .u64 n214), (.int .u64 n215), (.int .u64 n216)]) ∧ Does Pr 95 #[(.pointer x0), (.agg #[(.int .i64 2), (.int .i64 0), (.int .i64 0), (.int .u64 n213), (.int .u64 n214), (.int .u64 n215), (.int .u64 n216)])] H212 (fun v217 H218 =>
 ∃ n219 : Int, v217 = (.int .i64 n219) ∧ Q (.int .i64 n219) H218) E) E

def regex_parser_atom_34_M (Q : QT) (E : ET) (τ : Tau) (H : Heap) : Prop := mP (τ 0) fun x0 => mI .u8 (τ 1) fun x1 => regex_parser_atom_34 Q E x0 x1 H

theorem regex_parser_atom_35ok (Q : QT) (E : ET) (τ : Tau) (H : Heap) (h : regex_parser_atom_34_M Q E τ H) : vc Pr regex_parser_atom_p40 τ (regex_parser_atom_q3 Q E) E H :=
  vP (i := 0) h (fun x0 h => vI (i := 1) h (fun x1 h => (conv (by kernel_rfl) h)))

def regex_parser_atom_36 (Q : QT) (E : ET) (x0 : OA) (x1 : Int) (x79 : Bool) (H : Heap) : Prop :=
 sel x79
 (regex_parser_atom_31 Q E x0 H)
 (regex_parser_atom_34 Q E x0 x1 H)

def regex_parser_atom_36_M (Q : QT) (E : ET) (τ : Tau) (H : Heap) : Prop := mP (τ 0) fun x0 => mI .u8 (τ 1) fun x1 => mB (τ 79) fun x79 => regex_parser_atom_36 Q E x0 x1 x79 H

theorem regex_parser_atom_37ok (Q : QT) (E : ET) (τ : Tau) (H : Heap) (h : regex_parser_atom_36_M Q E τ H) : vc Pr regex_parser_atom_p28 τ (regex_parser_atom_q3 Q E) E H :=
  vP (i := 0) h (fun x0 h => vI (i := 1) h (fun x1 h => vB (i := 79) h (fun x79 h => (conv (B := vc Pr regex_parser_atom_p28 (Tau.upd (Tau.upd (Tau.upd τ 0 (.pointer x0)) 1 (.int .u8 x1)) 79 (.bool x79)) (regex_parser_atom_q3 Q E) E H) (by kernel_rfl) (sel_map (regex_parser_atom_33ok Q E (Tau.upd (Tau.upd (Tau.upd τ 0 (.pointer x0)) 1 (.int .u8 x1)) 79 (.bool x79)) H) (regex_parser_atom_35ok Q E (Tau.upd (Tau.upd (Tau.upd τ 0 (.pointer x0)) 1 (.int .u8 x1)) 79 (.bool x79)) H) (conv (B := sel x79 (regex_parser_atom_31_M Q E (Tau.upd (Tau.upd (Tau.upd τ 0 (.pointer x0)) 1 (.int .u8 x1)) 79 (.bool x79)) H) (regex_parser_atom_34_M Q E (Tau.upd (Tau.upd (Tau.upd τ 0 (.pointer x0)) 1 (.int .u8 x1)) 79 (.bool x79)) H)) (by kernel_rfl) h))))))

@[reducible] noncomputable def regex_parser_atom_q9 (Q : QT) (E : ET) : Exit → Tau → Heap → Prop := (xthen (regex_parser_atom_36_M Q E) (regex_parser_atom_q3 Q E))

@[reducible] noncomputable def regex_parser_atom_p41 : Code := sA regex_parser_atom_p27

def regex_parser_atom_38 (Q : QT) (E : ET) (x0 : OA) (x1 : Int) (x18 : Int) (H : Heap) : Prop :=
 regex_parser_atom_36 Q E x0 x1 ((x18 : Int) == 40) H

def regex_parser_atom_38_M (Q : QT) (E : ET) (τ : Tau) (H : Heap) : Prop := mP (τ 0) fun x0 => mI .u8 (τ 1) fun x1 => mI .u8 (τ 18) fun x18 => regex_parser_atom_38 Q E x0 x1 x18 H

theorem regex_parser_atom_39ok (Q : QT) (E : ET) (τ : Tau) (H : Heap) (h : regex_parser_atom_38_M Q E τ H) : vc Pr regex_parser_atom_p41 τ (regex_parser_atom_q9 Q E) E H :=
  vP (i := 0) h (fun x0 h => vI (i := 1) h (fun x1 h => vI (i := 18) h (fun x18 h => (conv (by kernel_rfl) h))))

theorem regex_parser_atom_40ok (Q : QT) (E : ET) (τ : Tau) (H : Heap) (h : regex_parser_atom_38_M Q E τ H) : vc Pr regex_parser_atom_p27 τ (regex_parser_atom_q3 Q E) E H :=
  (conv (B := vc Pr regex_parser_atom_p27 τ (regex_parser_atom_q3 Q E) E H) (by kernel_rfl) (vc_seq (K := (regex_parser_atom_36_M Q E)) (regex_parser_atom_39ok Q E τ H h) (regex_parser_atom_37ok Q E)))

def regex_parser_atom_41 (Q : QT) (E : ET) (x0 : OA) (x1 : Int) (x18 : Int) (x60 : Bool) (H : Heap) : Prop :=
 sel x60
 (regex_parser_atom_15 Q E x0 H)
 (regex_parser_atom_38 Q E x0 x1 x18 H)

def regex_parser_atom_41_M (Q : QT) (E : ET) (τ : Tau) (H : Heap) : Prop := mP (τ 0) fun x0 => mI .u8 (τ 1) fun x1 => mI .u8 (τ 18) fun x18 => mB (τ 60) fun x60 => regex_parser_atom_41 Q E x0 x1 x18 x60 H

theorem regex_parser_atom_42ok (Q : QT) (E : ET) (τ : Tau) (H : Heap) (h : regex_parser_atom_41_M Q E τ H) : vc Pr regex_parser_atom_p25 τ (regex_parser_atom_q3 Q E) E H :=
  vP (i := 0) h (fun x0 h => vI (i := 1) h (fun x1 h => vI (i := 18) h (fun x18 h => vB (i := 60) h (fun x60 h => (conv (B := vc Pr regex_parser_atom_p25 (Tau.upd (Tau.upd (Tau.upd (Tau.upd τ 0 (.pointer x0)) 1 (.int .u8 x1)) 18 (.int .u8 x18)) 60 (.bool x60)) (regex_parser_atom_q3 Q E) E H) (by kernel_rfl) (sel_map (regex_parser_atom_16ok Q E (Tau.upd (Tau.upd (Tau.upd (Tau.upd τ 0 (.pointer x0)) 1 (.int .u8 x1)) 18 (.int .u8 x18)) 60 (.bool x60)) H) (regex_parser_atom_40ok Q E (Tau.upd (Tau.upd (Tau.upd (Tau.upd τ 0 (.pointer x0)) 1 (.int .u8 x1)) 18 (.int .u8 x18)) 60 (.bool x60)) H) (conv (B := sel x60 (regex_parser_atom_15_M Q E (Tau.upd (Tau.upd (Tau.upd (Tau.upd τ 0 (.pointer x0)) 1 (.int .u8 x1)) 18 (.int .u8 x18)) 60 (.bool x60)) H) (regex_parser_atom_38_M Q E (Tau.upd (Tau.upd (Tau.upd (Tau.upd τ 0 (.pointer x0)) 1 (.int .u8 x1)) 18 (.int .u8 x18)) 60 (.bool x60)) H)) (by kernel_rfl) h)))))))

@[reducible] noncomputable def regex_parser_atom_q10 (Q : QT) (E : ET) : Exit → Tau → Heap → Prop := (xthen (regex_parser_atom_41_M Q E) (regex_parser_atom_q3 Q E))

@[reducible] noncomputable def regex_parser_atom_p42 : Code := sA regex_parser_atom_p24

def regex_parser_atom_43 (Q : QT) (E : ET) (x0 : OA) (x1 : Int) (x18 : Int) (H : Heap) : Prop :=
 regex_parser_atom_41 Q E x0 x1 x18 ((x18 : Int) == 92) H

def regex_parser_atom_43_M (Q : QT) (E : ET) (τ : Tau) (H : Heap) : Prop := mP (τ 0) fun x0 => mI .u8 (τ 1) fun x1 => mI .u8 (τ 18) fun x18 => regex_parser_atom_43 Q E x0 x1 x18 H

theorem regex_parser_atom_44ok (Q : QT) (E : ET) (τ : Tau) (H : Heap) (h : regex_parser_atom_43_M Q E τ H) : vc Pr regex_parser_atom_p42 τ (regex_parser_atom_q10 Q E) E H :=
  vP (i := 0) h (fun x0 h => vI (i := 1) h (fun x1 h => vI (i := 18) h (fun x18 h => (conv (by kernel_rfl) h))))

theorem regex_parser_atom_45ok (Q : QT) (E : ET) (τ : Tau) (H : Heap) (h : regex_parser_atom_43_M Q E τ H) : vc Pr regex_parser_atom_p24 τ (regex_parser_atom_q3 Q E) E H :=
  (conv (B := vc Pr regex_parser_atom_p24 τ (regex_parser_atom_q3 Q E) E H) (by kernel_rfl) (vc_seq (K := (regex_parser_atom_41_M Q E)) (regex_parser_atom_44ok Q E τ H h) (regex_parser_atom_42ok Q E)))

def regex_parser_atom_46 (Q : QT) (E : ET) (x0 : OA) (x1 : Int) (x18 : Int) (x54 : Bool) (H : Heap) : Prop :=
 sel x54
 (regex_parser_atom_13 Q E x0 H)
 (regex_parser_atom_43 Q E x0 x1 x18 H)

def regex_parser_atom_46_M (Q : QT) (E : ET) (τ : Tau) (H : Heap) : Prop := mP (τ 0) fun x0 => mI .u8 (τ 1) fun x1 => mI .u8 (τ 18) fun x18 => mB (τ 54) fun x54 => regex_parser_atom_46 Q E x0 x1 x18 x54 H

theorem regex_parser_atom_47ok (Q : QT) (E : ET) (τ : Tau) (H : Heap) (h : regex_parser_atom_46_M Q E τ H) : vc Pr regex_parser_atom_p22 τ (regex_parser_atom_q3 Q E) E H :=
  vP (i := 0) h (fun x0 h => vI (i := 1) h (fun x1 h => vI (i := 18) h (fun x18 h => vB (i := 54) h (fun x54 h => (conv (B := vc Pr regex_parser_atom_p22 (Tau.upd (Tau.upd (Tau.upd (Tau.upd τ 0 (.pointer x0)) 1 (.int .u8 x1)) 18 (.int .u8 x18)) 54 (.bool x54)) (regex_parser_atom_q3 Q E) E H) (by kernel_rfl) (sel_map (regex_parser_atom_14ok Q E (Tau.upd (Tau.upd (Tau.upd (Tau.upd τ 0 (.pointer x0)) 1 (.int .u8 x1)) 18 (.int .u8 x18)) 54 (.bool x54)) H) (regex_parser_atom_45ok Q E (Tau.upd (Tau.upd (Tau.upd (Tau.upd τ 0 (.pointer x0)) 1 (.int .u8 x1)) 18 (.int .u8 x18)) 54 (.bool x54)) H) (conv (B := sel x54 (regex_parser_atom_13_M Q E (Tau.upd (Tau.upd (Tau.upd (Tau.upd τ 0 (.pointer x0)) 1 (.int .u8 x1)) 18 (.int .u8 x18)) 54 (.bool x54)) H) (regex_parser_atom_43_M Q E (Tau.upd (Tau.upd (Tau.upd (Tau.upd τ 0 (.pointer x0)) 1 (.int .u8 x1)) 18 (.int .u8 x18)) 54 (.bool x54)) H)) (by kernel_rfl) h)))))))

@[reducible] noncomputable def regex_parser_atom_q11 (Q : QT) (E : ET) : Exit → Tau → Heap → Prop := (xthen (regex_parser_atom_46_M Q E) (regex_parser_atom_q3 Q E))

@[reducible] noncomputable def regex_parser_atom_p43 : Code := sA regex_parser_atom_p21

def regex_parser_atom_48 (Q : QT) (E : ET) (x0 : OA) (x1 : Int) (x18 : Int) (H : Heap) : Prop :=
 sel ((x18 : Int) == 42)
 (regex_parser_atom_46 Q E x0 x1 x18 ((x18 : Int) == 42) H)
 (sel ((x18 : Int) == 43)
 (regex_parser_atom_46 Q E x0 x1 x18 ((x18 : Int) == 43) H)
 (regex_parser_atom_46 Q E x0 x1 x18 ((x18 : Int) == 63) H))

def regex_parser_atom_48_M (Q : QT) (E : ET) (τ : Tau) (H : Heap) : Prop := mP (τ 0) fun x0 => mI .u8 (τ 1) fun x1 => mI .u8 (τ 18) fun x18 => regex_parser_atom_48 Q E x0 x1 x18 H

theorem regex_parser_atom_49ok (Q : QT) (E : ET) (τ : Tau) (H : Heap) (h : regex_parser_atom_48_M Q E τ H) : vc Pr regex_parser_atom_p43 τ (regex_parser_atom_q11 Q E) E H :=
  vP (i := 0) h (fun x0 h => vI (i := 1) h (fun x1 h => vI (i := 18) h (fun x18 h => (conv (by kernel_rfl) h))))

theorem regex_parser_atom_50ok (Q : QT) (E : ET) (τ : Tau) (H : Heap) (h : regex_parser_atom_48_M Q E τ H) : vc Pr regex_parser_atom_p21 τ (regex_parser_atom_q3 Q E) E H :=
  (conv (B := vc Pr regex_parser_atom_p21 τ (regex_parser_atom_q3 Q E) E H) (by kernel_rfl) (vc_seq (K := (regex_parser_atom_46_M Q E)) (regex_parser_atom_49ok Q E τ H h) (regex_parser_atom_47ok Q E)))

def regex_parser_atom_51 (Q : QT) (E : ET) (x0 : OA) (x1 : Int) (x18 : Int) (x50 : Bool) (H : Heap) : Prop :=
 sel x50
 (regex_parser_atom_11 Q E x0 H)
 (regex_parser_atom_48 Q E x0 x1 x18 H)

def regex_parser_atom_51_M (Q : QT) (E : ET) (τ : Tau) (H : Heap) : Prop := mP (τ 0) fun x0 => mI .u8 (τ 1) fun x1 => mI .u8 (τ 18) fun x18 => mB (τ 50) fun x50 => regex_parser_atom_51 Q E x0 x1 x18 x50 H

theorem regex_parser_atom_52ok (Q : QT) (E : ET) (τ : Tau) (H : Heap) (h : regex_parser_atom_51_M Q E τ H) : vc Pr regex_parser_atom_p19 τ (regex_parser_atom_q3 Q E) E H :=
  vP (i := 0) h (fun x0 h => vI (i := 1) h (fun x1 h => vI (i := 18) h (fun x18 h => vB (i := 50) h (fun x50 h => (conv (B := vc Pr regex_parser_atom_p19 (Tau.upd (Tau.upd (Tau.upd (Tau.upd τ 0 (.pointer x0)) 1 (.int .u8 x1)) 18 (.int .u8 x18)) 50 (.bool x50)) (regex_parser_atom_q3 Q E) E H) (by kernel_rfl) (sel_map (regex_parser_atom_12ok Q E (Tau.upd (Tau.upd (Tau.upd (Tau.upd τ 0 (.pointer x0)) 1 (.int .u8 x1)) 18 (.int .u8 x18)) 50 (.bool x50)) H) (regex_parser_atom_50ok Q E (Tau.upd (Tau.upd (Tau.upd (Tau.upd τ 0 (.pointer x0)) 1 (.int .u8 x1)) 18 (.int .u8 x18)) 50 (.bool x50)) H) (conv (B := sel x50 (regex_parser_atom_11_M Q E (Tau.upd (Tau.upd (Tau.upd (Tau.upd τ 0 (.pointer x0)) 1 (.int .u8 x1)) 18 (.int .u8 x18)) 50 (.bool x50)) H) (regex_parser_atom_48_M Q E (Tau.upd (Tau.upd (Tau.upd (Tau.upd τ 0 (.pointer x0)) 1 (.int .u8 x1)) 18 (.int .u8 x18)) 50 (.bool x50)) H)) (by kernel_rfl) h)))))))

@[reducible] noncomputable def regex_parser_atom_q12 (Q : QT) (E : ET) : Exit → Tau → Heap → Prop := (xthen (regex_parser_atom_51_M Q E) (regex_parser_atom_q3 Q E))

@[reducible] noncomputable def regex_parser_atom_p44 : Code := sA regex_parser_atom_p18

def regex_parser_atom_53 (Q : QT) (E : ET) (x0 : OA) (x1 : Int) (x18 : Int) (H : Heap) : Prop :=
 regex_parser_atom_51 Q E x0 x1 x18 ((x18 : Int) == 93) H

def regex_parser_atom_53_M (Q : QT) (E : ET) (τ : Tau) (H : Heap) : Prop := mP (τ 0) fun x0 => mI .u8 (τ 1) fun x1 => mI .u8 (τ 18) fun x18 => regex_parser_atom_53 Q E x0 x1 x18 H

theorem regex_parser_atom_54ok (Q : QT) (E : ET) (τ : Tau) (H : Heap) (h : regex_parser_atom_53_M Q E τ H) : vc Pr regex_parser_atom_p44 τ (regex_parser_atom_q12 Q E) E H :=
  vP (i := 0) h (fun x0 h => vI (i := 1) h (fun x1 h => vI (i := 18) h (fun x18 h => (conv (by kernel_rfl) h))))

theorem regex_parser_atom_55ok (Q : QT) (E : ET) (τ : Tau) (H : Heap) (h : regex_parser_atom_53_M Q E τ H) : vc Pr regex_parser_atom_p18 τ (regex_parser_atom_q3 Q E) E H :=
  (conv (B := vc Pr regex_parser_atom_p18 τ (regex_parser_atom_q3 Q E) E H) (by kernel_rfl) (vc_seq (K := (regex_parser_atom_51_M Q E)) (regex_parser_atom_54ok Q E τ H h) (regex_parser_atom_52ok Q E)))

def regex_parser_atom_56 (Q : QT) (E : ET) (x0 : OA) (x1 : Int) (x18 : Int) (x43 : Bool) (H : Heap) : Prop :=
 sel x43
 (regex_parser_atom_9 Q E x0 H)
 (regex_parser_atom_53 Q E x0 x1 x18 H)

def regex_parser_atom_56_M (Q : QT) (E : ET) (τ : Tau) (H : Heap) : Prop := mP (τ 0) fun x0 => mI .u8 (τ 1) fun x1 => mI .u8 (τ 18) fun x18 => mB (τ 43) fun x43 => regex_parser_atom_56 Q E x0 x1 x18 x43 H

theorem regex_parser_atom_57ok (Q : QT) (E : ET) (τ : Tau) (H : Heap) (h : regex_parser_atom_56_M Q E τ H) : vc Pr regex_parser_atom_p16 τ (regex_parser_atom_q3 Q E) E H :=
  vP (i := 0) h (fun x0 h => vI (i := 1) h (fun x1 h => vI (i := 18) h (fun x18 h => vB (i := 43) h (fun x43 h => (conv (B := vc Pr regex_parser_atom_p16 (Tau.upd (Tau.upd (Tau.upd (Tau.upd τ 0 (.pointer x0)) 1 (.int .u8 x1)) 18 (.int .u8 x18)) 43 (.bool x43)) (regex_parser_atom_q3 Q E) E H) (by kernel_rfl) (sel_map (regex_parser_atom_10ok Q E (Tau.upd (Tau.upd (Tau.upd (Tau.upd τ 0 (.pointer x0)) 1 (.int .u8 x1)) 18 (.int .u8 x18)) 43 (.bool x43)) H) (regex_parser_atom_55ok Q E (Tau.upd (Tau.upd (Tau.upd (Tau.upd τ 0 (.pointer x0)) 1 (.int .u8 x1)) 18 (.int .u8 x18)) 43 (.bool x43)) H) (conv (B := sel x43 (regex_parser_atom_9_M Q E (Tau.upd (Tau.upd (Tau.upd (Tau.upd τ 0 (.pointer x0)) 1 (.int .u8 x1)) 18 (.int .u8 x18)) 43 (.bool x43)) H) (regex_parser_atom_53_M Q E (Tau.upd (Tau.upd (Tau.upd (Tau.upd τ 0 (.pointer x0)) 1 (.int .u8 x1)) 18 (.int .u8 x18)) 43 (.bool x43)) H)) (by kernel_rfl) h)))))))

@[reducible] noncomputable def regex_parser_atom_q13 (Q : QT) (E : ET) : Exit → Tau → Heap → Prop := (xthen (regex_parser_atom_56_M Q E) (regex_parser_atom_q3 Q E))

@[reducible] noncomputable def regex_parser_atom_p45 : Code := sA regex_parser_atom_p15

def regex_parser_atom_58 (Q : QT) (E : ET) (x0 : OA) (x1 : Int) (x18 : Int) (H : Heap) : Prop :=
 regex_parser_atom_56 Q E x0 x1 x18 ((x18 : Int) == 91) H

def regex_parser_atom_58_M (Q : QT) (E : ET) (τ : Tau) (H : Heap) : Prop := mP (τ 0) fun x0 => mI .u8 (τ 1) fun x1 => mI .u8 (τ 18) fun x18 => regex_parser_atom_58 Q E x0 x1 x18 H

theorem regex_parser_atom_59ok (Q : QT) (E : ET) (τ : Tau) (H : Heap) (h : regex_parser_atom_58_M Q E τ H) : vc Pr regex_parser_atom_p45 τ (regex_parser_atom_q13 Q E) E H :=
  vP (i := 0) h (fun x0 h => vI (i := 1) h (fun x1 h => vI (i := 18) h (fun x18 h => (conv (by kernel_rfl) h))))

theorem regex_parser_atom_60ok (Q : QT) (E : ET) (τ : Tau) (H : Heap) (h : regex_parser_atom_58_M Q E τ H) : vc Pr regex_parser_atom_p15 τ (regex_parser_atom_q3 Q E) E H :=
  (conv (B := vc Pr regex_parser_atom_p15 τ (regex_parser_atom_q3 Q E) E H) (by kernel_rfl) (vc_seq (K := (regex_parser_atom_56_M Q E)) (regex_parser_atom_59ok Q E τ H h) (regex_parser_atom_57ok Q E)))

def regex_parser_atom_61 (Q : QT) (E : ET) (x0 : OA) (x1 : Int) (x18 : Int) (x38 : Bool) (H : Heap) : Prop :=
 sel x38
 (regex_parser_atom_7 Q E x0 H)
 (regex_parser_atom_58 Q E x0 x1 x18 H)

def regex_parser_atom_61_M (Q : QT) (E : ET) (τ : Tau) (H : Heap) : Prop := mP (τ 0) fun x0 => mI .u8 (τ 1) fun x1 => mI .u8 (τ 18) fun x18 => mB (τ 38) fun x38 => regex_parser_atom_61 Q E x0 x1 x18 x38 H

theorem regex_parser_atom_62ok (Q : QT) (E : ET) (τ : Tau) (H : Heap) (h : regex_parser_atom_61_M Q E τ H) : vc Pr regex_parser_atom_p13 τ (regex_parser_atom_q3 Q E) E H :=
  vP (i := 0) h (fun x0 h => vI (i := 1) h (fun x1 h => vI (i := 18) h (fun x18 h => vB (i := 38) h (fun x38 h => (conv (B := vc Pr regex_parser_atom_p13 (Tau.upd (Tau.upd (Tau.upd (Tau.upd τ 0 (.pointer x0)) 1 (.int .u8 x1)) 18 (.int .u8 x18)) 38 (.bool x38)) (regex_parser_atom_q3 Q E) E H) (by kernel_rfl) (sel_map (regex_parser_atom_8ok Q E (Tau.upd (Tau.upd (Tau.upd (Tau.upd τ 0 (.pointer x0)) 1 (.int .u8 x1)) 18 (.int .u8 x18)) 38 (.bool x38)) H) (regex_parser_atom_60ok Q E (Tau.upd (Tau.upd (Tau.upd (Tau.upd τ 0 (.pointer x0)) 1 (.int .u8 x1)) 18 (.int .u8 x18)) 38 (.bool x38)) H) (conv (B := sel x38 (regex_parser_atom_7_M Q E (Tau.upd (Tau.upd (Tau.upd (Tau.upd τ 0 (.pointer x0)) 1 (.int .u8 x1)) 18 (.int .u8 x18)) 38 (.bool x38)) H) (regex_parser_atom_58_M Q E (Tau.upd (Tau.upd (Tau.upd (Tau.upd τ 0 (.pointer x0)) 1 (.int .u8 x1)) 18 (.int .u8 x18)) 38 (.bool x38)) H)) (by kernel_rfl) h)))))))

@[reducible] noncomputable def regex_parser_atom_q14 (Q : QT) (E : ET) : Exit → Tau → Heap → Prop := (xthen (regex_parser_atom_61_M Q E) (regex_parser_atom_q3 Q E))

@[reducible] noncomputable def regex_parser_atom_p46 : Code := sA regex_parser_atom_p12

def regex_parser_atom_63 (Q : QT) (E : ET) (x0 : OA) (x1 : Int) (x18 : Int) (H : Heap) : Prop :=
 regex_parser_atom_61 Q E x0 x1 x18 ((x18 : Int) == 36) H

def regex_parser_atom_63_M (Q : QT) (E : ET) (τ : Tau) (H : Heap) : Prop := mP (τ 0) fun x0 => mI .u8 (τ 1) fun x1 => mI .u8 (τ 18) fun x18 => regex_parser_atom_63 Q E x0 x1 x18 H

theorem regex_parser_atom_64ok (Q : QT) (E : ET) (τ : Tau) (H : Heap) (h : regex_parser_atom_63_M Q E τ H) : vc Pr regex_parser_atom_p46 τ (regex_parser_atom_q14 Q E) E H :=
  vP (i := 0) h (fun x0 h => vI (i := 1) h (fun x1 h => vI (i := 18) h (fun x18 h => (conv (by kernel_rfl) h))))

theorem regex_parser_atom_65ok (Q : QT) (E : ET) (τ : Tau) (H : Heap) (h : regex_parser_atom_63_M Q E τ H) : vc Pr regex_parser_atom_p12 τ (regex_parser_atom_q3 Q E) E H :=
  (conv (B := vc Pr regex_parser_atom_p12 τ (regex_parser_atom_q3 Q E) E H) (by kernel_rfl) (vc_seq (K := (regex_parser_atom_61_M Q E)) (regex_parser_atom_64ok Q E τ H h) (regex_parser_atom_62ok Q E)))

def regex_parser_atom_66 (Q : QT) (E : ET) (x0 : OA) (x1 : Int) (x18 : Int) (x33 : Bool) (H : Heap) : Prop :=
 sel x33
 (regex_parser_atom_5 Q E x0 H)
 (regex_parser_atom_63 Q E x0 x1 x18 H)

def regex_parser_atom_66_M (Q : QT) (E : ET) (τ : Tau) (H : Heap) : Prop := mP (τ 0) fun x0 => mI .u8 (τ 1) fun x1 => mI .u8 (τ 18) fun x18 => mB (τ 33) fun x33 => regex_parser_atom_66 Q E x0 x1 x18 x33 H

theorem regex_parser_atom_67ok (Q : QT) (E : ET) (τ : Tau) (H : Heap) (h : regex_parser_atom_66_M Q E τ H) : vc Pr regex_parser_atom_p10 τ (regex_parser_atom_q3 Q E) E H :=
  vP (i := 0) h (fun x0 h => vI (i := 1) h (fun x1 h => vI (i := 18) h (fun x18 h => vB (i := 33) h (fun x33 h => (conv (B := vc Pr regex_parser_atom_p10 (Tau.upd (Tau.upd (Tau.upd (Tau.upd τ 0 (.pointer x0)) 1 (.int .u8 x1)) 18 (.int .u8 x18)) 33 (.bool x33)) (regex_parser_atom_q3 Q E) E H) (by kernel_rfl) (sel_map (regex_parser_atom_6ok Q E (Tau.upd (Tau.upd (Tau.upd (Tau.upd τ 0 (.pointer x0)) 1 (.int .u8 x1)) 18 (.int .u8 x18)) 33 (.bool x33)) H) (regex_parser_atom_65ok Q E (Tau.upd (Tau.upd (Tau.upd (Tau.upd τ 0 (.pointer x0)) 1 (.int .u8 x1)) 18 (.int .u8 x18)) 33 (.bool x33)) H) (conv (B := sel x33 (regex_parser_atom_5_M Q E (Tau.upd (Tau.upd (Tau.upd (Tau.upd τ 0 (.pointer x0)) 1 (.int .u8 x1)) 18 (.int .u8 x18)) 33 (.bool x33)) H) (regex_parser_atom_63_M Q E (Tau.upd (Tau.upd (Tau.upd (Tau.upd τ 0 (.pointer x0)) 1 (.int .u8 x1)) 18 (.int .u8 x18)) 33 (.bool x33)) H)) (by kernel_rfl) h)))))))

@[reducible] noncomputable def regex_parser_atom_q15 (Q : QT) (E : ET) : Exit → Tau → Heap → Prop := (xthen (regex_parser_atom_66_M Q E) (regex_parser_atom_q3 Q E))

@[reducible] noncomputable def regex_parser_atom_p47 : Code := sA regex_parser_atom_p9

def regex_parser_atom_68 (Q : QT) (E : ET) (x0 : OA) (x1 : Int) (x18 : Int) (H : Heap) : Prop :=
 regex_parser_atom_66 Q E x0 x1 x18 ((x18 : Int) == 94) H

def regex_parser_atom_68_M (Q : QT) (E : ET) (τ : Tau) (H : Heap) : Prop := mP (τ 0) fun x0 => mI .u8 (τ 1) fun x1 => mI .u8 (τ 18) fun x18 => regex_parser_atom_68 Q E x0 x1 x18 H

theorem regex_parser_atom_69ok (Q : QT) (E : ET) (τ : Tau) (H : Heap) (h : regex_parser_atom_68_M Q E τ H) : vc Pr regex_parser_atom_p47 τ (regex_parser_atom_q15 Q E) E H :=
  vP (i := 0) h (fun x0 h => vI (i := 1) h (fun x1 h => vI (i := 18) h (fun x18 h => (conv (by kernel_rfl) h))))

theorem regex_parser_atom_70ok (Q : QT) (E : ET) (τ : Tau) (H : Heap) (h : regex_parser_atom_68_M Q E τ H) : vc Pr regex_parser_atom_p9 τ (regex_parser_atom_q3 Q E) E H :=
  (conv (B := vc Pr regex_parser_atom_p9 τ (regex_parser_atom_q3 Q E) E H) (by kernel_rfl) (vc_seq (K := (regex_parser_atom_66_M Q E)) (regex_parser_atom_69ok Q E τ H h) (regex_parser_atom_67ok Q E)))

def regex_parser_atom_71 (Q : QT) (E : ET) (x0 : OA) (x1 : Int) (x18 : Int) (x26 : Bool) (H : Heap) : Prop :=
 sel x26
 (regex_parser_atom_3 Q E x0 H)
 (regex_parser_atom_68 Q E x0 x1 x18 H)

def regex_parser_atom_71_M (Q : QT) (E : ET) (τ : Tau) (H : Heap) : Prop := mP (τ 0) fun x0 => mI .u8 (τ 1) fun x1 => mI .u8 (τ 18) fun x18 => mB (τ 26) fun x26 => regex_parser_atom_71 Q E x0 x1 x18 x26 H

theorem regex_parser_atom_72ok (Q : QT) (E : ET) (τ : Tau) (H : Heap) (h : regex_parser_atom_71_M Q E τ H) : vc Pr regex_parser_atom_p7 τ (regex_parser_atom_q3 Q E) E H :=
  vP (i := 0) h (fun x0 h => vI (i := 1) h (fun x1 h => vI (i := 18) h (fun x18 h => vB (i := 26) h (fun x26 h => (conv (B := vc Pr regex_parser_atom_p7 (Tau.upd (Tau.upd (Tau.upd (Tau.upd τ 0 (.pointer x0)) 1 (.int .u8 x1)) 18 (.int .u8 x18)) 26 (.bool x26)) (regex_parser_atom_q3 Q E) E H) (by kernel_rfl) (sel_map (regex_parser_atom_4ok Q E (Tau.upd (Tau.upd (Tau.upd (Tau.upd τ 0 (.pointer x0)) 1 (.int .u8 x1)) 18 (.int .u8 x18)) 26 (.bool x26)) H) (regex_parser_atom_70ok Q E (Tau.upd (Tau.upd (Tau.upd (Tau.upd τ 0 (.pointer x0)) 1 (.int .u8 x1)) 18 (.int .u8 x18)) 26 (.bool x26)) H) (conv (B := sel x26 (regex_parser_atom_3_M Q E (Tau.upd (Tau.upd (Tau.upd (Tau.upd τ 0 (.pointer x0)) 1 (.int .u8 x1)) 18 (.int .u8 x18)) 26 (.bool x26)) H) (regex_parser_atom_68_M Q E (Tau.upd (Tau.upd (Tau.upd (Tau.upd τ 0 (.pointer x0)) 1 (.int .u8 x1)) 18 (.int .u8 x18)) 26 (.bool x26)) H)) (by kernel_rfl) h)))))))

@[reducible] noncomputable def regex_parser_atom_q16 (Q : QT) (E : ET) : Exit → Tau → Heap → Prop := (xthen (regex_parser_atom_71_M Q E) (regex_parser_atom_q3 Q E))

@[reducible] noncomputable def regex_parser_atom_p48 : Code := sA regex_parser_atom_p6

def regex_parser_atom_73 (Q : QT) (E : ET) (x0 : OA) (x1 : Int) (x18 : Int) (H : Heap) : Prop :=
 regex_parser_atom_71 Q E x0 x1 x18 ((x18 : Int) == 46) H

def regex_parser_atom_73_M (Q : QT) (E : ET) (τ : Tau) (H : Heap) : Prop := mP (τ 0) fun x0 => mI .u8 (τ 1) fun x1 => mI .u8 (τ 18) fun x18 => regex_parser_atom_73 Q E x0 x1 x18 H

theorem regex_parser_atom_74ok (Q : QT) (E : ET) (τ : Tau) (H : Heap) (h : regex_parser_atom_73_M Q E τ H) : vc Pr regex_parser_atom_p48 τ (regex_parser_atom_q16 Q E) E H :=
  vP (i := 0) h (fun x0 h => vI (i := 1) h (fun x1 h => vI (i := 18) h (fun x18 h => (conv (by kernel_rfl) h))))

theorem regex_parser_atom_75ok (Q : QT) (E : ET) (τ : Tau) (H : Heap) (h : regex_parser_atom_73_M Q E τ H) : vc Pr regex_parser_atom_p6 τ (regex_parser_atom_q3 Q E) E H :=
  (conv (B := vc Pr regex_parser_atom_p6 τ (regex_parser_atom_q3 Q E) E H) (by kernel_rfl) (vc_seq (K := (regex_parser_atom_71_M Q E)) (regex_parser_atom_74ok Q E τ H h) (regex_parser_atom_72ok Q E)))

theorem regex_parser_atom_76ok (Q : QT) (E : ET) (τ : Tau) (H : Heap) (h : regex_parser_atom_73_M Q E τ H) : vc Pr regex_parser_atom_p5 τ (regex_parser_atom_q2 Q E) E H :=
  (conv (B := vc Pr regex_parser_atom_p5 τ (regex_parser_atom_q2 Q E) E H) (by kernel_rfl) (regex_parser_atom_75ok Q E τ H h))

@[reducible] noncomputable def regex_parser_atom_q17 (Q : QT) (E : ET) : Exit → Tau → Heap → Prop := (xthen (regex_parser_atom_73_M Q E) (regex_parser_atom_q2 Q E))

@[reducible] noncomputable def regex_parser_atom_p49 : Code := sA regex_parser_atom_p4

def regex_parser_atom_77 (Q : QT) (E : ET) (x0 : OA) (x1 : Int) (H : Heap) : Prop :=
 regex_parser_atom_73 Q E x0 x1 x1 H

def regex_parser_atom_77_M (Q : QT) (E : ET) (τ : Tau) (H : Heap) : Prop := mP (τ 0) fun x0 => mI .u8 (τ 1) fun x1 => regex_parser_atom_77 Q E x0 x1 H

theorem regex_parser_atom_78ok (Q : QT) (E : ET) (τ : Tau) (H : Heap) (h : regex_parser_atom_77_M Q E τ H) : vc Pr regex_parser_atom_p49 τ (regex_parser_atom_q17 Q E) E H :=
  vP (i := 0) h (fun x0 h => vI (i := 1) h (fun x1 h => (conv (by kernel_rfl) h)))

theorem regex_parser_atom_79ok (Q : QT) (E : ET) (τ : Tau) (H : Heap) (h : regex_parser_atom_77_M Q E τ H) : vc Pr regex_parser_atom_p4 τ (regex_parser_atom_q2 Q E) E H :=
  (conv (B := vc Pr regex_parser_atom_p4 τ (regex_parser_atom_q2 Q E) E H) (by kernel_rfl) (vc_seq (K := (regex_parser_atom_73_M Q E)) (regex_parser_atom_78ok Q E τ H h) (regex_parser_atom_76ok Q E)))

theorem regex_parser_atom_80ok (Q : QT) (E : ET) (τ : Tau) (H : Heap) (h : regex_parser_atom_77_M Q E τ H) : vc Pr regex_parser_atom_p2 τ (regex_parser_atom_q1 Q E) E H :=
  (conv (B := vc Pr regex_parser_atom_p2 τ (regex_parser_atom_q1 Q E) E H) (by kernel_rfl) (vc_seq (K := (regex_parser_atom_1_M Q E)) (regex_parser_atom_79ok Q E τ H h) (regex_parser_atom_2ok Q E)))

@[reducible] noncomputable def regex_parser_atom_q18 (Q : QT) (E : ET) : Exit → Tau → Heap → Prop := (xthen (regex_parser_atom_77_M Q E) (regex_parser_atom_q1 Q E))

@[reducible] noncomputable def regex_parser_atom_p50 : Code := sA regex_parser_atom_p1

def regex_parser_atom_81 (Q : QT) (E : ET) (x0 : OA) (x1 : Int) (H : Heap) : Prop :=
 ptr x0 fun q220 =>
 ldI .i64 (Addr.add q220 1) H fun n221 =>
 ptr x0 fun q222 =>
 wr (Addr.add q222 1) [(.int .i64 (IntKind.wrap .i64 (n221 + 1)))] H fun H223 =>
 regex_parser_atom_77 Q E x0 x1 H223

def regex_parser_atom_81_M (Q : QT) (E : ET) (τ : Tau) (H : Heap) : Prop := mP (τ 0) fun x0 => mI .u8 (τ 1) fun x1 => regex_parser_atom_81 Q E x0 x1 H

theorem regex_parser_atom_82ok (Q : QT) (E : ET) (τ : Tau) (H : Heap) (h : regex_parser_atom_81_M Q E τ H) : vc Pr regex_parser_atom_p50 τ (regex_parser_atom_q18 Q E) E H :=
  vP (i := 0) h (fun x0 h => vI (i := 1) h (fun x1 h => (conv (by kernel_rfl) h)))

theorem regex_parser_atom_83ok (Q : QT) (E : ET) (τ : Tau) (H : Heap) (h : regex_parser_atom_81_M Q E τ H) : vc Pr regex_parser_atom_p1 τ (regex_parser_atom_q1 Q E) E H :=
  (conv (B := vc Pr regex_parser_atom_p1 τ (regex_parser_atom_q1 Q E) E H) (by kernel_rfl) (vc_seq (K := (regex_parser_atom_77_M Q E)) (regex_parser_atom_82ok Q E τ H h) (regex_parser_atom_80ok Q E)))

@[reducible] noncomputable def regex_parser_atom_q19 (Q : QT) (E : ET) : Exit → Tau → Heap → Prop := (xthen (regex_parser_atom_81_M Q E) (regex_parser_atom_q1 Q E))

@[reducible] noncomputable def regex_parser_atom_p51 : Code := sA regex_parser_atom_p0

def regex_parser_atom (Q : QT) (E : ET) (a0 : OA) (a1 : Int) (H : Heap) : Prop :=
 regex_parser_atom_81 Q E a0 a1 H

theorem regex_parser_atom_fn (a0 : OA) (a1 : Int) (Q : QT) (E : ET) (H : Heap) (h : regex_parser_atom Q E a0 a1 H)   : Does Pr 106 #[(.pointer a0), (.int .u8 a1)] H Q E :=
  Fn_of_vc (fn := Try.f106) (c := regex_parser_atom_p0) (args := [(.pointer a0), (.int .u8 a1)]) mixed (by kernel_rfl) (by kernel_rfl) (by kernel_rfl) (by kernel_rfl) (by kernel_rfl) ((conv (B := vc Pr regex_parser_atom_p0 (argT [(.pointer a0), (.int .u8 a1)]) (regex_parser_atom_q1 Q E) E H) (by kernel_rfl) (vc_seq (K := (regex_parser_atom_81_M Q E)) (conv (B := vc Pr regex_parser_atom_p51 (argT [(.pointer a0), (.int .u8 a1)]) (regex_parser_atom_q19 Q E) E H) (by kernel_rfl) h) (regex_parser_atom_83ok Q E))))

end Go.Proofs.Ytaffcoiomggpfaa
