import Derived.Test.YtaffcoiomggpfaaVPr
/- Printed by gen.py: the Go functions of package l11 over a heap view, and that the model does so. -/
namespace Go.Proofs.Ytaffcoiomggpfaa
open Go.V
set_option linter.unusedVariables false
set_option maxRecDepth 100000
/-! jobmux/jobmuxlaw11.MatcherDivides -/
@[reducible] noncomputable def up1_q1 (Q : QT) (E : ET) : Exit → Tau → Heap → Prop := (retQ Pr (Try.f15).results.toList Q)

@[reducible] noncomputable def up1_p0 : Code := bodyOf Try.f15

@[reducible] noncomputable def up1_p1 : Code := sB up1_p0

@[reducible] noncomputable def up1_p2 : Code := sB up1_p1

@[reducible] noncomputable def up1_p3 : Code := sB up1_p2

@[reducible] noncomputable def up1_p4 : Code := sB up1_p3

@[reducible] noncomputable def up1_p5 : Code := sB up1_p4

@[reducible] noncomputable def up1_p6 : Code := sB up1_p5

@[reducible] noncomputable def up1_p7 : Code := sB up1_p6

@[reducible] noncomputable def up1_p8 : Code := sB up1_p7

@[reducible] noncomputable def up1_p9 : Code := sB up1_p8

@[reducible] noncomputable def up1_p10 : Code := sB up1_p9

@[reducible] noncomputable def up1_p11 : Code := sB up1_p10

@[reducible] noncomputable def up1_p12 : Code := sB up1_p11

def up1_1 (Q : QT) (E : ET) (x12 : Int) (x13 : Int) (x18 : Int) (H : Heap) : Prop :=
 sel ((x18 : Int) == (IntKind.wrap .i64 (x13 - 1)))
 (Q (.bool ((decide ((x12 : Int) < 0)) == ((x13 : Int) == 0))) H)
 (Q (.bool false) H)

def up1_1_M (Q : QT) (E : ET) (τ : Tau) (H : Heap) : Prop := mI .i64 (τ 12) fun x12 => mI .i64 (τ 13) fun x13 => mI .i64 (τ 18) fun x18 => up1_1 Q E x12 x13 x18 H

theorem up1_2ok (Q : QT) (E : ET) (τ : Tau) (H : Heap) (h : up1_1_M Q E τ H) : vc Pr up1_p12 τ (up1_q1 Q E) E H :=
  vI (i := 12) h (fun x12 h => vI (i := 13) h (fun x13 h => vI (i := 18) h (fun x18 h => (conv (by kernel_rfl) h))))

@[reducible] noncomputable def up1_q2 (Q : QT) (E : ET) : Exit → Tau → Heap → Prop := (xthen (up1_1_M Q E) (up1_q1 Q E))

@[reducible] noncomputable def up1_p13 : Code := sA up1_p11

def up1_3 (Q : QT) (E : ET) (x5 : OA) (l5 : Nat) (c5 : Nat) (x7 : OA) (l7 : Nat) (c7 : Nat) (x12 : Int) (x13 : Int) (x18 : Int) (H : Heap) : Prop :=
 sel (decide ((x13 : Int) < 0))
 (sel ((x12 : Int) == ((l5 : Nat) : Int))
 (Q (.bool ((x18 : Int) == ((l7 : Nat) : Int))) H)
 (Q (.bool false) H))
 (up1_1 Q E x12 x13 x18 H)

def up1_3_M (Q : QT) (E : ET) (τ : Tau) (H : Heap) : Prop := mSl (τ 5) fun x5 l5 c5 => mSl (τ 7) fun x7 l7 c7 => mI .i64 (τ 12) fun x12 => mI .i64 (τ 13) fun x13 => mI .i64 (τ 18) fun x18 => up1_3 Q E x5 l5 c5 x7 l7 c7 x12 x13 x18 H

theorem up1_4ok (Q : QT) (E : ET) (τ : Tau) (H : Heap) (h : up1_3_M Q E τ H) : vc Pr up1_p13 τ (up1_q2 Q E) E H :=
  vSl (i := 5) h (fun x5 l5 c5 h => vSl (i := 7) h (fun x7 l7 c7 h => vI (i := 12) h (fun x12 h => vI (i := 13) h (fun x13 h => vI (i := 18) h (fun x18 h => (conv (by kernel_rfl) h))))))

theorem up1_5ok (Q : QT) (E : ET) (τ : Tau) (H : Heap) (h : up1_3_M Q E τ H) : vc Pr up1_p11 τ (up1_q1 Q E) E H :=
  (conv (B := vc Pr up1_p11 τ (up1_q1 Q E) E H) (by kernel_rfl) (vc_seq (K := (up1_1_M Q E)) (up1_4ok Q E τ H h) (up1_2ok Q E)))

@[reducible] noncomputable def up1_q3 (Q : QT) (E : ET) : Exit → Tau → Heap → Prop := (xthen (up1_3_M Q E) (up1_q1 Q E))

@[reducible] noncomputable def up1_p14 : Code := sA up1_p10

@[reducible] noncomputable def up1_p15 : Code := sB up1_p14

def up1_6 (Q : QT) (E : ET) (x5 : OA) (l5 : Nat) (c5 : Nat) (x7 : OA) (l7 : Nat) (c7 : Nat) (x12 : Int) (x13 : Int) (x18 : Int) (x95 : Bool) (H : Heap) : Prop :=
 sel x95
 (Q (.bool false) H)
 (up1_3 Q E x5 l5 c5 x7 l7 c7 x12 x13 x18 H)

def up1_6_M (Q : QT) (E : ET) (τ : Tau) (H : Heap) : Prop := mSl (τ 5) fun x5 l5 c5 => mSl (τ 7) fun x7 l7 c7 => mI .i64 (τ 12) fun x12 => mI .i64 (τ 13) fun x13 => mI .i64 (τ 18) fun x18 => mB (τ 95) fun x95 => up1_6 Q E x5 l5 c5 x7 l7 c7 x12 x13 x18 x95 H

theorem up1_7ok (Q : QT) (E : ET) (τ : Tau) (H : Heap) (h : up1_6_M Q E τ H) : vc Pr up1_p15 τ (up1_q3 Q E) E H :=
  vSl (i := 5) h (fun x5 l5 c5 h => vSl (i := 7) h (fun x7 l7 c7 h => vI (i := 12) h (fun x12 h => vI (i := 13) h (fun x13 h => vI (i := 18) h (fun x18 h => vB (i := 95) h (fun x95 h => (conv (by kernel_rfl) h)))))))

@[reducible] noncomputable def up1_q4 (Q : QT) (E : ET) : Exit → Tau → Heap → Prop := (xthen (up1_6_M Q E) (up1_q3 Q E))

@[reducible] noncomputable def up1_p16 : Code := sA up1_p14

def up1_8 (Q : QT) (E : ET) (x5 : OA) (l5 : Nat) (c5 : Nat) (x7 : OA) (l7 : Nat) (c7 : Nat) (x12 : Int) (x13 : Int) (x14 : Int) (x16 : Int) (x17 : Int) (x18 : Int) (x19 : Int) (x20 : Int) (H : Heap) : Prop :=
 sel ((x14 : Int) != 0)
 (up1_6 Q E x5 l5 c5 x7 l7 c7 x12 x13 x18 true H)
 (sel ((x17 : Int) != 0)
 (up1_6 Q E x5 l5 c5 x7 l7 c7 x12 x13 x18 true H)
 (sel ((x20 : Int) != 0)
 (up1_6 Q E x5 l5 c5 x7 l7 c7 x12 x13 x18 true H)
 (sel ((x13 : Int) != x16)
 (up1_6 Q E x5 l5 c5 x7 l7 c7 x12 x13 x18 true H)
 (up1_6 Q E x5 l5 c5 x7 l7 c7 x12 x13 x18 ((x13 : Int) != x19) H))))

def up1_8_M (Q : QT) (E : ET) (τ : Tau) (H : Heap) : Prop := mSl (τ 5) fun x5 l5 c5 => mSl (τ 7) fun x7 l7 c7 => mI .i64 (τ 12) fun x12 => mI .i64 (τ 13) fun x13 => mI .i64 (τ 14) fun x14 => mI .i64 (τ 16) fun x16 => mI .i64 (τ 17) fun x17 => mI .i64 (τ 18) fun x18 => mI .i64 (τ 19) fun x19 => mI .i64 (τ 20) fun x20 => up1_8 Q E x5 l5 c5 x7 l7 c7 x12 x13 x14 x16 x17 x18 x19 x20 H

theorem up1_9ok (Q : QT) (E : ET) (τ : Tau) (H : Heap) (h : up1_8_M Q E τ H) : vc Pr up1_p16 τ (up1_q4 Q E) E H :=
  vSl (i := 5) h (fun x5 l5 c5 h => vSl (i := 7) h (fun x7 l7 c7 h => vI (i := 12) h (fun x12 h => vI (i := 13) h (fun x13 h => vI (i := 14) h (fun x14 h => vI (i := 16) h (fun x16 h => vI (i := 17) h (fun x17 h => vI (i := 18) h (fun x18 h => vI (i := 19) h (fun x19 h => vI (i := 20) h (fun x20 h => (conv (by kernel_rfl) h)))))))))))

theorem up1_10ok (Q : QT) (E : ET) (τ : Tau) (H : Heap) (h : up1_8_M Q E τ H) : vc Pr up1_p14 τ (up1_q3 Q E) E H :=
  (conv (B := vc Pr up1_p14 τ (up1_q3 Q E) E H) (by kernel_rfl) (vc_seq (K := (up1_6_M Q E)) (up1_9ok Q E τ H h) (up1_7ok Q E)))

theorem up1_11ok (Q : QT) (E : ET) (τ : Tau) (H : Heap) (h : up1_8_M Q E τ H) : vc Pr up1_p10 τ (up1_q1 Q E) E H :=
  (conv (B := vc Pr up1_p10 τ (up1_q1 Q E) E H) (by kernel_rfl) (vc_seq (K := (up1_3_M Q E)) (up1_10ok Q E τ H h) (up1_5ok Q E)))

@[reducible] noncomputable def up1_q5 (Q : QT) (E : ET) : Exit → Tau → Heap → Prop := (xthen (up1_8_M Q E) (up1_q1 Q E))

@[reducible] noncomputable def up1_p17 : Code := sA up1_p9

def up1_12 (Q : QT) (E : ET) (x5 : OA) (l5 : Nat) (c5 : Nat) (x7 : OA) (l7 : Nat) (c7 : Nat) (x11 : ByteArray) (x12 : Int) (x13 : Int) (x14 : Int) (x16 : Int) (x17 : Int) (H : Heap) : Prop :=
 Does Pr 45 #[(.string x11), (.slice x7 l7 c7)] H (fun v50 H51 =>
 ∃ n52 n53 n54 : Int, v50 = (.tuple #[(.int .i64 n52), (.int .i64 n53), (.int .i64 n54)]) ∧ up1_8 Q E x5 l5 c5 x7 l7 c7 x12 x13 x14 x16 x17 n52 n53 n54 H51) E

def up1_12_M (Q : QT) (E : ET) (τ : Tau) (H : Heap) : Prop := mSl (τ 5) fun x5 l5 c5 => mSl (τ 7) fun x7 l7 c7 => mS (τ 11) fun x11 => mI .i64 (τ 12) fun x12 => mI .i64 (τ 13) fun x13 => mI .i64 (τ 14) fun x14 => mI .i64 (τ 16) fun x16 => mI .i64 (τ 17) fun x17 => up1_12 Q E x5 l5 c5 x7 l7 c7 x11 x12 x13 x14 x16 x17 H

theorem up1_13ok (Q : QT) (E : ET) (τ : Tau) (H : Heap) (h : up1_12_M Q E τ H) : vc Pr up1_p17 τ (up1_q5 Q E) E H :=
  vSl (i := 5) h (fun x5 l5 c5 h => vSl (i := 7) h (fun x7 l7 c7 h => vS (i := 11) h (fun x11 h => vI (i := 12) h (fun x12 h => vI (i := 13) h (fun x13 h => vI (i := 14) h (fun x14 h => vI (i := 16) h (fun x16 h => vI (i := 17) h (fun x17 h => (conv (by kernel_rfl) h)))))))))

theorem up1_14ok (Q : QT) (E : ET) (τ : Tau) (H : Heap) (h : up1_12_M Q E τ H) : vc Pr up1_p9 τ (up1_q1 Q E) E H :=
  (conv (B := vc Pr up1_p9 τ (up1_q1 Q E) E H) (by kernel_rfl) (vc_seq (K := (up1_8_M Q E)) (up1_13ok Q E τ H h) (up1_11ok Q E)))

@[reducible] noncomputable def up1_q6 (Q : QT) (E : ET) : Exit → Tau → Heap → Prop := (xthen (up1_12_M Q E) (up1_q1 Q E))

@[reducible] noncomputable def up1_p18 : Code := sA up1_p8

def up1_15 (Q : QT) (E : ET) (x5 : OA) (l5 : Nat) (c5 : Nat) (x6 : OA) (l6 : Nat) (c6 : Nat) (x7 : OA) (l7 : Nat) (c7 : Nat) (x11 : ByteArray) (x12 : Int) (x13 : Int) (x14 : Int) (H : Heap) : Prop :=
 nw (.cells #[(.slice x6 l6 c6)] 24 (0, 0)) H fun i55 H56 =>
 Does Pr 45 #[(.string x11), (.slice (some ⟨i55, 0, none⟩) 1 1)] H56 (fun v57 H58 =>
 ∃ n59 n60 n61 : Int, v57 = (.tuple #[(.int .i64 n59), (.int .i64 n60), (.int .i64 n61)]) ∧ up1_12 Q E x5 l5 c5 x7 l7 c7 x11 x12 x13 x14 n60 n61 H58) E

def up1_15_M (Q : QT) (E : ET) (τ : Tau) (H : Heap) : Prop := mSl (τ 5) fun x5 l5 c5 => mSl (τ 6) fun x6 l6 c6 => mSl (τ 7) fun x7 l7 c7 => mS (τ 11) fun x11 => mI .i64 (τ 12) fun x12 => mI .i64 (τ 13) fun x13 => mI .i64 (τ 14) fun x14 => up1_15 Q E x5 l5 c5 x6 l6 c6 x7 l7 c7 x11 x12 x13 x14 H

theorem up1_16ok (Q : QT) (E : ET) (τ : Tau) (H : Heap) (h : up1_15_M Q E τ H) : vc Pr up1_p18 τ (up1_q6 Q E) E H :=
  vSl (i := 5) h (fun x5 l5 c5 h => vSl (i := 6) h (fun x6 l6 c6 h => vSl (i := 7) h (fun x7 l7 c7 h => vS (i := 11) h (fun x11 h => vI (i := 12) h (fun x12 h => vI (i := 13) h (fun x13 h => vI (i := 14) h (fun x14 h => (conv (by kernel_rfl) h))))))))

theorem up1_17ok (Q : QT) (E : ET) (τ : Tau) (H : Heap) (h : up1_15_M Q E τ H) : vc Pr up1_p8 τ (up1_q1 Q E) E H :=
  (conv (B := vc Pr up1_p8 τ (up1_q1 Q E) E H) (by kernel_rfl) (vc_seq (K := (up1_12_M Q E)) (up1_16ok Q E τ H h) (up1_14ok Q E)))

@[reducible] noncomputable def up1_q7 (Q : QT) (E : ET) : Exit → Tau → Heap → Prop := (xthen (up1_15_M Q E) (up1_q1 Q E))

@[reducible] noncomputable def up1_p19 : Code := sA up1_p7

def up1_18 (Q : QT) (E : ET) (x5 : OA) (l5 : Nat) (c5 : Nat) (x6 : OA) (l6 : Nat) (c6 : Nat) (x7 : OA) (l7 : Nat) (c7 : Nat) (x11 : ByteArray) (H : Heap) : Prop :=
 Does Pr 45 #[(.string x11), (.slice x5 l5 c5)] H (fun v62 H63 =>
 ∃ n64 n65 n66 : Int, v62 = (.tuple #[(.int .i64 n64), (.int .i64 n65), (.int .i64 n66)]) ∧ up1_15 Q E x5 l5 c5 x6 l6 c6 x7 l7 c7 x11 n64 n65 n66 H63) E

def up1_18_M (Q : QT) (E : ET) (τ : Tau) (H : Heap) : Prop := mSl (τ 5) fun x5 l5 c5 => mSl (τ 6) fun x6 l6 c6 => mSl (τ 7) fun x7 l7 c7 => mS (τ 11) fun x11 => up1_18 Q E x5 l5 c5 x6 l6 c6 x7 l7 c7 x11 H

theorem up1_19ok (Q : QT) (E : ET) (τ : Tau) (H : Heap) (h : up1_18_M Q E τ H) : vc Pr up1_p19 τ (up1_q7 Q E) E H :=
  vSl (i := 5) h (fun x5 l5 c5 h => vSl (i := 6) h (fun x6 l6 c6 h => vSl (i := 7) h (fun x7 l7 c7 h => vS (i := 11) h (fun x11 h => (conv (by kernel_rfl) h)))))

theorem up1_20ok (Q : QT) (E : ET) (τ : Tau) (H : Heap) (h : up1_18_M Q E τ H) : vc Pr up1_p7 τ (up1_q1 Q E) E H :=
  (conv (B := vc Pr up1_p7 τ (up1_q1 Q E) E H) (by kernel_rfl) (vc_seq (K := (up1_15_M Q E)) (up1_19ok Q E τ H h) (up1_17ok Q E)))

@[reducible] noncomputable def up1_q8 (Q : QT) (E : ET) : Exit → Tau → Heap → Prop := (xthen (up1_18_M Q E) (up1_q1 Q E))

@[reducible] noncomputable def up1_p20 : Code := sA up1_p6

def up1_21 (Q : QT) (E : ET) (x1 : Int) (x5 : OA) (l5 : Nat) (c5 : Nat) (x6 : OA) (l6 : Nat) (c6 : Nat) (x7 : OA) (l7 : Nat) (c7 : Nat) (H : Heap) : Prop :=
 Does Pr 21 #[] H (fun v67 H68 =>
 ∃ (p69 : OA) (l70 c71 : Nat), v67 = (.slice p69 l70 c71) ∧ Does Pr 22 #[(.int .i64 x1), (.int .i64 7)] H68 (fun v72 H73 =>
 ∃ n74 : Int, v72 = (.int .i64 n74) ∧ (0 ≤ (n74 : Int) ∧ (n74 : Int) < ((l70 : Nat) : Int)) ∧ ptr p69 fun q75 =>
 ldS (Addr.add q75 ((n74 : Int).toNat * 1)) H73 fun s76 =>
 up1_18 Q E x5 l5 c5 x6 l6 c6 x7 l7 c7 s76 H73) E) E

def up1_21_M (Q : QT) (E : ET) (τ : Tau) (H : Heap) : Prop := mI .i64 (τ 1) fun x1 => mSl (τ 5) fun x5 l5 c5 => mSl (τ 6) fun x6 l6 c6 => mSl (τ 7) fun x7 l7 c7 => up1_21 Q E x1 x5 l5 c5 x6 l6 c6 x7 l7 c7 H

theorem up1_22ok (Q : QT) (E : ET) (τ : Tau) (H : Heap) (h : up1_21_M Q E τ H) : vc Pr up1_p20 τ (up1_q8 Q E) E H :=
  vI (i := 1) h (fun x1 h => vSl (i := 5) h (fun x5 l5 c5 h => vSl (i := 6) h (fun x6 l6 c6 h => vSl (i := 7) h (fun x7 l7 c7 h => (conv (by kernel_rfl) h)))))

theorem up1_23ok (Q : QT) (E : ET) (τ : Tau) (H : Heap) (h : up1_21_M Q E τ H) : vc Pr up1_p6 τ (up1_q1 Q E) E H :=
  (conv (B := vc Pr up1_p6 τ (up1_q1 Q E) E H) (by kernel_rfl) (vc_seq (K := (up1_18_M Q E)) (up1_22ok Q E τ H h) (up1_20ok Q E)))

@[reducible] noncomputable def up1_q9 (Q : QT) (E : ET) : Exit → Tau → Heap → Prop := (xthen (up1_21_M Q E) (up1_q1 Q E))

@[reducible] noncomputable def up1_p21 : Code := sA up1_p5

@[reducible] noncomputable def up1_p22 : Code := sB up1_p21

@[reducible] noncomputable def up1_q10 (Q : QT) (E : ET) : Exit → Tau → Heap → Prop := (xblock 0 (up1_q9 Q E))

@[reducible] noncomputable def up1_p23 : Code := sI up1_p22

@[reducible] noncomputable def up1_q11 (nx77 : Option Addr → Nat → Nat → Option Addr → Nat → Nat → Int → HP) (Q : QT) (E : ET) : Exit → Tau → Heap → Prop := (xthen (fun τ H => mSl (τ 6) fun x6' l6' c6' => mSl (τ 7) fun x7' l7' c7' => mI .i64 (τ 27) fun x27' => nx77 x6' l6' c6' x7' l7' c7' x27' H) (up1_q10 Q E))

@[reducible] noncomputable def up1_p24 : Code := sI up1_p23

@[reducible] noncomputable def up1_p25 : Code := sB up1_p24

@[reducible] noncomputable def up1_p26 : Code := sB up1_p25

@[reducible] noncomputable def up1_p27 : Code := sB up1_p26

def up1_24 (nx77 : Option Addr → Nat → Nat → Option Addr → Nat → Nat → Int → HP) (Q : QT) (E : ET) (x1 : Int) (x5 : OA) (l5 : Nat) (c5 : Nat) (x6 : OA) (l6 : Nat) (c6 : Nat) (x7 : OA) (l7 : Nat) (c7 : Nat) (x25 : OA) (l25 : Nat) (c25 : Nat) (x26 : Int) (x27 : Int) (H : Heap) : Prop :=
 nx77 x6 l6 c6 x7 l7 c7 (IntKind.wrap .i64 (x27 + 1)) H

def up1_24_M (nx77 : Option Addr → Nat → Nat → Option Addr → Nat → Nat → Int → HP) (Q : QT) (E : ET) (τ : Tau) (H : Heap) : Prop := mI .i64 (τ 1) fun x1 => mSl (τ 5) fun x5 l5 c5 => mSl (τ 6) fun x6 l6 c6 => mSl (τ 7) fun x7 l7 c7 => mSl (τ 25) fun x25 l25 c25 => mI .i64 (τ 26) fun x26 => mI .i64 (τ 27) fun x27 => up1_24 nx77 Q E x1 x5 l5 c5 x6 l6 c6 x7 l7 c7 x25 l25 c25 x26 x27 H

theorem up1_25ok (nx77 : Option Addr → Nat → Nat → Option Addr → Nat → Nat → Int → HP) (Q : QT) (E : ET) (τ : Tau) (H : Heap) (h : up1_24_M nx77 Q E τ H) : vc Pr up1_p27 τ (up1_q11 nx77 Q E) E H :=
  vI (i := 1) h (fun x1 h => vSl (i := 5) h (fun x5 l5 c5 h => vSl (i := 6) h (fun x6 l6 c6 h => vSl (i := 7) h (fun x7 l7 c7 h => vSl (i := 25) h (fun x25 l25 c25 h => vI (i := 26) h (fun x26 h => vI (i := 27) h (fun x27 h => (conv (by kernel_rfl) h))))))))

@[reducible] noncomputable def up1_q12 (nx77 : Option Addr → Nat → Nat → Option Addr → Nat → Nat → Int → HP) (Q : QT) (E : ET) : Exit → Tau → Heap → Prop := (xthen (up1_24_M nx77 Q E) (up1_q11 nx77 Q E))

@[reducible] noncomputable def up1_p28 : Code := sA up1_p26

@[reducible] noncomputable def up1_q13 (nx77 : Option Addr → Nat → Nat → Option Addr → Nat → Nat → Int → HP) (Q : QT) (E : ET) : Exit → Tau → Heap → Prop := (xblock 1 (up1_q12 nx77 Q E))

@[reducible] noncomputable def up1_p29 : Code := sI up1_p28

@[reducible] noncomputable def up1_p30 : Code := sB up1_p29

@[reducible] noncomputable def up1_p31 : Code := sB up1_p30

@[reducible] noncomputable def up1_p32 : Code := sB up1_p31

@[reducible] noncomputable def up1_q14 (nx77 : Option Addr → Nat → Nat → Option Addr → Nat → Nat → Int → HP) (Q : QT) (E : ET) : Exit → Tau → Heap → Prop := (xblock 2 (up1_q13 nx77 Q E))

@[reducible] noncomputable def up1_p33 : Code := sI up1_p32

@[reducible] noncomputable def up1_q15 (nx77 : Option Addr → Nat → Nat → Option Addr → Nat → Nat → Int → HP) (nx100 : Option Addr → Nat → Nat → Int → HP) (Q : QT) (E : ET) : Exit → Tau → Heap → Prop := (xthen (fun τ H => mSl (τ 7) fun x7' l7' c7' => mI .i64 (τ 36) fun x36' => nx100 x7' l7' c7' x36' H) (up1_q14 nx77 Q E))

@[reducible] noncomputable def up1_p34 : Code := sI up1_p33

@[reducible] noncomputable def up1_p35 : Code := sB up1_p34

@[reducible] noncomputable def up1_p36 : Code := sB up1_p35

def up1_26 (nx77 : Option Addr → Nat → Nat → Option Addr → Nat → Nat → Int → HP) (nx100 : Option Addr → Nat → Nat → Int → HP) (Q : QT) (E : ET) (x1 : Int) (x5 : OA) (l5 : Nat) (c5 : Nat) (x6 : OA) (l6 : Nat) (c6 : Nat) (x7 : OA) (l7 : Nat) (c7 : Nat) (x9 : OA) (l9 : Nat) (c9 : Nat) (x25 : OA) (l25 : Nat) (c25 : Nat) (x26 : Int) (x27 : Int) (x35 : Int) (x36 : Int) (H : Heap) : Prop :=
 (0 ≤ ((IntKind.wrap .i64 (x36 + 1)) : Int) ∧ ((IntKind.wrap .i64 (x36 + 1)) : Int) ≤ ((c9 : Nat) : Int)) ∧ (0 ≤ (x36 : Int) ∧ (x36 : Int) ≤ ((((IntKind.wrap .i64 (x36 + 1)) : Int).toNat : Nat) : Int)) ∧ nw (.cells #[(.slice (if c9 = (x36 : Int).toNat then x9 else Option.map (fun a => Addr.add a ((x36 : Int).toNat * 1)) x9) (((IntKind.wrap .i64 (x36 + 1)) : Int).toNat - (x36 : Int).toNat) (c9 - (x36 : Int).toNat))] 24 (0, 0)) H fun i101 H102 =>
 app Pr 64 x7 l7 c7 (.slice (some ⟨i101, 0, none⟩) 1 1) H102 fun p103 l104 c105 H106 =>
 nx100 p103 l104 c105 (IntKind.wrap .i64 (x36 + 1)) H106

def up1_26_M (nx77 : Option Addr → Nat → Nat → Option Addr → Nat → Nat → Int → HP) (nx100 : Option Addr → Nat → Nat → Int → HP) (Q : QT) (E : ET) (τ : Tau) (H : Heap) : Prop := mI .i64 (τ 1) fun x1 => mSl (τ 5) fun x5 l5 c5 => mSl (τ 6) fun x6 l6 c6 => mSl (τ 7) fun x7 l7 c7 => mSl (τ 9) fun x9 l9 c9 => mSl (τ 25) fun x25 l25 c25 => mI .i64 (τ 26) fun x26 => mI .i64 (τ 27) fun x27 => mI .i64 (τ 35) fun x35 => mI .i64 (τ 36) fun x36 => up1_26 nx77 nx100 Q E x1 x5 l5 c5 x6 l6 c6 x7 l7 c7 x9 l9 c9 x25 l25 c25 x26 x27 x35 x36 H

theorem up1_27ok (nx77 : Option Addr → Nat → Nat → Option Addr → Nat → Nat → Int → HP) (nx100 : Option Addr → Nat → Nat → Int → HP) (Q : QT) (E : ET) (τ : Tau) (H : Heap) (h : up1_26_M nx77 nx100 Q E τ H) : vc Pr up1_p36 τ (up1_q15 nx77 nx100 Q E) E H :=
  vI (i := 1) h (fun x1 h => vSl (i := 5) h (fun x5 l5 c5 h => vSl (i := 6) h (fun x6 l6 c6 h => vSl (i := 7) h (fun x7 l7 c7 h => vSl (i := 9) h (fun x9 l9 c9 h => vSl (i := 25) h (fun x25 l25 c25 h => vI (i := 26) h (fun x26 h => vI (i := 27) h (fun x27 h => vI (i := 35) h (fun x35 h => vI (i := 36) h (fun x36 h => (conv (by kernel_rfl) h)))))))))))

@[reducible] noncomputable def up1_q16 (nx77 : Option Addr → Nat → Nat → Option Addr → Nat → Nat → Int → HP) (nx100 : Option Addr → Nat → Nat → Int → HP) (Q : QT) (E : ET) : Exit → Tau → Heap → Prop := (xthen (up1_26_M nx77 nx100 Q E) (up1_q15 nx77 nx100 Q E))

@[reducible] noncomputable def up1_p37 : Code := sA up1_p35

def up1_28 (nx77 : Option Addr → Nat → Nat → Option Addr → Nat → Nat → Int → HP) (nx100 : Option Addr → Nat → Nat → Int → HP) (Q : QT) (E : ET) (x1 : Int) (x5 : OA) (l5 : Nat) (c5 : Nat) (x6 : OA) (l6 : Nat) (c6 : Nat) (x7 : OA) (l7 : Nat) (c7 : Nat) (x9 : OA) (l9 : Nat) (c9 : Nat) (x25 : OA) (l25 : Nat) (c25 : Nat) (x26 : Int) (x27 : Int) (x35 : Int) (x36 : Int) (x37 : Bool) (H : Heap) : Prop :=
 sel x37
 (up1_26 nx77 nx100 Q E x1 x5 l5 c5 x6 l6 c6 x7 l7 c7 x9 l9 c9 x25 l25 c25 x26 x27 x35 x36 H)
 (up1_24 nx77 Q E x1 x5 l5 c5 x6 l6 c6 x7 l7 c7 x25 l25 c25 x26 x27 H)

def up1_28_M (nx77 : Option Addr → Nat → Nat → Option Addr → Nat → Nat → Int → HP) (nx100 : Option Addr → Nat → Nat → Int → HP) (Q : QT) (E : ET) (τ : Tau) (H : Heap) : Prop := mI .i64 (τ 1) fun x1 => mSl (τ 5) fun x5 l5 c5 => mSl (τ 6) fun x6 l6 c6 => mSl (τ 7) fun x7 l7 c7 => mSl (τ 9) fun x9 l9 c9 => mSl (τ 25) fun x25 l25 c25 => mI .i64 (τ 26) fun x26 => mI .i64 (τ 27) fun x27 => mI .i64 (τ 35) fun x35 => mI .i64 (τ 36) fun x36 => mB (τ 37) fun x37 => up1_28 nx77 nx100 Q E x1 x5 l5 c5 x6 l6 c6 x7 l7 c7 x9 l9 c9 x25 l25 c25 x26 x27 x35 x36 x37 H

theorem up1_29ok (nx77 : Option Addr → Nat → Nat → Option Addr → Nat → Nat → Int → HP) (nx100 : Option Addr → Nat → Nat → Int → HP) (Q : QT) (E : ET) (τ : Tau) (H : Heap) (h : up1_28_M nx77 nx100 Q E τ H) : vc Pr up1_p37 τ (up1_q16 nx77 nx100 Q E) E H :=
  vI (i := 1) h (fun x1 h => vSl (i := 5) h (fun x5 l5 c5 h => vSl (i := 6) h (fun x6 l6 c6 h => vSl (i := 7) h (fun x7 l7 c7 h => vSl (i := 9) h (fun x9 l9 c9 h => vSl (i := 25) h (fun x25 l25 c25 h => vI (i := 26) h (fun x26 h => vI (i := 27) h (fun x27 h => vI (i := 35) h (fun x35 h => vI (i := 36) h (fun x36 h => vB (i := 37) h (fun x37 h => (conv (by kernel_rfl) h))))))))))))

theorem up1_30ok (nx77 : Option Addr → Nat → Nat → Option Addr → Nat → Nat → Int → HP) (nx100 : Option Addr → Nat → Nat → Int → HP) (Q : QT) (E : ET) (τ : Tau) (H : Heap) (h : up1_28_M nx77 nx100 Q E τ H) : vc Pr up1_p35 τ (up1_q15 nx77 nx100 Q E) E H :=
  (conv (B := vc Pr up1_p35 τ (up1_q15 nx77 nx100 Q E) E H) (by kernel_rfl) (vc_seq (K := (up1_26_M nx77 nx100 Q E)) (up1_29ok nx77 nx100 Q E τ H h) (up1_27ok nx77 nx100 Q E)))

@[reducible] noncomputable def up1_q17 (nx77 : Option Addr → Nat → Nat → Option Addr → Nat → Nat → Int → HP) (nx100 : Option Addr → Nat → Nat → Int → HP) (Q : QT) (E : ET) : Exit → Tau → Heap → Prop := (xthen (up1_28_M nx77 nx100 Q E) (up1_q15 nx77 nx100 Q E))

@[reducible] noncomputable def up1_p38 : Code := sA up1_p34

def up1_31 (nx77 : Option Addr → Nat → Nat → Option Addr → Nat → Nat → Int → HP) (nx100 : Option Addr → Nat → Nat → Int → HP) (Q : QT) (E : ET) (x1 : Int) (x5 : OA) (l5 : Nat) (c5 : Nat) (x6 : OA) (l6 : Nat) (c6 : Nat) (x7 : OA) (l7 : Nat) (c7 : Nat) (x9 : OA) (l9 : Nat) (c9 : Nat) (x25 : OA) (l25 : Nat) (c25 : Nat) (x26 : Int) (x27 : Int) (x35 : Int) (x36 : Int) (H : Heap) : Prop :=
 up1_28 nx77 nx100 Q E x1 x5 l5 c5 x6 l6 c6 x7 l7 c7 x9 l9 c9 x25 l25 c25 x26 x27 x35 x36 (decide ((x36 : Int) < x35)) H

def up1_31_M (nx77 : Option Addr → Nat → Nat → Option Addr → Nat → Nat → Int → HP) (nx100 : Option Addr → Nat → Nat → Int → HP) (Q : QT) (E : ET) (τ : Tau) (H : Heap) : Prop := mI .i64 (τ 1) fun x1 => mSl (τ 5) fun x5 l5 c5 => mSl (τ 6) fun x6 l6 c6 => mSl (τ 7) fun x7 l7 c7 => mSl (τ 9) fun x9 l9 c9 => mSl (τ 25) fun x25 l25 c25 => mI .i64 (τ 26) fun x26 => mI .i64 (τ 27) fun x27 => mI .i64 (τ 35) fun x35 => mI .i64 (τ 36) fun x36 => up1_31 nx77 nx100 Q E x1 x5 l5 c5 x6 l6 c6 x7 l7 c7 x9 l9 c9 x25 l25 c25 x26 x27 x35 x36 H

theorem up1_32ok (nx77 : Option Addr → Nat → Nat → Option Addr → Nat → Nat → Int → HP) (nx100 : Option Addr → Nat → Nat → Int → HP) (Q : QT) (E : ET) (τ : Tau) (H : Heap) (h : up1_31_M nx77 nx100 Q E τ H) : vc Pr up1_p38 τ (up1_q17 nx77 nx100 Q E) E H :=
  vI (i := 1) h (fun x1 h => vSl (i := 5) h (fun x5 l5 c5 h => vSl (i := 6) h (fun x6 l6 c6 h => vSl (i := 7) h (fun x7 l7 c7 h => vSl (i := 9) h (fun x9 l9 c9 h => vSl (i := 25) h (fun x25 l25 c25 h => vI (i := 26) h (fun x26 h => vI (i := 27) h (fun x27 h => vI (i := 35) h (fun x35 h => vI (i := 36) h (fun x36 h => (conv (by kernel_rfl) h)))))))))))

theorem up1_33ok (nx77 : Option Addr → Nat → Nat → Option Addr → Nat → Nat → Int → HP) (nx100 : Option Addr → Nat → Nat → Int → HP) (Q : QT) (E : ET) (τ : Tau) (H : Heap) (h : up1_31_M nx77 nx100 Q E τ H) : vc Pr up1_p34 τ (up1_q15 nx77 nx100 Q E) E H :=
  (conv (B := vc Pr up1_p34 τ (up1_q15 nx77 nx100 Q E) E H) (by kernel_rfl) (vc_seq (K := (up1_28_M nx77 nx100 Q E)) (up1_32ok nx77 nx100 Q E τ H h) (up1_30ok nx77 nx100 Q E)))

def up1_34 (nx77 : Option Addr → Nat → Nat → Option Addr → Nat → Nat → Int → HP) (Q : QT) (E : ET) (x1 : Int) (x5 : OA) (l5 : Nat) (c5 : Nat) (x6 : OA) (l6 : Nat) (c6 : Nat) (x9 : OA) (l9 : Nat) (c9 : Nat) (x25 : OA) (l25 : Nat) (c25 : Nat) (x26 : Int) (x27 : Int) (x35 : Int) (x7 : OA) (l7 : Nat) (c7 : Nat) (x36 : Int) (H : Heap) : Prop :=
 ∃ (I : Option Addr → Nat → Nat → Int → HP) (μ : Option Addr → Nat → Nat → Int → Heap → Nat), I x7 l7 c7 x36 H ∧ ∀ (x7 : OA) (l7 : Nat) (c7 : Nat) (x36 : Int) (H : Heap), I x7 l7 c7 x36 H →
 up1_31 nx77 (fun x7' l7' c7' x36' H1 => I x7' l7' c7' x36' H1 ∧ μ x7' l7' c7' x36' H1 < μ x7 l7 c7 x36 H) Q E x1 x5 l5 c5 x6 l6 c6 x7 l7 c7 x9 l9 c9 x25 l25 c25 x26 x27 x35 x36 H

def up1_34_M (nx77 : Option Addr → Nat → Nat → Option Addr → Nat → Nat → Int → HP) (Q : QT) (E : ET) (τ : Tau) (H : Heap) : Prop := mI .i64 (τ 1) fun x1 => mSl (τ 5) fun x5 l5 c5 => mSl (τ 6) fun x6 l6 c6 => mSl (τ 9) fun x9 l9 c9 => mSl (τ 25) fun x25 l25 c25 => mI .i64 (τ 26) fun x26 => mI .i64 (τ 27) fun x27 => mI .i64 (τ 35) fun x35 => mSl (τ 7) fun x7 l7 c7 => mI .i64 (τ 36) fun x36 => up1_34 nx77 Q E x1 x5 l5 c5 x6 l6 c6 x9 l9 c9 x25 l25 c25 x26 x27 x35 x7 l7 c7 x36 H

theorem up1_35ok (nx77 : Option Addr → Nat → Nat → Option Addr → Nat → Nat → Int → HP) (Q : QT) (E : ET) (τ : Tau) (H : Heap) (h : up1_34_M nx77 Q E τ H) : vc Pr up1_p33 τ (up1_q14 nx77 Q E) E H :=
  vI (i := 1) h (fun x1 h => vSl (i := 5) h (fun x5 l5 c5 h => vSl (i := 6) h (fun x6 l6 c6 h => vSl (i := 9) h (fun x9 l9 c9 h => vSl (i := 25) h (fun x25 l25 c25 h => vI (i := 26) h (fun x26 h => vI (i := 27) h (fun x27 h => vI (i := 35) h (fun x35 h => vSl (i := 7) h (fun x7 l7 c7 h => vI (i := 36) h (fun x36 h => match h with | ⟨I, μ, h0, hr⟩ => (conv (B := vc Pr up1_p33 (Tau.upd (Tau.upd (Tau.upd (Tau.upd (Tau.upd (Tau.upd (Tau.upd (Tau.upd (Tau.upd (Tau.upd τ 1 (.int .i64 x1)) 5 (.slice x5 l5 c5)) 6 (.slice x6 l6 c6)) 9 (.slice x9 l9 c9)) 25 (.slice x25 l25 c25)) 26 (.int .i64 x26)) 27 (.int .i64 x27)) 35 (.int .i64 x35)) 7 (.slice x7 l7 c7)) 36 (.int .i64 x36)) (up1_q14 nx77 Q E) E H) (by kernel_rfl) (vc_loop (c := sI up1_p33) (τ := (Tau.upd (Tau.upd (Tau.upd (Tau.upd (Tau.upd (Tau.upd (Tau.upd (Tau.upd (Tau.upd (Tau.upd τ 1 (.int .i64 x1)) 5 (.slice x5 l5 c5)) 6 (.slice x6 l6 c6)) 9 (.slice x9 l9 c9)) 25 (.slice x25 l25 c25)) 26 (.int .i64 x26)) 27 (.int .i64 x27)) 35 (.int .i64 x35)) 7 (.slice x7 l7 c7)) 36 (.int .i64 x36))) [1, 5, 6, 9, 25, 26, 27, 35] (fun τ H => mSl (τ 7) fun x7' l7' c7' => mI .i64 (τ 36) fun x36' => I x7' l7' c7' x36' H) (fun τ H => μ (gL1 (τ 7)) (gL2 (τ 7)) (gL3 (τ 7)) (gI (τ 36)) H) (by kernel_rfl) h0 (fun τ1 H1 hf hI => fix_elim (τ := τ1) (i := 1) (v := (.int .i64 x1)) (G := fun τ => vc Pr (sI up1_p33) τ (xthen (fun τ2 H2 => (mSl (τ2 7) fun x7' l7' c7' => mI .i64 (τ2 36) fun x36' => I x7' l7' c7' x36' H2) ∧ μ (gL1 (τ2 7)) (gL2 (τ2 7)) (gL3 (τ2 7)) (gI (τ2 36)) H2 < μ (gL1 (τ 7)) (gL2 (τ 7)) (gL3 (τ 7)) (gI (τ 36)) H1) (up1_q14 nx77 Q E)) E H1) (hf 1 (by simp)) (fix_elim (τ := (Tau.upd τ1 1 (.int .i64 x1))) (i := 5) (v := (.slice x5 l5 c5)) (G := fun τ => vc Pr (sI up1_p33) τ (xthen (fun τ2 H2 => (mSl (τ2 7) fun x7' l7' c7' => mI .i64 (τ2 36) fun x36' => I x7' l7' c7' x36' H2) ∧ μ (gL1 (τ2 7)) (gL2 (τ2 7)) (gL3 (τ2 7)) (gI (τ2 36)) H2 < μ (gL1 (τ 7)) (gL2 (τ 7)) (gL3 (τ 7)) (gI (τ 36)) H1) (up1_q14 nx77 Q E)) E H1) (hf 5 (by simp)) (fix_elim (τ := (Tau.upd (Tau.upd τ1 1 (.int .i64 x1)) 5 (.slice x5 l5 c5))) (i := 6) (v := (.slice x6 l6 c6)) (G := fun τ => vc Pr (sI up1_p33) τ (xthen (fun τ2 H2 => (mSl (τ2 7) fun x7' l7' c7' => mI .i64 (τ2 36) fun x36' => I x7' l7' c7' x36' H2) ∧ μ (gL1 (τ2 7)) (gL2 (τ2 7)) (gL3 (τ2 7)) (gI (τ2 36)) H2 < μ (gL1 (τ 7)) (gL2 (τ 7)) (gL3 (τ 7)) (gI (τ 36)) H1) (up1_q14 nx77 Q E)) E H1) (hf 6 (by simp)) (fix_elim (τ := (Tau.upd (Tau.upd (Tau.upd τ1 1 (.int .i64 x1)) 5 (.slice x5 l5 c5)) 6 (.slice x6 l6 c6))) (i := 9) (v := (.slice x9 l9 c9)) (G := fun τ => vc Pr (sI up1_p33) τ (xthen (fun τ2 H2 => (mSl (τ2 7) fun x7' l7' c7' => mI .i64 (τ2 36) fun x36' => I x7' l7' c7' x36' H2) ∧ μ (gL1 (τ2 7)) (gL2 (τ2 7)) (gL3 (τ2 7)) (gI (τ2 36)) H2 < μ (gL1 (τ 7)) (gL2 (τ 7)) (gL3 (τ 7)) (gI (τ 36)) H1) (up1_q14 nx77 Q E)) E H1) (hf 9 (by simp)) (fix_elim (τ := (Tau.upd (Tau.upd (Tau.upd (Tau.upd τ1 1 (.int .i64 x1)) 5 (.slice x5 l5 c5)) 6 (.slice x6 l6 c6)) 9 (.slice x9 l9 c9))) (i := 25) (v := (.slice x25 l25 c25)) (G := fun τ => vc Pr (sI up1_p33) τ (xthen (fun τ2 H2 => (mSl (τ2 7) fun x7' l7' c7' => mI .i64 (τ2 36) fun x36' => I x7' l7' c7' x36' H2) ∧ μ (gL1 (τ2 7)) (gL2 (τ2 7)) (gL3 (τ2 7)) (gI (τ2 36)) H2 < μ (gL1 (τ 7)) (gL2 (τ 7)) (gL3 (τ 7)) (gI (τ 36)) H1) (up1_q14 nx77 Q E)) E H1) (hf 25 (by simp)) (fix_elim (τ := (Tau.upd (Tau.upd (Tau.upd (Tau.upd (Tau.upd τ1 1 (.int .i64 x1)) 5 (.slice x5 l5 c5)) 6 (.slice x6 l6 c6)) 9 (.slice x9 l9 c9)) 25 (.slice x25 l25 c25))) (i := 26) (v := (.int .i64 x26)) (G := fun τ => vc Pr (sI up1_p33) τ (xthen (fun τ2 H2 => (mSl (τ2 7) fun x7' l7' c7' => mI .i64 (τ2 36) fun x36' => I x7' l7' c7' x36' H2) ∧ μ (gL1 (τ2 7)) (gL2 (τ2 7)) (gL3 (τ2 7)) (gI (τ2 36)) H2 < μ (gL1 (τ 7)) (gL2 (τ 7)) (gL3 (τ 7)) (gI (τ 36)) H1) (up1_q14 nx77 Q E)) E H1) (hf 26 (by simp)) (fix_elim (τ := (Tau.upd (Tau.upd (Tau.upd (Tau.upd (Tau.upd (Tau.upd τ1 1 (.int .i64 x1)) 5 (.slice x5 l5 c5)) 6 (.slice x6 l6 c6)) 9 (.slice x9 l9 c9)) 25 (.slice x25 l25 c25)) 26 (.int .i64 x26))) (i := 27) (v := (.int .i64 x27)) (G := fun τ => vc Pr (sI up1_p33) τ (xthen (fun τ2 H2 => (mSl (τ2 7) fun x7' l7' c7' => mI .i64 (τ2 36) fun x36' => I x7' l7' c7' x36' H2) ∧ μ (gL1 (τ2 7)) (gL2 (τ2 7)) (gL3 (τ2 7)) (gI (τ2 36)) H2 < μ (gL1 (τ 7)) (gL2 (τ 7)) (gL3 (τ 7)) (gI (τ 36)) H1) (up1_q14 nx77 Q E)) E H1) (hf 27 (by simp)) (fix_elim (τ := (Tau.upd (Tau.upd (Tau.upd (Tau.upd (Tau.upd (Tau.upd (Tau.upd τ1 1 (.int .i64 x1)) 5 (.slice x5 l5 c5)) 6 (.slice x6 l6 c6)) 9 (.slice x9 l9 c9)) 25 (.slice x25 l25 c25)) 26 (.int .i64 x26)) 27 (.int .i64 x27))) (i := 35) (v := (.int .i64 x35)) (G := fun τ => vc Pr (sI up1_p33) τ (xthen (fun τ2 H2 => (mSl (τ2 7) fun x7' l7' c7' => mI .i64 (τ2 36) fun x36' => I x7' l7' c7' x36' H2) ∧ μ (gL1 (τ2 7)) (gL2 (τ2 7)) (gL3 (τ2 7)) (gI (τ2 36)) H2 < μ (gL1 (τ 7)) (gL2 (τ 7)) (gL3 (τ 7)) (gI (τ 36)) H1) (up1_q14 nx77 Q E)) E H1) (hf 35 (by simp)) (mSl_elim (i := 7) (G := fun τ => vc Pr (sI up1_p33) τ (xthen (fun τ2 H2 => (mSl (τ2 7) fun x7' l7' c7' => mI .i64 (τ2 36) fun x36' => I x7' l7' c7' x36' H2) ∧ μ (gL1 (τ2 7)) (gL2 (τ2 7)) (gL3 (τ2 7)) (gI (τ2 36)) H2 < μ (gL1 (τ 7)) (gL2 (τ 7)) (gL3 (τ 7)) (gI (τ 36)) H1) (up1_q14 nx77 Q E)) E H1) hI (fun x7r l7r c7r h => mI_elim (i := 36) (G := fun τ => vc Pr (sI up1_p33) τ (xthen (fun τ2 H2 => (mSl (τ2 7) fun x7' l7' c7' => mI .i64 (τ2 36) fun x36' => I x7' l7' c7' x36' H2) ∧ μ (gL1 (τ2 7)) (gL2 (τ2 7)) (gL3 (τ2 7)) (gI (τ2 36)) H2 < μ (gL1 (τ 7)) (gL2 (τ 7)) (gL3 (τ 7)) (gI (τ 36)) H1) (up1_q14 nx77 Q E)) E H1) h (fun x36r h => (conv (B := vc Pr (sI up1_p33) (Tau.upd (Tau.upd (Tau.upd (Tau.upd (Tau.upd (Tau.upd (Tau.upd (Tau.upd (Tau.upd (Tau.upd τ1 1 (.int .i64 x1)) 5 (.slice x5 l5 c5)) 6 (.slice x6 l6 c6)) 9 (.slice x9 l9 c9)) 25 (.slice x25 l25 c25)) 26 (.int .i64 x26)) 27 (.int .i64 x27)) 35 (.int .i64 x35)) 7 (.slice x7r l7r c7r)) 36 (.int .i64 x36r)) (xthen (fun τ2 H2 => (mSl (τ2 7) fun x7' l7' c7' => mI .i64 (τ2 36) fun x36' => I x7' l7' c7' x36' H2) ∧ μ (gL1 (τ2 7)) (gL2 (τ2 7)) (gL3 (τ2 7)) (gI (τ2 36)) H2 < μ (gL1 ((Tau.upd (Tau.upd (Tau.upd (Tau.upd (Tau.upd (Tau.upd (Tau.upd (Tau.upd (Tau.upd (Tau.upd τ1 1 (.int .i64 x1)) 5 (.slice x5 l5 c5)) 6 (.slice x6 l6 c6)) 9 (.slice x9 l9 c9)) 25 (.slice x25 l25 c25)) 26 (.int .i64 x26)) 27 (.int .i64 x27)) 35 (.int .i64 x35)) 7 (.slice x7r l7r c7r)) 36 (.int .i64 x36r)) 7)) (gL2 ((Tau.upd (Tau.upd (Tau.upd (Tau.upd (Tau.upd (Tau.upd (Tau.upd (Tau.upd (Tau.upd (Tau.upd τ1 1 (.int .i64 x1)) 5 (.slice x5 l5 c5)) 6 (.slice x6 l6 c6)) 9 (.slice x9 l9 c9)) 25 (.slice x25 l25 c25)) 26 (.int .i64 x26)) 27 (.int .i64 x27)) 35 (.int .i64 x35)) 7 (.slice x7r l7r c7r)) 36 (.int .i64 x36r)) 7)) (gL3 ((Tau.upd (Tau.upd (Tau.upd (Tau.upd (Tau.upd (Tau.upd (Tau.upd (Tau.upd (Tau.upd (Tau.upd τ1 1 (.int .i64 x1)) 5 (.slice x5 l5 c5)) 6 (.slice x6 l6 c6)) 9 (.slice x9 l9 c9)) 25 (.slice x25 l25 c25)) 26 (.int .i64 x26)) 27 (.int .i64 x27)) 35 (.int .i64 x35)) 7 (.slice x7r l7r c7r)) 36 (.int .i64 x36r)) 7)) (gI ((Tau.upd (Tau.upd (Tau.upd (Tau.upd (Tau.upd (Tau.upd (Tau.upd (Tau.upd (Tau.upd (Tau.upd τ1 1 (.int .i64 x1)) 5 (.slice x5 l5 c5)) 6 (.slice x6 l6 c6)) 9 (.slice x9 l9 c9)) 25 (.slice x25 l25 c25)) 26 (.int .i64 x26)) 27 (.int .i64 x27)) 35 (.int .i64 x35)) 7 (.slice x7r l7r c7r)) 36 (.int .i64 x36r)) 36)) H1) (up1_q14 nx77 Q E)) E H1) (by kernel_rfl) (vc_xthen (up1_33ok nx77 (fun x7' l7' c7' x36' H2 => I x7' l7' c7' x36' H2 ∧ μ x7' l7' c7' x36' H2 < μ x7r l7r c7r x36r H1) Q E (Tau.upd (Tau.upd (Tau.upd (Tau.upd (Tau.upd (Tau.upd (Tau.upd (Tau.upd (Tau.upd (Tau.upd τ1 1 (.int .i64 x1)) 5 (.slice x5 l5 c5)) 6 (.slice x6 l6 c6)) 9 (.slice x9 l9 c9)) 25 (.slice x25 l25 c25)) 26 (.int .i64 x26)) 27 (.int .i64 x27)) 35 (.int .i64 x35)) 7 (.slice x7r l7r c7r)) 36 (.int .i64 x36r)) H1 (conv (B := up1_31_M nx77 (fun x7' l7' c7' x36' H2 => I x7' l7' c7' x36' H2 ∧ μ x7' l7' c7' x36' H2 < μ x7r l7r c7r x36r H1) Q E (Tau.upd (Tau.upd (Tau.upd (Tau.upd (Tau.upd (Tau.upd (Tau.upd (Tau.upd (Tau.upd (Tau.upd τ1 1 (.int .i64 x1)) 5 (.slice x5 l5 c5)) 6 (.slice x6 l6 c6)) 9 (.slice x9 l9 c9)) 25 (.slice x25 l25 c25)) 26 (.int .i64 x26)) 27 (.int .i64 x27)) 35 (.int .i64 x35)) 7 (.slice x7r l7r c7r)) 36 (.int .i64 x36r)) H1) (by kernel_rfl) (hr x7r l7r c7r x36r H1 h))) (fun τ2 H2 hk => mSl_elim (i := 7) (G := fun τ => (mSl (τ 7) fun x7' l7' c7' => mI .i64 (τ 36) fun x36' => I x7' l7' c7' x36' H2) ∧ μ (gL1 (τ 7)) (gL2 (τ 7)) (gL3 (τ 7)) (gI (τ 36)) H2 < μ x7r l7r c7r x36r H1) hk (fun x7' l7' c7' h => mI_elim (i := 36) (G := fun τ => (mSl (τ 7) fun x7' l7' c7' => mI .i64 (τ 36) fun x36' => I x7' l7' c7' x36' H2) ∧ μ (gL1 (τ 7)) (gL2 (τ 7)) (gL3 (τ 7)) (gI (τ 36)) H2 < μ x7r l7r c7r x36r H1) h (fun x36' h => h))))))))))))))))))))))))))))

theorem up1_36ok (nx77 : Option Addr → Nat → Nat → Option Addr → Nat → Nat → Int → HP) (Q : QT) (E : ET) (τ : Tau) (H : Heap) (h : up1_34_M nx77 Q E τ H) : vc Pr up1_p32 τ (up1_q13 nx77 Q E) E H :=
  (conv (B := vc Pr up1_p32 τ (up1_q13 nx77 Q E) E H) (by kernel_rfl) (up1_35ok nx77 Q E τ H h))

@[reducible] noncomputable def up1_q18 (nx77 : Option Addr → Nat → Nat → Option Addr → Nat → Nat → Int → HP) (Q : QT) (E : ET) : Exit → Tau → Heap → Prop := (xthen (up1_34_M nx77 Q E) (up1_q13 nx77 Q E))

@[reducible] noncomputable def up1_p39 : Code := sA up1_p31

def up1_37 (nx77 : Option Addr → Nat → Nat → Option Addr → Nat → Nat → Int → HP) (Q : QT) (E : ET) (x1 : Int) (x5 : OA) (l5 : Nat) (c5 : Nat) (x6 : OA) (l6 : Nat) (c6 : Nat) (x7 : OA) (l7 : Nat) (c7 : Nat) (x9 : OA) (l9 : Nat) (c9 : Nat) (x25 : OA) (l25 : Nat) (c25 : Nat) (x26 : Int) (x27 : Int) (H : Heap) : Prop :=
 up1_34 nx77 Q E x1 x5 l5 c5 x6 l6 c6 x9 l9 c9 x25 l25 c25 x26 x27 ((l9 : Nat) : Int) x7 l7 c7 0 H

def up1_37_M (nx77 : Option Addr → Nat → Nat → Option Addr → Nat → Nat → Int → HP) (Q : QT) (E : ET) (τ : Tau) (H : Heap) : Prop := mI .i64 (τ 1) fun x1 => mSl (τ 5) fun x5 l5 c5 => mSl (τ 6) fun x6 l6 c6 => mSl (τ 7) fun x7 l7 c7 => mSl (τ 9) fun x9 l9 c9 => mSl (τ 25) fun x25 l25 c25 => mI .i64 (τ 26) fun x26 => mI .i64 (τ 27) fun x27 => up1_37 nx77 Q E x1 x5 l5 c5 x6 l6 c6 x7 l7 c7 x9 l9 c9 x25 l25 c25 x26 x27 H

theorem up1_38ok (nx77 : Option Addr → Nat → Nat → Option Addr → Nat → Nat → Int → HP) (Q : QT) (E : ET) (τ : Tau) (H : Heap) (h : up1_37_M nx77 Q E τ H) : vc Pr up1_p39 τ (up1_q18 nx77 Q E) E H :=
  vI (i := 1) h (fun x1 h => vSl (i := 5) h (fun x5 l5 c5 h => vSl (i := 6) h (fun x6 l6 c6 h => vSl (i := 7) h (fun x7 l7 c7 h => vSl (i := 9) h (fun x9 l9 c9 h => vSl (i := 25) h (fun x25 l25 c25 h => vI (i := 26) h (fun x26 h => vI (i := 27) h (fun x27 h => (conv (by kernel_rfl) h)))))))))

theorem up1_39ok (nx77 : Option Addr → Nat → Nat → Option Addr → Nat → Nat → Int → HP) (Q : QT) (E : ET) (τ : Tau) (H : Heap) (h : up1_37_M nx77 Q E τ H) : vc Pr up1_p31 τ (up1_q13 nx77 Q E) E H :=
  (conv (B := vc Pr up1_p31 τ (up1_q13 nx77 Q E) E H) (by kernel_rfl) (vc_seq (K := (up1_34_M nx77 Q E)) (up1_38ok nx77 Q E τ H h) (up1_36ok nx77 Q E)))

@[reducible] noncomputable def up1_q19 (nx77 : Option Addr → Nat → Nat → Option Addr → Nat → Nat → Int → HP) (Q : QT) (E : ET) : Exit → Tau → Heap → Prop := (xthen (up1_37_M nx77 Q E) (up1_q13 nx77 Q E))

@[reducible] noncomputable def up1_p40 : Code := sA up1_p30

def up1_40 (nx77 : Option Addr → Nat → Nat → Option Addr → Nat → Nat → Int → HP) (Q : QT) (E : ET) (x1 : Int) (x5 : OA) (l5 : Nat) (c5 : Nat) (x6 : OA) (l6 : Nat) (c6 : Nat) (x7 : OA) (l7 : Nat) (c7 : Nat) (x9 : OA) (l9 : Nat) (c9 : Nat) (x25 : OA) (l25 : Nat) (c25 : Nat) (x26 : Int) (x27 : Int) (H : Heap) : Prop :=
 app Pr 24 x6 l6 c6 (.slice x9 l9 c9) H fun p107 l108 c109 H110 =>
 up1_37 nx77 Q E x1 x5 l5 c5 p107 l108 c109 x7 l7 c7 x9 l9 c9 x25 l25 c25 x26 x27 H110

def up1_40_M (nx77 : Option Addr → Nat → Nat → Option Addr → Nat → Nat → Int → HP) (Q : QT) (E : ET) (τ : Tau) (H : Heap) : Prop := mI .i64 (τ 1) fun x1 => mSl (τ 5) fun x5 l5 c5 => mSl (τ 6) fun x6 l6 c6 => mSl (τ 7) fun x7 l7 c7 => mSl (τ 9) fun x9 l9 c9 => mSl (τ 25) fun x25 l25 c25 => mI .i64 (τ 26) fun x26 => mI .i64 (τ 27) fun x27 => up1_40 nx77 Q E x1 x5 l5 c5 x6 l6 c6 x7 l7 c7 x9 l9 c9 x25 l25 c25 x26 x27 H

theorem up1_41ok (nx77 : Option Addr → Nat → Nat → Option Addr → Nat → Nat → Int → HP) (Q : QT) (E : ET) (τ : Tau) (H : Heap) (h : up1_40_M nx77 Q E τ H) : vc Pr up1_p40 τ (up1_q19 nx77 Q E) E H :=
  vI (i := 1) h (fun x1 h => vSl (i := 5) h (fun x5 l5 c5 h => vSl (i := 6) h (fun x6 l6 c6 h => vSl (i := 7) h (fun x7 l7 c7 h => vSl (i := 9) h (fun x9 l9 c9 h => vSl (i := 25) h (fun x25 l25 c25 h => vI (i := 26) h (fun x26 h => vI (i := 27) h (fun x27 h => (conv (by kernel_rfl) h)))))))))

theorem up1_42ok (nx77 : Option Addr → Nat → Nat → Option Addr → Nat → Nat → Int → HP) (Q : QT) (E : ET) (τ : Tau) (H : Heap) (h : up1_40_M nx77 Q E τ H) : vc Pr up1_p30 τ (up1_q13 nx77 Q E) E H :=
  (conv (B := vc Pr up1_p30 τ (up1_q13 nx77 Q E) E H) (by kernel_rfl) (vc_seq (K := (up1_37_M nx77 Q E)) (up1_41ok nx77 Q E τ H h) (up1_39ok nx77 Q E)))

@[reducible] noncomputable def up1_q20 (nx77 : Option Addr → Nat → Nat → Option Addr → Nat → Nat → Int → HP) (Q : QT) (E : ET) : Exit → Tau → Heap → Prop := (xthen (up1_40_M nx77 Q E) (up1_q13 nx77 Q E))

@[reducible] noncomputable def up1_p41 : Code := sA up1_p29

def up1_43 (nx77 : Option Addr → Nat → Nat → Option Addr → Nat → Nat → Int → HP) (Q : QT) (E : ET) (x1 : Int) (x5 : OA) (l5 : Nat) (c5 : Nat) (x6 : OA) (l6 : Nat) (c6 : Nat) (x7 : OA) (l7 : Nat) (c7 : Nat) (x25 : OA) (l25 : Nat) (c25 : Nat) (x26 : Int) (x27 : Int) (H : Heap) : Prop :=
 (0 ≤ (x27 : Int) ∧ (x27 : Int) < ((l25 : Nat) : Int)) ∧ ptr x25 fun q111 =>
 ldSl (Addr.add q111 ((x27 : Int).toNat * 1)) H fun p112 l113 c114 =>
 up1_40 nx77 Q E x1 x5 l5 c5 x6 l6 c6 x7 l7 c7 p112 l113 c114 x25 l25 c25 x26 x27 H

def up1_43_M (nx77 : Option Addr → Nat → Nat → Option Addr → Nat → Nat → Int → HP) (Q : QT) (E : ET) (τ : Tau) (H : Heap) : Prop := mI .i64 (τ 1) fun x1 => mSl (τ 5) fun x5 l5 c5 => mSl (τ 6) fun x6 l6 c6 => mSl (τ 7) fun x7 l7 c7 => mSl (τ 25) fun x25 l25 c25 => mI .i64 (τ 26) fun x26 => mI .i64 (τ 27) fun x27 => up1_43 nx77 Q E x1 x5 l5 c5 x6 l6 c6 x7 l7 c7 x25 l25 c25 x26 x27 H

theorem up1_44ok (nx77 : Option Addr → Nat → Nat → Option Addr → Nat → Nat → Int → HP) (Q : QT) (E : ET) (τ : Tau) (H : Heap) (h : up1_43_M nx77 Q E τ H) : vc Pr up1_p41 τ (up1_q20 nx77 Q E) E H :=
  vI (i := 1) h (fun x1 h => vSl (i := 5) h (fun x5 l5 c5 h => vSl (i := 6) h (fun x6 l6 c6 h => vSl (i := 7) h (fun x7 l7 c7 h => vSl (i := 25) h (fun x25 l25 c25 h => vI (i := 26) h (fun x26 h => vI (i := 27) h (fun x27 h => (conv (by kernel_rfl) h))))))))

theorem up1_45ok (nx77 : Option Addr → Nat → Nat → Option Addr → Nat → Nat → Int → HP) (Q : QT) (E : ET) (τ : Tau) (H : Heap) (h : up1_43_M nx77 Q E τ H) : vc Pr up1_p29 τ (up1_q13 nx77 Q E) E H :=
  (conv (B := vc Pr up1_p29 τ (up1_q13 nx77 Q E) E H) (by kernel_rfl) (vc_seq (K := (up1_40_M nx77 Q E)) (up1_44ok nx77 Q E τ H h) (up1_42ok nx77 Q E)))

theorem up1_46ok (nx77 : Option Addr → Nat → Nat → Option Addr → Nat → Nat → Int → HP) (Q : QT) (E : ET) (τ : Tau) (H : Heap) (h : up1_43_M nx77 Q E τ H) : vc Pr up1_p28 τ (up1_q12 nx77 Q E) E H :=
  (conv (B := vc Pr up1_p28 τ (up1_q12 nx77 Q E) E H) (by kernel_rfl) (up1_45ok nx77 Q E τ H h))

theorem up1_47ok (nx77 : Option Addr → Nat → Nat → Option Addr → Nat → Nat → Int → HP) (Q : QT) (E : ET) (τ : Tau) (H : Heap) (h : up1_43_M nx77 Q E τ H) : vc Pr up1_p26 τ (up1_q11 nx77 Q E) E H :=
  (conv (B := vc Pr up1_p26 τ (up1_q11 nx77 Q E) E H) (by kernel_rfl) (vc_seq (K := (up1_24_M nx77 Q E)) (up1_46ok nx77 Q E τ H h) (up1_25ok nx77 Q E)))

@[reducible] noncomputable def up1_q21 (nx77 : Option Addr → Nat → Nat → Option Addr → Nat → Nat → Int → HP) (Q : QT) (E : ET) : Exit → Tau → Heap → Prop := (xthen (up1_43_M nx77 Q E) (up1_q11 nx77 Q E))

@[reducible] noncomputable def up1_p42 : Code := sA up1_p25

def up1_48 (nx77 : Option Addr → Nat → Nat → Option Addr → Nat → Nat → Int → HP) (Q : QT) (E : ET) (x1 : Int) (x5 : OA) (l5 : Nat) (c5 : Nat) (x6 : OA) (l6 : Nat) (c6 : Nat) (x7 : OA) (l7 : Nat) (c7 : Nat) (x25 : OA) (l25 : Nat) (c25 : Nat) (x26 : Int) (x27 : Int) (x28 : Bool) (H : Heap) : Prop :=
 sel x28
 (up1_43 nx77 Q E x1 x5 l5 c5 x6 l6 c6 x7 l7 c7 x25 l25 c25 x26 x27 H)
 (up1_21 Q E x1 x5 l5 c5 x6 l6 c6 x7 l7 c7 H)

def up1_48_M (nx77 : Option Addr → Nat → Nat → Option Addr → Nat → Nat → Int → HP) (Q : QT) (E : ET) (τ : Tau) (H : Heap) : Prop := mI .i64 (τ 1) fun x1 => mSl (τ 5) fun x5 l5 c5 => mSl (τ 6) fun x6 l6 c6 => mSl (τ 7) fun x7 l7 c7 => mSl (τ 25) fun x25 l25 c25 => mI .i64 (τ 26) fun x26 => mI .i64 (τ 27) fun x27 => mB (τ 28) fun x28 => up1_48 nx77 Q E x1 x5 l5 c5 x6 l6 c6 x7 l7 c7 x25 l25 c25 x26 x27 x28 H

theorem up1_49ok (nx77 : Option Addr → Nat → Nat → Option Addr → Nat → Nat → Int → HP) (Q : QT) (E : ET) (τ : Tau) (H : Heap) (h : up1_48_M nx77 Q E τ H) : vc Pr up1_p42 τ (up1_q21 nx77 Q E) E H :=
  vI (i := 1) h (fun x1 h => vSl (i := 5) h (fun x5 l5 c5 h => vSl (i := 6) h (fun x6 l6 c6 h => vSl (i := 7) h (fun x7 l7 c7 h => vSl (i := 25) h (fun x25 l25 c25 h => vI (i := 26) h (fun x26 h => vI (i := 27) h (fun x27 h => vB (i := 28) h (fun x28 h => (conv (by kernel_rfl) h)))))))))

theorem up1_50ok (nx77 : Option Addr → Nat → Nat → Option Addr → Nat → Nat → Int → HP) (Q : QT) (E : ET) (τ : Tau) (H : Heap) (h : up1_48_M nx77 Q E τ H) : vc Pr up1_p25 τ (up1_q11 nx77 Q E) E H :=
  (conv (B := vc Pr up1_p25 τ (up1_q11 nx77 Q E) E H) (by kernel_rfl) (vc_seq (K := (up1_43_M nx77 Q E)) (up1_49ok nx77 Q E τ H h) (up1_47ok nx77 Q E)))

@[reducible] noncomputable def up1_q22 (nx77 : Option Addr → Nat → Nat → Option Addr → Nat → Nat → Int → HP) (Q : QT) (E : ET) : Exit → Tau → Heap → Prop := (xthen (up1_48_M nx77 Q E) (up1_q11 nx77 Q E))

@[reducible] noncomputable def up1_p43 : Code := sA up1_p24

def up1_51 (nx77 : Option Addr → Nat → Nat → Option Addr → Nat → Nat → Int → HP) (Q : QT) (E : ET) (x1 : Int) (x5 : OA) (l5 : Nat) (c5 : Nat) (x6 : OA) (l6 : Nat) (c6 : Nat) (x7 : OA) (l7 : Nat) (c7 : Nat) (x25 : OA) (l25 : Nat) (c25 : Nat) (x26 : Int) (x27 : Int) (H : Heap) : Prop :=
 up1_48 nx77 Q E x1 x5 l5 c5 x6 l6 c6 x7 l7 c7 x25 l25 c25 x26 x27 (decide ((x27 : Int) < x26)) H

def up1_51_M (nx77 : Option Addr → Nat → Nat → Option Addr → Nat → Nat → Int → HP) (Q : QT) (E : ET) (τ : Tau) (H : Heap) : Prop := mI .i64 (τ 1) fun x1 => mSl (τ 5) fun x5 l5 c5 => mSl (τ 6) fun x6 l6 c6 => mSl (τ 7) fun x7 l7 c7 => mSl (τ 25) fun x25 l25 c25 => mI .i64 (τ 26) fun x26 => mI .i64 (τ 27) fun x27 => up1_51 nx77 Q E x1 x5 l5 c5 x6 l6 c6 x7 l7 c7 x25 l25 c25 x26 x27 H

theorem up1_52ok (nx77 : Option Addr → Nat → Nat → Option Addr → Nat → Nat → Int → HP) (Q : QT) (E : ET) (τ : Tau) (H : Heap) (h : up1_51_M nx77 Q E τ H) : vc Pr up1_p43 τ (up1_q22 nx77 Q E) E H :=
  vI (i := 1) h (fun x1 h => vSl (i := 5) h (fun x5 l5 c5 h => vSl (i := 6) h (fun x6 l6 c6 h => vSl (i := 7) h (fun x7 l7 c7 h => vSl (i := 25) h (fun x25 l25 c25 h => vI (i := 26) h (fun x26 h => vI (i := 27) h (fun x27 h => (conv (by kernel_rfl) h))))))))

theorem up1_53ok (nx77 : Option Addr → Nat → Nat → Option Addr → Nat → Nat → Int → HP) (Q : QT) (E : ET) (τ : Tau) (H : Heap) (h : up1_51_M nx77 Q E τ H) : vc Pr up1_p24 τ (up1_q11 nx77 Q E) E H :=
  (conv (B := vc Pr up1_p24 τ (up1_q11 nx77 Q E) E H) (by kernel_rfl) (vc_seq (K := (up1_48_M nx77 Q E)) (up1_52ok nx77 Q E τ H h) (up1_50ok nx77 Q E)))

def up1_54 (Q : QT) (E : ET) (x1 : Int) (x5 : OA) (l5 : Nat) (c5 : Nat) (x25 : OA) (l25 : Nat) (c25 : Nat) (x26 : Int) (x6 : OA) (l6 : Nat) (c6 : Nat) (x7 : OA) (l7 : Nat) (c7 : Nat) (x27 : Int) (H : Heap) : Prop :=
 ∃ (I : Option Addr → Nat → Nat → Option Addr → Nat → Nat → Int → HP) (μ : Option Addr → Nat → Nat → Option Addr → Nat → Nat → Int → Heap → Nat), I x6 l6 c6 x7 l7 c7 x27 H ∧ ∀ (x6 : OA) (l6 : Nat) (c6 : Nat) (x7 : OA) (l7 : Nat) (c7 : Nat) (x27 : Int) (H : Heap), I x6 l6 c6 x7 l7 c7 x27 H →
 up1_51 (fun x6' l6' c6' x7' l7' c7' x27' H1 => I x6' l6' c6' x7' l7' c7' x27' H1 ∧ μ x6' l6' c6' x7' l7' c7' x27' H1 < μ x6 l6 c6 x7 l7 c7 x27 H) Q E x1 x5 l5 c5 x6 l6 c6 x7 l7 c7 x25 l25 c25 x26 x27 H

def up1_54_M (Q : QT) (E : ET) (τ : Tau) (H : Heap) : Prop := mI .i64 (τ 1) fun x1 => mSl (τ 5) fun x5 l5 c5 => mSl (τ 25) fun x25 l25 c25 => mI .i64 (τ 26) fun x26 => mSl (τ 6) fun x6 l6 c6 => mSl (τ 7) fun x7 l7 c7 => mI .i64 (τ 27) fun x27 => up1_54 Q E x1 x5 l5 c5 x25 l25 c25 x26 x6 l6 c6 x7 l7 c7 x27 H

theorem up1_55ok (Q : QT) (E : ET) (τ : Tau) (H : Heap) (h : up1_54_M Q E τ H) : vc Pr up1_p23 τ (up1_q10 Q E) E H :=
  vI (i := 1) h (fun x1 h => vSl (i := 5) h (fun x5 l5 c5 h => vSl (i := 25) h (fun x25 l25 c25 h => vI (i := 26) h (fun x26 h => vSl (i := 6) h (fun x6 l6 c6 h => vSl (i := 7) h (fun x7 l7 c7 h => vI (i := 27) h (fun x27 h => match h with | ⟨I, μ, h0, hr⟩ => (conv (B := vc Pr up1_p23 (Tau.upd (Tau.upd (Tau.upd (Tau.upd (Tau.upd (Tau.upd (Tau.upd τ 1 (.int .i64 x1)) 5 (.slice x5 l5 c5)) 25 (.slice x25 l25 c25)) 26 (.int .i64 x26)) 6 (.slice x6 l6 c6)) 7 (.slice x7 l7 c7)) 27 (.int .i64 x27)) (up1_q10 Q E) E H) (by kernel_rfl) (vc_loop (c := sI up1_p23) (τ := (Tau.upd (Tau.upd (Tau.upd (Tau.upd (Tau.upd (Tau.upd (Tau.upd τ 1 (.int .i64 x1)) 5 (.slice x5 l5 c5)) 25 (.slice x25 l25 c25)) 26 (.int .i64 x26)) 6 (.slice x6 l6 c6)) 7 (.slice x7 l7 c7)) 27 (.int .i64 x27))) [1, 5, 25, 26] (fun τ H => mSl (τ 6) fun x6' l6' c6' => mSl (τ 7) fun x7' l7' c7' => mI .i64 (τ 27) fun x27' => I x6' l6' c6' x7' l7' c7' x27' H) (fun τ H => μ (gL1 (τ 6)) (gL2 (τ 6)) (gL3 (τ 6)) (gL1 (τ 7)) (gL2 (τ 7)) (gL3 (τ 7)) (gI (τ 27)) H) (by kernel_rfl) h0 (fun τ1 H1 hf hI => fix_elim (τ := τ1) (i := 1) (v := (.int .i64 x1)) (G := fun τ => vc Pr (sI up1_p23) τ (xthen (fun τ2 H2 => (mSl (τ2 6) fun x6' l6' c6' => mSl (τ2 7) fun x7' l7' c7' => mI .i64 (τ2 27) fun x27' => I x6' l6' c6' x7' l7' c7' x27' H2) ∧ μ (gL1 (τ2 6)) (gL2 (τ2 6)) (gL3 (τ2 6)) (gL1 (τ2 7)) (gL2 (τ2 7)) (gL3 (τ2 7)) (gI (τ2 27)) H2 < μ (gL1 (τ 6)) (gL2 (τ 6)) (gL3 (τ 6)) (gL1 (τ 7)) (gL2 (τ 7)) (gL3 (τ 7)) (gI (τ 27)) H1) (up1_q10 Q E)) E H1) (hf 1 (by simp)) (fix_elim (τ := (Tau.upd τ1 1 (.int .i64 x1))) (i := 5) (v := (.slice x5 l5 c5)) (G := fun τ => vc Pr (sI up1_p23) τ (xthen (fun τ2 H2 => (mSl (τ2 6) fun x6' l6' c6' => mSl (τ2 7) fun x7' l7' c7' => mI .i64 (τ2 27) fun x27' => I x6' l6' c6' x7' l7' c7' x27' H2) ∧ μ (gL1 (τ2 6)) (gL2 (τ2 6)) (gL3 (τ2 6)) (gL1 (τ2 7)) (gL2 (τ2 7)) (gL3 (τ2 7)) (gI (τ2 27)) H2 < μ (gL1 (τ 6)) (gL2 (τ 6)) (gL3 (τ 6)) (gL1 (τ 7)) (gL2 (τ 7)) (gL3 (τ 7)) (gI (τ 27)) H1) (up1_q10 Q E)) E H1) (hf 5 (by simp)) (fix_elim (τ := (Tau.upd (Tau.upd τ1 1 (.int .i64 x1)) 5 (.slice x5 l5 c5))) (i := 25) (v := (.slice x25 l25 c25)) (G := fun τ => vc Pr (sI up1_p23) τ (xthen (fun τ2 H2 => (mSl (τ2 6) fun x6' l6' c6' => mSl (τ2 7) fun x7' l7' c7' => mI .i64 (τ2 27) fun x27' => I x6' l6' c6' x7' l7' c7' x27' H2) ∧ μ (gL1 (τ2 6)) (gL2 (τ2 6)) (gL3 (τ2 6)) (gL1 (τ2 7)) (gL2 (τ2 7)) (gL3 (τ2 7)) (gI (τ2 27)) H2 < μ (gL1 (τ 6)) (gL2 (τ 6)) (gL3 (τ 6)) (gL1 (τ 7)) (gL2 (τ 7)) (gL3 (τ 7)) (gI (τ 27)) H1) (up1_q10 Q E)) E H1) (hf 25 (by simp)) (fix_elim (τ := (Tau.upd (Tau.upd (Tau.upd τ1 1 (.int .i64 x1)) 5 (.slice x5 l5 c5)) 25 (.slice x25 l25 c25))) (i := 26) (v := (.int .i64 x26)) (G := fun τ => vc Pr (sI up1_p23) τ (xthen (fun τ2 H2 => (mSl (τ2 6) fun x6' l6' c6' => mSl (τ2 7) fun x7' l7' c7' => mI .i64 (τ2 27) fun x27' => I x6' l6' c6' x7' l7' c7' x27' H2) ∧ μ (gL1 (τ2 6)) (gL2 (τ2 6)) (gL3 (τ2 6)) (gL1 (τ2 7)) (gL2 (τ2 7)) (gL3 (τ2 7)) (gI (τ2 27)) H2 < μ (gL1 (τ 6)) (gL2 (τ 6)) (gL3 (τ 6)) (gL1 (τ 7)) (gL2 (τ 7)) (gL3 (τ 7)) (gI (τ 27)) H1) (up1_q10 Q E)) E H1) (hf 26 (by simp)) (mSl_elim (i := 6) (G := fun τ => vc Pr (sI up1_p23) τ (xthen (fun τ2 H2 => (mSl (τ2 6) fun x6' l6' c6' => mSl (τ2 7) fun x7' l7' c7' => mI .i64 (τ2 27) fun x27' => I x6' l6' c6' x7' l7' c7' x27' H2) ∧ μ (gL1 (τ2 6)) (gL2 (τ2 6)) (gL3 (τ2 6)) (gL1 (τ2 7)) (gL2 (τ2 7)) (gL3 (τ2 7)) (gI (τ2 27)) H2 < μ (gL1 (τ 6)) (gL2 (τ 6)) (gL3 (τ 6)) (gL1 (τ 7)) (gL2 (τ 7)) (gL3 (τ 7)) (gI (τ 27)) H1) (up1_q10 Q E)) E H1) hI (fun x6r l6r c6r h => mSl_elim (i := 7) (G := fun τ => vc Pr (sI up1_p23) τ (xthen (fun τ2 H2 => (mSl (τ2 6) fun x6' l6' c6' => mSl (τ2 7) fun x7' l7' c7' => mI .i64 (τ2 27) fun x27' => I x6' l6' c6' x7' l7' c7' x27' H2) ∧ μ (gL1 (τ2 6)) (gL2 (τ2 6)) (gL3 (τ2 6)) (gL1 (τ2 7)) (gL2 (τ2 7)) (gL3 (τ2 7)) (gI (τ2 27)) H2 < μ (gL1 (τ 6)) (gL2 (τ 6)) (gL3 (τ 6)) (gL1 (τ 7)) (gL2 (τ 7)) (gL3 (τ 7)) (gI (τ 27)) H1) (up1_q10 Q E)) E H1) h (fun x7r l7r c7r h => mI_elim (i := 27) (G := fun τ => vc Pr (sI up1_p23) τ (xthen (fun τ2 H2 => (mSl (τ2 6) fun x6' l6' c6' => mSl (τ2 7) fun x7' l7' c7' => mI .i64 (τ2 27) fun x27' => I x6' l6' c6' x7' l7' c7' x27' H2) ∧ μ (gL1 (τ2 6)) (gL2 (τ2 6)) (gL3 (τ2 6)) (gL1 (τ2 7)) (gL2 (τ2 7)) (gL3 (τ2 7)) (gI (τ2 27)) H2 < μ (gL1 (τ 6)) (gL2 (τ 6)) (gL3 (τ 6)) (gL1 (τ 7)) (gL2 (τ 7)) (gL3 (τ 7)) (gI (τ 27)) H1) (up1_q10 Q E)) E H1) h (fun x27r h => (conv (B := vc Pr (sI up1_p23) (Tau.upd (Tau.upd (Tau.upd (Tau.upd (Tau.upd (Tau.upd (Tau.upd τ1 1 (.int .i64 x1)) 5 (.slice x5 l5 c5)) 25 (.slice x25 l25 c25)) 26 (.int .i64 x26)) 6 (.slice x6r l6r c6r)) 7 (.slice x7r l7r c7r)) 27 (.int .i64 x27r)) (xthen (fun τ2 H2 => (mSl (τ2 6) fun x6' l6' c6' => mSl (τ2 7) fun x7' l7' c7' => mI .i64 (τ2 27) fun x27' => I x6' l6' c6' x7' l7' c7' x27' H2) ∧ μ (gL1 (τ2 6)) (gL2 (τ2 6)) (gL3 (τ2 6)) (gL1 (τ2 7)) (gL2 (τ2 7)) (gL3 (τ2 7)) (gI (τ2 27)) H2 < μ (gL1 ((Tau.upd (Tau.upd (Tau.upd (Tau.upd (Tau.upd (Tau.upd (Tau.upd τ1 1 (.int .i64 x1)) 5 (.slice x5 l5 c5)) 25 (.slice x25 l25 c25)) 26 (.int .i64 x26)) 6 (.slice x6r l6r c6r)) 7 (.slice x7r l7r c7r)) 27 (.int .i64 x27r)) 6)) (gL2 ((Tau.upd (Tau.upd (Tau.upd (Tau.upd (Tau.upd (Tau.upd (Tau.upd τ1 1 (.int .i64 x1)) 5 (.slice x5 l5 c5)) 25 (.slice x25 l25 c25)) 26 (.int .i64 x26)) 6 (.slice x6r l6r c6r)) 7 (.slice x7r l7r c7r)) 27 (.int .i64 x27r)) 6)) (gL3 ((Tau.upd (Tau.upd (Tau.upd (Tau.upd (Tau.upd (Tau.upd (Tau.upd τ1 1 (.int .i64 x1)) 5 (.slice x5 l5 c5)) 25 (.slice x25 l25 c25)) 26 (.int .i64 x26)) 6 (.slice x6r l6r c6r)) 7 (.slice x7r l7r c7r)) 27 (.int .i64 x27r)) 6)) (gL1 ((Tau.upd (Tau.upd (Tau.upd (Tau.upd (Tau.upd (Tau.upd (Tau.upd τ1 1 (.int .i64 x1)) 5 (.slice x5 l5 c5)) 25 (.slice x25 l25 c25)) 26 (.int .i64 x26)) 6 (.slice x6r l6r c6r)) 7 (.slice x7r l7r c7r)) 27 (.int .i64 x27r)) 7)) (gL2 ((Tau.upd (Tau.upd (Tau.upd (Tau.upd (Tau.upd (Tau.upd (Tau.upd τ1 1 (.int .i64 x1)) 5 (.slice x5 l5 c5)) 25 (.slice x25 l25 c25)) 26 (.int .i64 x26)) 6 (.slice x6r l6r c6r)) 7 (.slice x7r l7r c7r)) 27 (.int .i64 x27r)) 7)) (gL3 ((Tau.upd (Tau.upd (Tau.upd (Tau.upd (Tau.upd (Tau.upd (Tau.upd τ1 1 (.int .i64 x1)) 5 (.slice x5 l5 c5)) 25 (.slice x25 l25 c25)) 26 (.int .i64 x26)) 6 (.slice x6r l6r c6r)) 7 (.slice x7r l7r c7r)) 27 (.int .i64 x27r)) 7)) (gI ((Tau.upd (Tau.upd (Tau.upd (Tau.upd (Tau.upd (Tau.upd (Tau.upd τ1 1 (.int .i64 x1)) 5 (.slice x5 l5 c5)) 25 (.slice x25 l25 c25)) 26 (.int .i64 x26)) 6 (.slice x6r l6r c6r)) 7 (.slice x7r l7r c7r)) 27 (.int .i64 x27r)) 27)) H1) (up1_q10 Q E)) E H1) (by kernel_rfl) (vc_xthen (up1_53ok (fun x6' l6' c6' x7' l7' c7' x27' H2 => I x6' l6' c6' x7' l7' c7' x27' H2 ∧ μ x6' l6' c6' x7' l7' c7' x27' H2 < μ x6r l6r c6r x7r l7r c7r x27r H1) Q E (Tau.upd (Tau.upd (Tau.upd (Tau.upd (Tau.upd (Tau.upd (Tau.upd τ1 1 (.int .i64 x1)) 5 (.slice x5 l5 c5)) 25 (.slice x25 l25 c25)) 26 (.int .i64 x26)) 6 (.slice x6r l6r c6r)) 7 (.slice x7r l7r c7r)) 27 (.int .i64 x27r)) H1 (conv (B := up1_51_M (fun x6' l6' c6' x7' l7' c7' x27' H2 => I x6' l6' c6' x7' l7' c7' x27' H2 ∧ μ x6' l6' c6' x7' l7' c7' x27' H2 < μ x6r l6r c6r x7r l7r c7r x27r H1) Q E (Tau.upd (Tau.upd (Tau.upd (Tau.upd (Tau.upd (Tau.upd (Tau.upd τ1 1 (.int .i64 x1)) 5 (.slice x5 l5 c5)) 25 (.slice x25 l25 c25)) 26 (.int .i64 x26)) 6 (.slice x6r l6r c6r)) 7 (.slice x7r l7r c7r)) 27 (.int .i64 x27r)) H1) (by kernel_rfl) (hr x6r l6r c6r x7r l7r c7r x27r H1 h))) (fun τ2 H2 hk => mSl_elim (i := 6) (G := fun τ => (mSl (τ 6) fun x6' l6' c6' => mSl (τ 7) fun x7' l7' c7' => mI .i64 (τ 27) fun x27' => I x6' l6' c6' x7' l7' c7' x27' H2) ∧ μ (gL1 (τ 6)) (gL2 (τ 6)) (gL3 (τ 6)) (gL1 (τ 7)) (gL2 (τ 7)) (gL3 (τ 7)) (gI (τ 27)) H2 < μ x6r l6r c6r x7r l7r c7r x27r H1) hk (fun x6' l6' c6' h => mSl_elim (i := 7) (G := fun τ => (mSl (τ 6) fun x6' l6' c6' => mSl (τ 7) fun x7' l7' c7' => mI .i64 (τ 27) fun x27' => I x6' l6' c6' x7' l7' c7' x27' H2) ∧ μ (gL1 (τ 6)) (gL2 (τ 6)) (gL3 (τ 6)) (gL1 (τ 7)) (gL2 (τ 7)) (gL3 (τ 7)) (gI (τ 27)) H2 < μ x6r l6r c6r x7r l7r c7r x27r H1) h (fun x7' l7' c7' h => mI_elim (i := 27) (G := fun τ => (mSl (τ 6) fun x6' l6' c6' => mSl (τ 7) fun x7' l7' c7' => mI .i64 (τ 27) fun x27' => I x6' l6' c6' x7' l7' c7' x27' H2) ∧ μ (gL1 (τ 6)) (gL2 (τ 6)) (gL3 (τ 6)) (gL1 (τ 7)) (gL2 (τ 7)) (gL3 (τ 7)) (gI (τ 27)) H2 < μ x6r l6r c6r x7r l7r c7r x27r H1) h (fun x27' h => h)))))))))))))))))))))))

theorem up1_56ok (Q : QT) (E : ET) (τ : Tau) (H : Heap) (h : up1_54_M Q E τ H) : vc Pr up1_p22 τ (up1_q9 Q E) E H :=
  (conv (B := vc Pr up1_p22 τ (up1_q9 Q E) E H) (by kernel_rfl) (up1_55ok Q E τ H h))

@[reducible] noncomputable def up1_q23 (Q : QT) (E : ET) : Exit → Tau → Heap → Prop := (xthen (up1_54_M Q E) (up1_q9 Q E))

@[reducible] noncomputable def up1_p44 : Code := sA up1_p21

def up1_57 (Q : QT) (E : ET) (x1 : Int) (x5 : OA) (l5 : Nat) (c5 : Nat) (x6 : OA) (l6 : Nat) (c6 : Nat) (x7 : OA) (l7 : Nat) (c7 : Nat) (H : Heap) : Prop :=
 up1_54 Q E x1 x5 l5 c5 x5 l5 c5 ((l5 : Nat) : Int) x6 l6 c6 x7 l7 c7 0 H

def up1_57_M (Q : QT) (E : ET) (τ : Tau) (H : Heap) : Prop := mI .i64 (τ 1) fun x1 => mSl (τ 5) fun x5 l5 c5 => mSl (τ 6) fun x6 l6 c6 => mSl (τ 7) fun x7 l7 c7 => up1_57 Q E x1 x5 l5 c5 x6 l6 c6 x7 l7 c7 H

theorem up1_58ok (Q : QT) (E : ET) (τ : Tau) (H : Heap) (h : up1_57_M Q E τ H) : vc Pr up1_p44 τ (up1_q23 Q E) E H :=
  vI (i := 1) h (fun x1 h => vSl (i := 5) h (fun x5 l5 c5 h => vSl (i := 6) h (fun x6 l6 c6 h => vSl (i := 7) h (fun x7 l7 c7 h => (conv (by kernel_rfl) h)))))

theorem up1_59ok (Q : QT) (E : ET) (τ : Tau) (H : Heap) (h : up1_57_M Q E τ H) : vc Pr up1_p21 τ (up1_q9 Q E) E H :=
  (conv (B := vc Pr up1_p21 τ (up1_q9 Q E) E H) (by kernel_rfl) (vc_seq (K := (up1_54_M Q E)) (up1_58ok Q E τ H h) (up1_56ok Q E)))

theorem up1_60ok (Q : QT) (E : ET) (τ : Tau) (H : Heap) (h : up1_57_M Q E τ H) : vc Pr up1_p5 τ (up1_q1 Q E) E H :=
  (conv (B := vc Pr up1_p5 τ (up1_q1 Q E) E H) (by kernel_rfl) (vc_seq (K := (up1_21_M Q E)) (up1_59ok Q E τ H h) (up1_23ok Q E)))

@[reducible] noncomputable def up1_q24 (Q : QT) (E : ET) : Exit → Tau → Heap → Prop := (xthen (up1_57_M Q E) (up1_q1 Q E))

@[reducible] noncomputable def up1_p45 : Code := sA up1_p4

def up1_61 (Q : QT) (E : ET) (x1 : Int) (x5 : OA) (l5 : Nat) (c5 : Nat) (x6 : OA) (l6 : Nat) (c6 : Nat) (H : Heap) : Prop :=
 up1_57 Q E x1 x5 l5 c5 x6 l6 c6 none 0 0 H

def up1_61_M (Q : QT) (E : ET) (τ : Tau) (H : Heap) : Prop := mI .i64 (τ 1) fun x1 => mSl (τ 5) fun x5 l5 c5 => mSl (τ 6) fun x6 l6 c6 => up1_61 Q E x1 x5 l5 c5 x6 l6 c6 H

theorem up1_62ok (Q : QT) (E : ET) (τ : Tau) (H : Heap) (h : up1_61_M Q E τ H) : vc Pr up1_p45 τ (up1_q24 Q E) E H :=
  vI (i := 1) h (fun x1 h => vSl (i := 5) h (fun x5 l5 c5 h => vSl (i := 6) h (fun x6 l6 c6 h => (conv (by kernel_rfl) h))))

theorem up1_63ok (Q : QT) (E : ET) (τ : Tau) (H : Heap) (h : up1_61_M Q E τ H) : vc Pr up1_p4 τ (up1_q1 Q E) E H :=
  (conv (B := vc Pr up1_p4 τ (up1_q1 Q E) E H) (by kernel_rfl) (vc_seq (K := (up1_57_M Q E)) (up1_62ok Q E τ H h) (up1_60ok Q E)))

@[reducible] noncomputable def up1_q25 (Q : QT) (E : ET) : Exit → Tau → Heap → Prop := (xthen (up1_61_M Q E) (up1_q1 Q E))

@[reducible] noncomputable def up1_p46 : Code := sA up1_p3

def up1_64 (Q : QT) (E : ET) (x1 : Int) (x5 : OA) (l5 : Nat) (c5 : Nat) (H : Heap) : Prop :=
 up1_61 Q E x1 x5 l5 c5 none 0 0 H

def up1_64_M (Q : QT) (E : ET) (τ : Tau) (H : Heap) : Prop := mI .i64 (τ 1) fun x1 => mSl (τ 5) fun x5 l5 c5 => up1_64 Q E x1 x5 l5 c5 H

theorem up1_65ok (Q : QT) (E : ET) (τ : Tau) (H : Heap) (h : up1_64_M Q E τ H) : vc Pr up1_p46 τ (up1_q25 Q E) E H :=
  vI (i := 1) h (fun x1 h => vSl (i := 5) h (fun x5 l5 c5 h => (conv (by kernel_rfl) h)))

theorem up1_66ok (Q : QT) (E : ET) (τ : Tau) (H : Heap) (h : up1_64_M Q E τ H) : vc Pr up1_p3 τ (up1_q1 Q E) E H :=
  (conv (B := vc Pr up1_p3 τ (up1_q1 Q E) E H) (by kernel_rfl) (vc_seq (K := (up1_61_M Q E)) (up1_65ok Q E τ H h) (up1_63ok Q E)))

@[reducible] noncomputable def up1_q26 (Q : QT) (E : ET) : Exit → Tau → Heap → Prop := (xthen (up1_64_M Q E) (up1_q1 Q E))

@[reducible] noncomputable def up1_p47 : Code := sA up1_p2

def up1_67 (Q : QT) (E : ET) (x0 : OA) (l0 : Nat) (c0 : Nat) (x1 : Int) (H : Heap) : Prop :=
 Does Pr 44 #[(.slice x0 l0 c0)] H (fun v115 H116 =>
 ∃ (p117 : OA) (l118 c119 : Nat), v115 = (.slice p117 l118 c119) ∧ up1_64 Q E x1 p117 l118 c119 H116) E

def up1_67_M (Q : QT) (E : ET) (τ : Tau) (H : Heap) : Prop := mSl (τ 0) fun x0 l0 c0 => mI .i64 (τ 1) fun x1 => up1_67 Q E x0 l0 c0 x1 H

theorem up1_68ok (Q : QT) (E : ET) (τ : Tau) (H : Heap) (h : up1_67_M Q E τ H) : vc Pr up1_p47 τ (up1_q26 Q E) E H :=
  vSl (i := 0) h (fun x0 l0 c0 h => vI (i := 1) h (fun x1 h => (conv (by kernel_rfl) h)))

theorem up1_69ok (Q : QT) (E : ET) (τ : Tau) (H : Heap) (h : up1_67_M Q E τ H) : vc Pr up1_p2 τ (up1_q1 Q E) E H :=
  (conv (B := vc Pr up1_p2 τ (up1_q1 Q E) E H) (by kernel_rfl) (vc_seq (K := (up1_64_M Q E)) (up1_68ok Q E τ H h) (up1_66ok Q E)))

@[reducible] noncomputable def up1_q27 (Q : QT) (E : ET) : Exit → Tau → Heap → Prop := (xthen (up1_67_M Q E) (up1_q1 Q E))

@[reducible] noncomputable def up1_p48 : Code := sA up1_p1

def up1_70 (Q : QT) (E : ET) (x0 : OA) (l0 : Nat) (c0 : Nat) (x1 : Int) (H : Heap) : Prop :=
 Does Pr 43 #[] H (fun v120 H121 =>
 ∃ b122 : Bool, v120 = (.bool b122) ∧ sel (!b122)
 (Q (.bool false) H121)
 (up1_67 Q E x0 l0 c0 x1 H121)) E

def up1_70_M (Q : QT) (E : ET) (τ : Tau) (H : Heap) : Prop := mSl (τ 0) fun x0 l0 c0 => mI .i64 (τ 1) fun x1 => up1_70 Q E x0 l0 c0 x1 H

theorem up1_71ok (Q : QT) (E : ET) (τ : Tau) (H : Heap) (h : up1_70_M Q E τ H) : vc Pr up1_p48 τ (up1_q27 Q E) E H :=
  vSl (i := 0) h (fun x0 l0 c0 h => vI (i := 1) h (fun x1 h => (conv (by kernel_rfl) h)))

theorem up1_72ok (Q : QT) (E : ET) (τ : Tau) (H : Heap) (h : up1_70_M Q E τ H) : vc Pr up1_p1 τ (up1_q1 Q E) E H :=
  (conv (B := vc Pr up1_p1 τ (up1_q1 Q E) E H) (by kernel_rfl) (vc_seq (K := (up1_67_M Q E)) (up1_71ok Q E τ H h) (up1_69ok Q E)))

@[reducible] noncomputable def up1_q28 (Q : QT) (E : ET) : Exit → Tau → Heap → Prop := (xthen (up1_70_M Q E) (up1_q1 Q E))

@[reducible] noncomputable def up1_p49 : Code := sA up1_p0

def up1 (Q : QT) (E : ET) (a0 : OA) (a0l : Nat) (a0c : Nat) (a1 : Int) (H : Heap) : Prop :=
 up1_70 Q E a0 a0l a0c a1 H

theorem up1_fn (a0 : OA) (a0l : Nat) (a0c : Nat) (a1 : Int) (Q : QT) (E : ET) (H : Heap) (h : up1 Q E a0 a0l a0c a1 H)   : Does Pr 15 #[(.slice a0 a0l a0c), (.int .i64 a1)] H Q E :=
  Fn_of_vc (fn := Try.f15) (c := up1_p0) (args := [(.slice a0 a0l a0c), (.int .i64 a1)]) mixed (by kernel_rfl) (by kernel_rfl) (by kernel_rfl) (by kernel_rfl) (by kernel_rfl) ((conv (B := vc Pr up1_p0 (argT [(.slice a0 a0l a0c), (.int .i64 a1)]) (up1_q1 Q E) E H) (by kernel_rfl) (vc_seq (K := (up1_70_M Q E)) (conv (B := vc Pr up1_p49 (argT [(.slice a0 a0l a0c), (.int .i64 a1)]) (up1_q28 Q E) E H) (by kernel_rfl) h) (up1_72ok Q E))))

/-! jobmux/jobmuxlaw11.sane -/
@[reducible] noncomputable def uq1_q1 (Q : QT) (E : ET) : Exit → Tau → Heap → Prop := (retQ Pr (Try.f43).results.toList Q)

@[reducible] noncomputable def uq1_p0 : Code := bodyOf Try.f43

def uq1 (Q : QT) (E : ET)  (H : Heap) : Prop :=
 nw (.cells #[(.int .u8 97), (.int .u8 98)] 5 (0, 0)) H fun i1 H2 =>
 ∃ (cs3 : Array Value) (t4 : TypeId), H2 i1 = some (.cells cs3 t4 (0, 0)) ∧ (fun H5 =>
 nw (.cells #[(.int .u8 98)] 5 (0, 0)) H5 fun i6 H7 =>
 ∃ (cs8 : Array Value) (t9 : TypeId), H7 i6 = some (.cells cs8 t9 (0, 0)) ∧ (fun H10 =>
 nw (.cells #[(.int .u8 10), (.int .u8 120)] 5 (0, 0)) H10 fun i11 H12 =>
 ∃ (cs13 : Array Value) (t14 : TypeId), H12 i11 = some (.cells cs13 t14 (0, 0)) ∧ (fun H15 =>
 nw (.cells #[(.slice (some ⟨i1, 0, none⟩) 2 2), (.slice (some ⟨i6, 0, none⟩) 1 1), (.slice (some ⟨i11, 0, none⟩) 2 2)] 24 (0, 0)) H15 fun i16 H17 =>
 Does Pr 45 #[(.string ⟨[98, 36].toArray⟩), (.slice (some ⟨i16, 0, none⟩) 3 3)] H17 (fun v18 H19 =>
 ∃ n20 n21 n22 : Int, v18 = (.tuple #[(.int .i64 n20), (.int .i64 n21), (.int .i64 n22)]) ∧ Does Pr 45 #[(.string ⟨#[]⟩), (.slice none 0 0)] H19 (fun v23 H24 =>
 ∃ n25 n26 n27 : Int, v23 = (.tuple #[(.int .i64 n25), (.int .i64 n26), (.int .i64 n27)]) ∧ sel ((n22 : Int) == 0)
 (sel ((n20 : Int) == 2)
 (sel ((n21 : Int) == 4)
 (sel ((n25 : Int) == (-1))
 (Q (.bool ((n26 : Int) == 0)) H24)
 (Q (.bool false) H24))
 (Q (.bool false) H24))
 (Q (.bool false) H24))
 (Q (.bool false) H24)) E) E) (Heap.set H12 i11 (.cells cs13 t14 (cs13.size, cs13.size + 1)))) (Heap.set H7 i6 (.cells cs8 t9 (cs8.size, cs8.size + 1)))) (Heap.set H2 i1 (.cells cs3 t4 (cs3.size, cs3.size + 1)))

theorem uq1_fn  (Q : QT) (E : ET) (H : Heap) (h : uq1 Q E  H)   : Does Pr 43 #[] H Q E :=
  Fn_of_vc (fn := Try.f43) (c := uq1_p0) (args := []) mixed (by kernel_rfl) (by kernel_rfl) (by kernel_rfl) (by kernel_rfl) (by kernel_rfl) ((conv (B := vc Pr uq1_p0 (argT []) (uq1_q1 Q E) E H) (by kernel_rfl) h))

/-! jobmux/jobmuxlaw11.pieces -/
@[reducible] noncomputable def ur1_q1 (Q : QT) (E : ET) : Exit → Tau → Heap → Prop := (retQ Pr (Try.f44).results.toList Q)

@[reducible] noncomputable def ur1_p0 : Code := bodyOf Try.f44

@[reducible] noncomputable def ur1_p1 : Code := sB ur1_p0

@[reducible] noncomputable def ur1_p2 : Code := sB ur1_p1

@[reducible] noncomputable def ur1_p3 : Code := sB ur1_p2

@[reducible] noncomputable def ur1_p4 : Code := sB ur1_p3

def ur1_1 (Q : QT) (E : ET) (x4 : OA) (l4 : Nat) (c4 : Nat) (H : Heap) : Prop :=
 Q (.slice x4 l4 c4) H

def ur1_1_M (Q : QT) (E : ET) (τ : Tau) (H : Heap) : Prop := mSl (τ 4) fun x4 l4 c4 => ur1_1 Q E x4 l4 c4 H

theorem ur1_2ok (Q : QT) (E : ET) (τ : Tau) (H : Heap) (h : ur1_1_M Q E τ H) : vc Pr ur1_p4 τ (ur1_q1 Q E) E H :=
  vSl (i := 4) h (fun x4 l4 c4 h => (conv (by kernel_rfl) h))

@[reducible] noncomputable def ur1_q2 (Q : QT) (E : ET) : Exit → Tau → Heap → Prop := (xthen (ur1_1_M Q E) (ur1_q1 Q E))

@[reducible] noncomputable def ur1_p5 : Code := sA ur1_p3

@[reducible] noncomputable def ur1_p6 : Code := sB ur1_p5

@[reducible] noncomputable def ur1_q3 (Q : QT) (E : ET) : Exit → Tau → Heap → Prop := (xblock 0 (ur1_q2 Q E))

@[reducible] noncomputable def ur1_p7 : Code := sI ur1_p6

@[reducible] noncomputable def ur1_q4 (nx21 : Option Addr → Nat → Nat → Int → HP) (Q : QT) (E : ET) : Exit → Tau → Heap → Prop := (xthen (fun τ H => mSl (τ 4) fun x4' l4' c4' => mI .i64 (τ 5) fun x5' => nx21 x4' l4' c4' x5' H) (ur1_q3 Q E))

@[reducible] noncomputable def ur1_p8 : Code := sI ur1_p7

@[reducible] noncomputable def ur1_p9 : Code := sB ur1_p8

def ur1_3 (nx21 : Option Addr → Nat → Nat → Int → HP) (Q : QT) (E : ET) (x3 : OA) (x4 : OA) (l4 : Nat) (c4 : Nat) (x5 : Int) (H : Heap) : Prop :=
 Does Pr 76 #[(.pointer x3)] H (fun v22 H23 =>
 ∃ (p24 : OA) (l25 c26 : Nat), v22 = (.slice p24 l25 c26) ∧ nw (.cells #[(.slice p24 l25 c26)] 24 (0, 0)) H23 fun i27 H28 =>
 app Pr 64 x4 l4 c4 (.slice (some ⟨i27, 0, none⟩) 1 1) H28 fun p29 l30 c31 H32 =>
 nx21 p29 l30 c31 (IntKind.wrap .i64 (x5 - 1)) H32) E

def ur1_3_M (nx21 : Option Addr → Nat → Nat → Int → HP) (Q : QT) (E : ET) (τ : Tau) (H : Heap) : Prop := mP (τ 3) fun x3 => mSl (τ 4) fun x4 l4 c4 => mI .i64 (τ 5) fun x5 => ur1_3 nx21 Q E x3 x4 l4 c4 x5 H

theorem ur1_4ok (nx21 : Option Addr → Nat → Nat → Int → HP) (Q : QT) (E : ET) (τ : Tau) (H : Heap) (h : ur1_3_M nx21 Q E τ H) : vc Pr ur1_p9 τ (ur1_q4 nx21 Q E) E H :=
  vP (i := 3) h (fun x3 h => vSl (i := 4) h (fun x4 l4 c4 h => vI (i := 5) h (fun x5 h => (conv (by kernel_rfl) h))))

@[reducible] noncomputable def ur1_q5 (nx21 : Option Addr → Nat → Nat → Int → HP) (Q : QT) (E : ET) : Exit → Tau → Heap → Prop := (xthen (ur1_3_M nx21 Q E) (ur1_q4 nx21 Q E))

@[reducible] noncomputable def ur1_p10 : Code := sA ur1_p8

def ur1_5 (nx21 : Option Addr → Nat → Nat → Int → HP) (Q : QT) (E : ET) (x3 : OA) (x4 : OA) (l4 : Nat) (c4 : Nat) (x5 : Int) (H : Heap) : Prop :=
 sel (decide ((x5 : Int) > 0))
 (ur1_3 nx21 Q E x3 x4 l4 c4 x5 H)
 (ur1_1 Q E x4 l4 c4 H)

def ur1_5_M (nx21 : Option Addr → Nat → Nat → Int → HP) (Q : QT) (E : ET) (τ : Tau) (H : Heap) : Prop := mP (τ 3) fun x3 => mSl (τ 4) fun x4 l4 c4 => mI .i64 (τ 5) fun x5 => ur1_5 nx21 Q E x3 x4 l4 c4 x5 H

theorem ur1_6ok (nx21 : Option Addr → Nat → Nat → Int → HP) (Q : QT) (E : ET) (τ : Tau) (H : Heap) (h : ur1_5_M nx21 Q E τ H) : vc Pr ur1_p10 τ (ur1_q5 nx21 Q E) E H :=
  vP (i := 3) h (fun x3 h => vSl (i := 4) h (fun x4 l4 c4 h => vI (i := 5) h (fun x5 h => (conv (by kernel_rfl) h))))

theorem ur1_7ok (nx21 : Option Addr → Nat → Nat → Int → HP) (Q : QT) (E : ET) (τ : Tau) (H : Heap) (h : ur1_5_M nx21 Q E τ H) : vc Pr ur1_p8 τ (ur1_q4 nx21 Q E) E H :=
  (conv (B := vc Pr ur1_p8 τ (ur1_q4 nx21 Q E) E H) (by kernel_rfl) (vc_seq (K := (ur1_3_M nx21 Q E)) (ur1_6ok nx21 Q E τ H h) (ur1_4ok nx21 Q E)))

def ur1_8 (Q : QT) (E : ET) (x3 : OA) (x4 : OA) (l4 : Nat) (c4 : Nat) (x5 : Int) (H : Heap) : Prop :=
 ∃ (I : Option Addr → Nat → Nat → Int → HP) (μ : Option Addr → Nat → Nat → Int → Heap → Nat), I x4 l4 c4 x5 H ∧ ∀ (x4 : OA) (l4 : Nat) (c4 : Nat) (x5 : Int) (H : Heap), I x4 l4 c4 x5 H →
 ur1_5 (fun x4' l4' c4' x5' H1 => I x4' l4' c4' x5' H1 ∧ μ x4' l4' c4' x5' H1 < μ x4 l4 c4 x5 H) Q E x3 x4 l4 c4 x5 H

def ur1_8_M (Q : QT) (E : ET) (τ : Tau) (H : Heap) : Prop := mP (τ 3) fun x3 => mSl (τ 4) fun x4 l4 c4 => mI .i64 (τ 5) fun x5 => ur1_8 Q E x3 x4 l4 c4 x5 H

theorem ur1_9ok (Q : QT) (E : ET) (τ : Tau) (H : Heap) (h : ur1_8_M Q E τ H) : vc Pr ur1_p7 τ (ur1_q3 Q E) E H :=
  vP (i := 3) h (fun x3 h => vSl (i := 4) h (fun x4 l4 c4 h => vI (i := 5) h (fun x5 h => match h with | ⟨I, μ, h0, hr⟩ => (conv (B := vc Pr ur1_p7 (Tau.upd (Tau.upd (Tau.upd τ 3 (.pointer x3)) 4 (.slice x4 l4 c4)) 5 (.int .i64 x5)) (ur1_q3 Q E) E H) (by kernel_rfl) (vc_loop (c := sI ur1_p7) (τ := (Tau.upd (Tau.upd (Tau.upd τ 3 (.pointer x3)) 4 (.slice x4 l4 c4)) 5 (.int .i64 x5))) [3] (fun τ H => mSl (τ 4) fun x4' l4' c4' => mI .i64 (τ 5) fun x5' => I x4' l4' c4' x5' H) (fun τ H => μ (gL1 (τ 4)) (gL2 (τ 4)) (gL3 (τ 4)) (gI (τ 5)) H) (by kernel_rfl) h0 (fun τ1 H1 hf hI => fix_elim (τ := τ1) (i := 3) (v := (.pointer x3)) (G := fun τ => vc Pr (sI ur1_p7) τ (xthen (fun τ2 H2 => (mSl (τ2 4) fun x4' l4' c4' => mI .i64 (τ2 5) fun x5' => I x4' l4' c4' x5' H2) ∧ μ (gL1 (τ2 4)) (gL2 (τ2 4)) (gL3 (τ2 4)) (gI (τ2 5)) H2 < μ (gL1 (τ 4)) (gL2 (τ 4)) (gL3 (τ 4)) (gI (τ 5)) H1) (ur1_q3 Q E)) E H1) (hf 3 (by simp)) (mSl_elim (i := 4) (G := fun τ => vc Pr (sI ur1_p7) τ (xthen (fun τ2 H2 => (mSl (τ2 4) fun x4' l4' c4' => mI .i64 (τ2 5) fun x5' => I x4' l4' c4' x5' H2) ∧ μ (gL1 (τ2 4)) (gL2 (τ2 4)) (gL3 (τ2 4)) (gI (τ2 5)) H2 < μ (gL1 (τ 4)) (gL2 (τ 4)) (gL3 (τ 4)) (gI (τ 5)) H1) (ur1_q3 Q E)) E H1) hI (fun x4r l4r c4r h => mI_elim (i := 5) (G := fun τ => vc Pr (sI ur1_p7) τ (xthen (fun τ2 H2 => (mSl (τ2 4) fun x4' l4' c4' => mI .i64 (τ2 5) fun x5' => I x4' l4' c4' x5' H2) ∧ μ (gL1 (τ2 4)) (gL2 (τ2 4)) (gL3 (τ2 4)) (gI (τ2 5)) H2 < μ (gL1 (τ 4)) (gL2 (τ 4)) (gL3 (τ 4)) (gI (τ 5)) H1) (ur1_q3 Q E)) E H1) h (fun x5r h => (conv (B := vc Pr (sI ur1_p7) (Tau.upd (Tau.upd (Tau.upd τ1 3 (.pointer x3)) 4 (.slice x4r l4r c4r)) 5 (.int .i64 x5r)) (xthen (fun τ2 H2 => (mSl (τ2 4) fun x4' l4' c4' => mI .i64 (τ2 5) fun x5' => I x4' l4' c4' x5' H2) ∧ μ (gL1 (τ2 4)) (gL2 (τ2 4)) (gL3 (τ2 4)) (gI (τ2 5)) H2 < μ (gL1 ((Tau.upd (Tau.upd (Tau.upd τ1 3 (.pointer x3)) 4 (.slice x4r l4r c4r)) 5 (.int .i64 x5r)) 4)) (gL2 ((Tau.upd (Tau.upd (Tau.upd τ1 3 (.pointer x3)) 4 (.slice x4r l4r c4r)) 5 (.int .i64 x5r)) 4)) (gL3 ((Tau.upd (Tau.upd (Tau.upd τ1 3 (.pointer x3)) 4 (.slice x4r l4r c4r)) 5 (.int .i64 x5r)) 4)) (gI ((Tau.upd (Tau.upd (Tau.upd τ1 3 (.pointer x3)) 4 (.slice x4r l4r c4r)) 5 (.int .i64 x5r)) 5)) H1) (ur1_q3 Q E)) E H1) (by kernel_rfl) (vc_xthen (ur1_7ok (fun x4' l4' c4' x5' H2 => I x4' l4' c4' x5' H2 ∧ μ x4' l4' c4' x5' H2 < μ x4r l4r c4r x5r H1) Q E (Tau.upd (Tau.upd (Tau.upd τ1 3 (.pointer x3)) 4 (.slice x4r l4r c4r)) 5 (.int .i64 x5r)) H1 (conv (B := ur1_5_M (fun x4' l4' c4' x5' H2 => I x4' l4' c4' x5' H2 ∧ μ x4' l4' c4' x5' H2 < μ x4r l4r c4r x5r H1) Q E (Tau.upd (Tau.upd (Tau.upd τ1 3 (.pointer x3)) 4 (.slice x4r l4r c4r)) 5 (.int .i64 x5r)) H1) (by kernel_rfl) (hr x4r l4r c4r x5r H1 h))) (fun τ2 H2 hk => mSl_elim (i := 4) (G := fun τ => (mSl (τ 4) fun x4' l4' c4' => mI .i64 (τ 5) fun x5' => I x4' l4' c4' x5' H2) ∧ μ (gL1 (τ 4)) (gL2 (τ 4)) (gL3 (τ 4)) (gI (τ 5)) H2 < μ x4r l4r c4r x5r H1) hk (fun x4' l4' c4' h => mI_elim (i := 5) (G := fun τ => (mSl (τ 4) fun x4' l4' c4' => mI .i64 (τ 5) fun x5' => I x4' l4' c4' x5' H2) ∧ μ (gL1 (τ 4)) (gL2 (τ 4)) (gL3 (τ 4)) (gI (τ 5)) H2 < μ x4r l4r c4r x5r H1) h (fun x5' h => h))))))))))))))

theorem ur1_10ok (Q : QT) (E : ET) (τ : Tau) (H : Heap) (h : ur1_8_M Q E τ H) : vc Pr ur1_p6 τ (ur1_q2 Q E) E H :=
  (conv (B := vc Pr ur1_p6 τ (ur1_q2 Q E) E H) (by kernel_rfl) (ur1_9ok Q E τ H h))

@[reducible] noncomputable def ur1_q6 (Q : QT) (E : ET) : Exit → Tau → Heap → Prop := (xthen (ur1_8_M Q E) (ur1_q2 Q E))

@[reducible] noncomputable def ur1_p11 : Code := sA ur1_p5

def ur1_11 (Q : QT) (E : ET) (x3 : OA) (x4 : OA) (l4 : Nat) (c4 : Nat) (H : Heap) : Prop :=
 Does Pr 49 #[(.pointer x3), (.int .i64 6)] H (fun v33 H34 =>
 ∃ n35 : Int, v33 = (.int .i64 n35) ∧ ur1_8 Q E x3 x4 l4 c4 n35 H34) E

def ur1_11_M (Q : QT) (E : ET) (τ : Tau) (H : Heap) : Prop := mP (τ 3) fun x3 => mSl (τ 4) fun x4 l4 c4 => ur1_11 Q E x3 x4 l4 c4 H

theorem ur1_12ok (Q : QT) (E : ET) (τ : Tau) (H : Heap) (h : ur1_11_M Q E τ H) : vc Pr ur1_p11 τ (ur1_q6 Q E) E H :=
  vP (i := 3) h (fun x3 h => vSl (i := 4) h (fun x4 l4 c4 h => (conv (by kernel_rfl) h)))

theorem ur1_13ok (Q : QT) (E : ET) (τ : Tau) (H : Heap) (h : ur1_11_M Q E τ H) : vc Pr ur1_p5 τ (ur1_q2 Q E) E H :=
  (conv (B := vc Pr ur1_p5 τ (ur1_q2 Q E) E H) (by kernel_rfl) (vc_seq (K := (ur1_8_M Q E)) (ur1_12ok Q E τ H h) (ur1_10ok Q E)))

theorem ur1_14ok (Q : QT) (E : ET) (τ : Tau) (H : Heap) (h : ur1_11_M Q E τ H) : vc Pr ur1_p3 τ (ur1_q1 Q E) E H :=
  (conv (B := vc Pr ur1_p3 τ (ur1_q1 Q E) E H) (by kernel_rfl) (vc_seq (K := (ur1_1_M Q E)) (ur1_13ok Q E τ H h) (ur1_2ok Q E)))

@[reducible] noncomputable def ur1_q7 (Q : QT) (E : ET) : Exit → Tau → Heap → Prop := (xthen (ur1_11_M Q E) (ur1_q1 Q E))

@[reducible] noncomputable def ur1_p12 : Code := sA ur1_p2

def ur1_15 (Q : QT) (E : ET) (x3 : OA) (H : Heap) : Prop :=
 ur1_11 Q E x3 none 0 0 H

def ur1_15_M (Q : QT) (E : ET) (τ : Tau) (H : Heap) : Prop := mP (τ 3) fun x3 => ur1_15 Q E x3 H

theorem ur1_16ok (Q : QT) (E : ET) (τ : Tau) (H : Heap) (h : ur1_15_M Q E τ H) : vc Pr ur1_p12 τ (ur1_q7 Q E) E H :=
  vP (i := 3) h (fun x3 h => (conv (by kernel_rfl) h))

theorem ur1_17ok (Q : QT) (E : ET) (τ : Tau) (H : Heap) (h : ur1_15_M Q E τ H) : vc Pr ur1_p2 τ (ur1_q1 Q E) E H :=
  (conv (B := vc Pr ur1_p2 τ (ur1_q1 Q E) E H) (by kernel_rfl) (vc_seq (K := (ur1_11_M Q E)) (ur1_16ok Q E τ H h) (ur1_14ok Q E)))

@[reducible] noncomputable def ur1_q8 (Q : QT) (E : ET) : Exit → Tau → Heap → Prop := (xthen (ur1_15_M Q E) (ur1_q1 Q E))

@[reducible] noncomputable def ur1_p13 : Code := sA ur1_p1

def ur1_18 (Q : QT) (E : ET) (x0 : OA) (l0 : Nat) (c0 : Nat) (H : Heap) : Prop :=
 Does Pr 47 #[(.slice x0 l0 c0)] H (fun v36 H37 =>
 ∃ p38 : Option Addr, v36 = (.pointer p38) ∧ ur1_15 Q E p38 H37) E

def ur1_18_M (Q : QT) (E : ET) (τ : Tau) (H : Heap) : Prop := mSl (τ 0) fun x0 l0 c0 => ur1_18 Q E x0 l0 c0 H

theorem ur1_19ok (Q : QT) (E : ET) (τ : Tau) (H : Heap) (h : ur1_18_M Q E τ H) : vc Pr ur1_p13 τ (ur1_q8 Q E) E H :=
  vSl (i := 0) h (fun x0 l0 c0 h => (conv (by kernel_rfl) h))

theorem ur1_20ok (Q : QT) (E : ET) (τ : Tau) (H : Heap) (h : ur1_18_M Q E τ H) : vc Pr ur1_p1 τ (ur1_q1 Q E) E H :=
  (conv (B := vc Pr ur1_p1 τ (ur1_q1 Q E) E H) (by kernel_rfl) (vc_seq (K := (ur1_15_M Q E)) (ur1_19ok Q E τ H h) (ur1_17ok Q E)))

@[reducible] noncomputable def ur1_q9 (Q : QT) (E : ET) : Exit → Tau → Heap → Prop := (xthen (ur1_18_M Q E) (ur1_q1 Q E))

@[reducible] noncomputable def ur1_p14 : Code := sA ur1_p0

def ur1 (Q : QT) (E : ET) (a0 : OA) (a0l : Nat) (a0c : Nat) (H : Heap) : Prop :=
 ur1_18 Q E a0 a0l a0c H

theorem ur1_fn (a0 : OA) (a0l : Nat) (a0c : Nat) (Q : QT) (E : ET) (H : Heap) (h : ur1 Q E a0 a0l a0c H)   : Does Pr 44 #[(.slice a0 a0l a0c)] H Q E :=
  Fn_of_vc (fn := Try.f44) (c := ur1_p0) (args := [(.slice a0 a0l a0c)]) mixed (by kernel_rfl) (by kernel_rfl) (by kernel_rfl) (by kernel_rfl) (by kernel_rfl) ((conv (B := vc Pr ur1_p0 (argT [(.slice a0 a0l a0c)]) (ur1_q1 Q E) E H) (by kernel_rfl) (vc_seq (K := (ur1_18_M Q E)) (conv (B := vc Pr ur1_p14 (argT [(.slice a0 a0l a0c)]) (ur1_q9 Q E) E H) (by kernel_rfl) h) (ur1_20ok Q E))))

end Go.Proofs.Ytaffcoiomggpfaa
