import Derived.Test.YtaffcoiomggpfaaVPr
/- Printed by gen.py: the Go functions of package l08 over a heap view, and that the model does so. -/
namespace Go.Proofs.Ytaffcoiomggpfaa
open Go.V
set_option linter.unusedVariables false
set_option maxRecDepth 100000
/-! jobmux/jobmuxlaw08.RegexValid -/
@[reducible] noncomputable def l08_RegexValid_q1 (Q : QT) (E : ET) : Exit → Tau → Heap → Prop := (retQ Pr (Try.f12).results.toList Q)

@[reducible] noncomputable def l08_RegexValid_p0 : Code := bodyOf Try.f12

@[reducible] noncomputable def l08_RegexValid_p1 : Code := sB l08_RegexValid_p0

@[reducible] noncomputable def l08_RegexValid_p2 : Code := sB l08_RegexValid_p1

@[reducible] noncomputable def l08_RegexValid_p3 : Code := sB l08_RegexValid_p2

@[reducible] noncomputable def l08_RegexValid_p4 : Code := sB l08_RegexValid_p3

@[reducible] noncomputable def l08_RegexValid_p5 : Code := sB l08_RegexValid_p4

@[reducible] noncomputable def l08_RegexValid_p6 : Code := sB l08_RegexValid_p5

@[reducible] noncomputable def l08_RegexValid_p7 : Code := sB l08_RegexValid_p6

@[reducible] noncomputable def l08_RegexValid_p8 : Code := sB l08_RegexValid_p7

def l08_RegexValid_1 (Q : QT) (E : ET) (x1 : OA) (l1 : Nat) (c1 : Nat) (x9 : OA) (l9 : Nat) (c9 : Nat) (x11 : OA) (l11 : Nat) (c11 : Nat) (H : Heap) : Prop :=
 Does Pr 40 #[(.slice x9 l9 c9)] H (fun v46 H47 =>
 ∃ b48 : Bool, v46 = (.bool b48) ∧ sel b48
 (Does Pr 40 #[(.slice x11 l11 c11)] H47 (fun v49 H50 =>
 ∃ b51 : Bool, v49 = (.bool b51) ∧ Does Pr 41 #[(.slice x11 l11 c11)] H50 (fun v52 H53 =>
 ∃ b54 : Bool, v52 = (.bool b54) ∧ sel (b51 == b54)
 (Does Pr 40 #[(.slice x1 l1 c1)] H53 (fun v55 H56 =>
 ∃ b57 : Bool, v55 = (.bool b57) ∧ Does Pr 41 #[(.slice x1 l1 c1)] H56 (fun v58 H59 =>
 ∃ b60 : Bool, v58 = (.bool b60) ∧ Q (.bool (b57 == b60)) H59) E) E)
 (Q (.bool false) H53)) E) E)
 (Q (.bool false) H47)) E

def l08_RegexValid_1_M (Q : QT) (E : ET) (τ : Tau) (H : Heap) : Prop := mSl (τ 1) fun x1 l1 c1 => mSl (τ 9) fun x9 l9 c9 => mSl (τ 11) fun x11 l11 c11 => l08_RegexValid_1 Q E x1 l1 c1 x9 l9 c9 x11 l11 c11 H

theorem l08_RegexValid_2ok (Q : QT) (E : ET) (τ : Tau) (H : Heap) (h : l08_RegexValid_1_M Q E τ H) : vc Pr l08_RegexValid_p8 τ (l08_RegexValid_q1 Q E) E H :=
  vSl (i := 1) h (fun x1 l1 c1 h => vSl (i := 9) h (fun x9 l9 c9 h => vSl (i := 11) h (fun x11 l11 c11 h => (conv (by kernel_rfl) h))))

@[reducible] noncomputable def l08_RegexValid_q2 (Q : QT) (E : ET) : Exit → Tau → Heap → Prop := (xthen (l08_RegexValid_1_M Q E) (l08_RegexValid_q1 Q E))

@[reducible] noncomputable def l08_RegexValid_p9 : Code := sA l08_RegexValid_p7

def l08_RegexValid_3 (Q : QT) (E : ET) (x1 : OA) (l1 : Nat) (c1 : Nat) (x2 : Int) (x3 : Int) (x9 : OA) (l9 : Nat) (c9 : Nat) (x11 : OA) (l11 : Nat) (c11 : Nat) (x12 : OA) (H : Heap) : Prop :=
 Does Pr 22 #[(.int .i64 x2), (.int .i64 6)] H (fun v61 H62 =>
 ∃ n63 : Int, v61 = (.int .i64 n63) ∧ sel ((n63 : Int) == 0)
 (Does Pr 22 #[(.int .i64 x3), (.int .i64 12)] H62 (fun v64 H65 =>
 ∃ n66 : Int, v64 = (.int .i64 n66) ∧ ptr x12 fun q67 =>
 wr q67 [(.int .i64 n66)] H65 fun H68 =>
 l08_RegexValid_1 Q E x1 l1 c1 x9 l9 c9 x11 l11 c11 H68) E)
 (sel ((n63 : Int) == 1)
 (ptr x12 fun q69 =>
 ldI .i64 (Addr.add q69 1) H62 fun n70 =>
 ptr x12 fun q71 =>
 wr (Addr.add q71 1) [(.int .i64 (IntKind.wrap .i64 (n70 + 1)))] H62 fun H72 =>
 l08_RegexValid_1 Q E x1 l1 c1 x9 l9 c9 x11 l11 c11 H72)
 (sel ((n63 : Int) == 2)
 (ptr x12 fun q73 =>
 ldI .i64 (Addr.add q73 2) H62 fun n74 =>
 ptr x12 fun q75 =>
 wr (Addr.add q75 2) [(.int .i64 (IntKind.wrap .i64 (n74 - 1)))] H62 fun H76 =>
 l08_RegexValid_1 Q E x1 l1 c1 x9 l9 c9 x11 l11 c11 H76)
 (sel ((n63 : Int) == 3)
 (ptr x12 fun q77 =>
 (0 ≤ (1 : Int) ∧ (1 : Int) < ((4 : Nat) : Int)) ∧ ldI .u64 (Addr.add (Addr.add q77 3) 1) H62 fun n78 =>
 ptr x12 fun q79 =>
 (0 ≤ (1 : Int) ∧ (1 : Int) < ((4 : Nat) : Int)) ∧ wr (Addr.add (Addr.add q79 3) 1) [(.int .u64 (IntKind.wrap .u64 (n78 + 1)))] H62 fun H80 =>
 l08_RegexValid_1 Q E x1 l1 c1 x9 l9 c9 x11 l11 c11 H80)
 (sel ((n63 : Int) == 4)
 ((0 ≤ (1 : Int) ∧ (1 : Int) ≤ ((l11 : Nat) : Int)) ∧ l08_RegexValid_1 Q E x1 l1 c1 x9 l9 c9 (if c11 = (1 : Int).toNat then x11 else Option.map (fun a => Addr.add a ((1 : Int).toNat * 7)) x11) (l11 - (1 : Int).toNat) (c11 - (1 : Int).toNat) H62)
 (app Pr 23 x11 l11 c11 (.slice x9 l9 c9) H62 fun p81 l82 c83 H84 =>
 l08_RegexValid_1 Q E x1 l1 c1 x9 l9 c9 p81 l82 c83 H84)))))) E

def l08_RegexValid_3_M (Q : QT) (E : ET) (τ : Tau) (H : Heap) : Prop := mSl (τ 1) fun x1 l1 c1 => mI .i64 (τ 2) fun x2 => mI .i64 (τ 3) fun x3 => mSl (τ 9) fun x9 l9 c9 => mSl (τ 11) fun x11 l11 c11 => mP (τ 12) fun x12 => l08_RegexValid_3 Q E x1 l1 c1 x2 x3 x9 l9 c9 x11 l11 c11 x12 H

theorem l08_RegexValid_4ok (Q : QT) (E : ET) (τ : Tau) (H : Heap) (h : l08_RegexValid_3_M Q E τ H) : vc Pr l08_RegexValid_p9 τ (l08_RegexValid_q2 Q E) E H :=
  vSl (i := 1) h (fun x1 l1 c1 h => vI (i := 2) h (fun x2 h => vI (i := 3) h (fun x3 h => vSl (i := 9) h (fun x9 l9 c9 h => vSl (i := 11) h (fun x11 l11 c11 h => vP (i := 12) h (fun x12 h => (conv (by kernel_rfl) h)))))))

theorem l08_RegexValid_5ok (Q : QT) (E : ET) (τ : Tau) (H : Heap) (h : l08_RegexValid_3_M Q E τ H) : vc Pr l08_RegexValid_p7 τ (l08_RegexValid_q1 Q E) E H :=
  (conv (B := vc Pr l08_RegexValid_p7 τ (l08_RegexValid_q1 Q E) E H) (by kernel_rfl) (vc_seq (K := (l08_RegexValid_1_M Q E)) (l08_RegexValid_4ok Q E τ H h) (l08_RegexValid_2ok Q E)))

@[reducible] noncomputable def l08_RegexValid_q3 (Q : QT) (E : ET) : Exit → Tau → Heap → Prop := (xthen (l08_RegexValid_3_M Q E) (l08_RegexValid_q1 Q E))

@[reducible] noncomputable def l08_RegexValid_p10 : Code := sA l08_RegexValid_p6

def l08_RegexValid_6 (Q : QT) (E : ET) (x1 : OA) (l1 : Nat) (c1 : Nat) (x2 : Int) (x3 : Int) (x9 : OA) (l9 : Nat) (c9 : Nat) (x11 : OA) (l11 : Nat) (c11 : Nat) (H : Heap) : Prop :=
 Does Pr 22 #[(.int .i64 x3), (.int .i64 ((l11 : Nat) : Int))] H (fun v85 H86 =>
 ∃ n87 : Int, v85 = (.int .i64 n87) ∧ (0 ≤ (n87 : Int) ∧ (n87 : Int) < ((l11 : Nat) : Int)) ∧ ptr x11 fun q88 =>
 l08_RegexValid_3 Q E x1 l1 c1 x2 x3 x9 l9 c9 x11 l11 c11 (some (Addr.add q88 ((n87 : Int).toNat * 7))) H86) E

def l08_RegexValid_6_M (Q : QT) (E : ET) (τ : Tau) (H : Heap) : Prop := mSl (τ 1) fun x1 l1 c1 => mI .i64 (τ 2) fun x2 => mI .i64 (τ 3) fun x3 => mSl (τ 9) fun x9 l9 c9 => mSl (τ 11) fun x11 l11 c11 => l08_RegexValid_6 Q E x1 l1 c1 x2 x3 x9 l9 c9 x11 l11 c11 H

theorem l08_RegexValid_7ok (Q : QT) (E : ET) (τ : Tau) (H : Heap) (h : l08_RegexValid_6_M Q E τ H) : vc Pr l08_RegexValid_p10 τ (l08_RegexValid_q3 Q E) E H :=
  vSl (i := 1) h (fun x1 l1 c1 h => vI (i := 2) h (fun x2 h => vI (i := 3) h (fun x3 h => vSl (i := 9) h (fun x9 l9 c9 h => vSl (i := 11) h (fun x11 l11 c11 h => (conv (by kernel_rfl) h))))))

theorem l08_RegexValid_8ok (Q : QT) (E : ET) (τ : Tau) (H : Heap) (h : l08_RegexValid_6_M Q E τ H) : vc Pr l08_RegexValid_p6 τ (l08_RegexValid_q1 Q E) E H :=
  (conv (B := vc Pr l08_RegexValid_p6 τ (l08_RegexValid_q1 Q E) E H) (by kernel_rfl) (vc_seq (K := (l08_RegexValid_3_M Q E)) (l08_RegexValid_7ok Q E τ H h) (l08_RegexValid_5ok Q E)))

@[reducible] noncomputable def l08_RegexValid_q4 (Q : QT) (E : ET) : Exit → Tau → Heap → Prop := (xthen (l08_RegexValid_6_M Q E) (l08_RegexValid_q1 Q E))

@[reducible] noncomputable def l08_RegexValid_p11 : Code := sA l08_RegexValid_p5

def l08_RegexValid_9 (Q : QT) (E : ET) (x1 : OA) (l1 : Nat) (c1 : Nat) (x2 : Int) (x3 : Int) (x9 : OA) (l9 : Nat) (c9 : Nat) (H : Heap) : Prop :=
 nw (.cells #[] 48 (0, 0)) H fun i89 H90 =>
 app Pr 23 (some ⟨i89, 0, none⟩) 0 0 (.slice x9 l9 c9) H90 fun p91 l92 c93 H94 =>
 l08_RegexValid_6 Q E x1 l1 c1 x2 x3 x9 l9 c9 p91 l92 c93 H94

def l08_RegexValid_9_M (Q : QT) (E : ET) (τ : Tau) (H : Heap) : Prop := mSl (τ 1) fun x1 l1 c1 => mI .i64 (τ 2) fun x2 => mI .i64 (τ 3) fun x3 => mSl (τ 9) fun x9 l9 c9 => l08_RegexValid_9 Q E x1 l1 c1 x2 x3 x9 l9 c9 H

theorem l08_RegexValid_10ok (Q : QT) (E : ET) (τ : Tau) (H : Heap) (h : l08_RegexValid_9_M Q E τ H) : vc Pr l08_RegexValid_p11 τ (l08_RegexValid_q4 Q E) E H :=
  vSl (i := 1) h (fun x1 l1 c1 h => vI (i := 2) h (fun x2 h => vI (i := 3) h (fun x3 h => vSl (i := 9) h (fun x9 l9 c9 h => (conv (by kernel_rfl) h)))))

theorem l08_RegexValid_11ok (Q : QT) (E : ET) (τ : Tau) (H : Heap) (h : l08_RegexValid_9_M Q E τ H) : vc Pr l08_RegexValid_p5 τ (l08_RegexValid_q1 Q E) E H :=
  (conv (B := vc Pr l08_RegexValid_p5 τ (l08_RegexValid_q1 Q E) E H) (by kernel_rfl) (vc_seq (K := (l08_RegexValid_6_M Q E)) (l08_RegexValid_10ok Q E τ H h) (l08_RegexValid_8ok Q E)))

@[reducible] noncomputable def l08_RegexValid_q5 (Q : QT) (E : ET) : Exit → Tau → Heap → Prop := (xthen (l08_RegexValid_9_M Q E) (l08_RegexValid_q1 Q E))

@[reducible] noncomputable def l08_RegexValid_p12 : Code := sA l08_RegexValid_p4

def l08_RegexValid_12 (Q : QT) (E : ET) (x1 : OA) (l1 : Nat) (c1 : Nat) (x2 : Int) (x3 : Int) (x9 : OA) (l9 : Nat) (c9 : Nat) (x10 : Int) (H : Heap) : Prop :=
 sel ((x10 : Int) != 0)
 (Does Pr 23 #[(.string ⟨[40, 97, 124, 98, 41, 42, 99, 63].toArray⟩)] H (fun v95 H96 =>
 ∃ (p97 : OA) (l98 c99 : Nat), ∃ n100 : Int, v95 = (.tuple #[(.slice p97 l98 c99), (.int .i64 n100)]) ∧ l08_RegexValid_9 Q E x1 l1 c1 x2 x3 p97 l98 c99 H96) E)
 (l08_RegexValid_9 Q E x1 l1 c1 x2 x3 x9 l9 c9 H)

def l08_RegexValid_12_M (Q : QT) (E : ET) (τ : Tau) (H : Heap) : Prop := mSl (τ 1) fun x1 l1 c1 => mI .i64 (τ 2) fun x2 => mI .i64 (τ 3) fun x3 => mSl (τ 9) fun x9 l9 c9 => mI .i64 (τ 10) fun x10 => l08_RegexValid_12 Q E x1 l1 c1 x2 x3 x9 l9 c9 x10 H

theorem l08_RegexValid_13ok (Q : QT) (E : ET) (τ : Tau) (H : Heap) (h : l08_RegexValid_12_M Q E τ H) : vc Pr l08_RegexValid_p12 τ (l08_RegexValid_q5 Q E) E H :=
  vSl (i := 1) h (fun x1 l1 c1 h => vI (i := 2) h (fun x2 h => vI (i := 3) h (fun x3 h => vSl (i := 9) h (fun x9 l9 c9 h => vI (i := 10) h (fun x10 h => (conv (by kernel_rfl) h))))))

theorem l08_RegexValid_14ok (Q : QT) (E : ET) (τ : Tau) (H : Heap) (h : l08_RegexValid_12_M Q E τ H) : vc Pr l08_RegexValid_p4 τ (l08_RegexValid_q1 Q E) E H :=
  (conv (B := vc Pr l08_RegexValid_p4 τ (l08_RegexValid_q1 Q E) E H) (by kernel_rfl) (vc_seq (K := (l08_RegexValid_9_M Q E)) (l08_RegexValid_13ok Q E τ H h) (l08_RegexValid_11ok Q E)))

@[reducible] noncomputable def l08_RegexValid_q6 (Q : QT) (E : ET) : Exit → Tau → Heap → Prop := (xthen (l08_RegexValid_12_M Q E) (l08_RegexValid_q1 Q E))

@[reducible] noncomputable def l08_RegexValid_p13 : Code := sA l08_RegexValid_p3

def l08_RegexValid_15 (Q : QT) (E : ET) (x0 : OA) (l0 : Nat) (c0 : Nat) (x1 : OA) (l1 : Nat) (c1 : Nat) (x2 : Int) (x3 : Int) (H : Heap) : Prop :=
 Does Pr 30 #[(.slice x0 l0 c0)] H (fun v101 H102 =>
 ∃ s103 : ByteArray, v101 = (.string s103) ∧ Does Pr 23 #[(.string s103)] H102 (fun v104 H105 =>
 ∃ (p106 : OA) (l107 c108 : Nat), ∃ n109 : Int, v104 = (.tuple #[(.slice p106 l107 c108), (.int .i64 n109)]) ∧ l08_RegexValid_12 Q E x1 l1 c1 x2 x3 p106 l107 c108 n109 H105) E) E

def l08_RegexValid_15_M (Q : QT) (E : ET) (τ : Tau) (H : Heap) : Prop := mSl (τ 0) fun x0 l0 c0 => mSl (τ 1) fun x1 l1 c1 => mI .i64 (τ 2) fun x2 => mI .i64 (τ 3) fun x3 => l08_RegexValid_15 Q E x0 l0 c0 x1 l1 c1 x2 x3 H

theorem l08_RegexValid_16ok (Q : QT) (E : ET) (τ : Tau) (H : Heap) (h : l08_RegexValid_15_M Q E τ H) : vc Pr l08_RegexValid_p13 τ (l08_RegexValid_q6 Q E) E H :=
  vSl (i := 0) h (fun x0 l0 c0 h => vSl (i := 1) h (fun x1 l1 c1 h => vI (i := 2) h (fun x2 h => vI (i := 3) h (fun x3 h => (conv (by kernel_rfl) h)))))

theorem l08_RegexValid_17ok (Q : QT) (E : ET) (τ : Tau) (H : Heap) (h : l08_RegexValid_15_M Q E τ H) : vc Pr l08_RegexValid_p3 τ (l08_RegexValid_q1 Q E) E H :=
  (conv (B := vc Pr l08_RegexValid_p3 τ (l08_RegexValid_q1 Q E) E H) (by kernel_rfl) (vc_seq (K := (l08_RegexValid_12_M Q E)) (l08_RegexValid_16ok Q E τ H h) (l08_RegexValid_14ok Q E)))

@[reducible] noncomputable def l08_RegexValid_q7 (Q : QT) (E : ET) : Exit → Tau → Heap → Prop := (xthen (l08_RegexValid_15_M Q E) (l08_RegexValid_q1 Q E))

@[reducible] noncomputable def l08_RegexValid_p14 : Code := sA l08_RegexValid_p2

def l08_RegexValid_18 (Q : QT) (E : ET) (x0 : OA) (l0 : Nat) (c0 : Nat) (x1 : OA) (l1 : Nat) (c1 : Nat) (x2 : Int) (x3 : Int) (H : Heap) : Prop :=
 sel (decide ((((l1 : Nat) : Int) : Int) > 300))
 (Q (.bool true) H)
 (l08_RegexValid_15 Q E x0 l0 c0 x1 l1 c1 x2 x3 H)

def l08_RegexValid_18_M (Q : QT) (E : ET) (τ : Tau) (H : Heap) : Prop := mSl (τ 0) fun x0 l0 c0 => mSl (τ 1) fun x1 l1 c1 => mI .i64 (τ 2) fun x2 => mI .i64 (τ 3) fun x3 => l08_RegexValid_18 Q E x0 l0 c0 x1 l1 c1 x2 x3 H

theorem l08_RegexValid_19ok (Q : QT) (E : ET) (τ : Tau) (H : Heap) (h : l08_RegexValid_18_M Q E τ H) : vc Pr l08_RegexValid_p14 τ (l08_RegexValid_q7 Q E) E H :=
  vSl (i := 0) h (fun x0 l0 c0 h => vSl (i := 1) h (fun x1 l1 c1 h => vI (i := 2) h (fun x2 h => vI (i := 3) h (fun x3 h => (conv (by kernel_rfl) h)))))

theorem l08_RegexValid_20ok (Q : QT) (E : ET) (τ : Tau) (H : Heap) (h : l08_RegexValid_18_M Q E τ H) : vc Pr l08_RegexValid_p2 τ (l08_RegexValid_q1 Q E) E H :=
  (conv (B := vc Pr l08_RegexValid_p2 τ (l08_RegexValid_q1 Q E) E H) (by kernel_rfl) (vc_seq (K := (l08_RegexValid_15_M Q E)) (l08_RegexValid_19ok Q E τ H h) (l08_RegexValid_17ok Q E)))

@[reducible] noncomputable def l08_RegexValid_q8 (Q : QT) (E : ET) : Exit → Tau → Heap → Prop := (xthen (l08_RegexValid_18_M Q E) (l08_RegexValid_q1 Q E))

@[reducible] noncomputable def l08_RegexValid_p15 : Code := sA l08_RegexValid_p1

def l08_RegexValid_21 (Q : QT) (E : ET) (x0 : OA) (l0 : Nat) (c0 : Nat) (x1 : OA) (l1 : Nat) (c1 : Nat) (x2 : Int) (x3 : Int) (H : Heap) : Prop :=
 Does Pr 27 #[] H (fun v110 H111 =>
 ∃ b112 : Bool, v110 = (.bool b112) ∧ sel (!b112)
 (Q (.bool false) H111)
 (l08_RegexValid_18 Q E x0 l0 c0 x1 l1 c1 x2 x3 H111)) E

def l08_RegexValid_21_M (Q : QT) (E : ET) (τ : Tau) (H : Heap) : Prop := mSl (τ 0) fun x0 l0 c0 => mSl (τ 1) fun x1 l1 c1 => mI .i64 (τ 2) fun x2 => mI .i64 (τ 3) fun x3 => l08_RegexValid_21 Q E x0 l0 c0 x1 l1 c1 x2 x3 H

theorem l08_RegexValid_22ok (Q : QT) (E : ET) (τ : Tau) (H : Heap) (h : l08_RegexValid_21_M Q E τ H) : vc Pr l08_RegexValid_p15 τ (l08_RegexValid_q8 Q E) E H :=
  vSl (i := 0) h (fun x0 l0 c0 h => vSl (i := 1) h (fun x1 l1 c1 h => vI (i := 2) h (fun x2 h => vI (i := 3) h (fun x3 h => (conv (by kernel_rfl) h)))))

theorem l08_RegexValid_23ok (Q : QT) (E : ET) (τ : Tau) (H : Heap) (h : l08_RegexValid_21_M Q E τ H) : vc Pr l08_RegexValid_p1 τ (l08_RegexValid_q1 Q E) E H :=
  (conv (B := vc Pr l08_RegexValid_p1 τ (l08_RegexValid_q1 Q E) E H) (by kernel_rfl) (vc_seq (K := (l08_RegexValid_18_M Q E)) (l08_RegexValid_22ok Q E τ H h) (l08_RegexValid_20ok Q E)))

@[reducible] noncomputable def l08_RegexValid_q9 (Q : QT) (E : ET) : Exit → Tau → Heap → Prop := (xthen (l08_RegexValid_21_M Q E) (l08_RegexValid_q1 Q E))

@[reducible] noncomputable def l08_RegexValid_p16 : Code := sA l08_RegexValid_p0

def l08_RegexValid (Q : QT) (E : ET) (a0 : OA) (a0l : Nat) (a0c : Nat) (a1 : OA) (a1l : Nat) (a1c : Nat) (a2 : Int) (a3 : Int) (H : Heap) : Prop :=
 l08_RegexValid_21 Q E a0 a0l a0c a1 a1l a1c a2 a3 H

theorem l08_RegexValid_fn (a0 : OA) (a0l : Nat) (a0c : Nat) (a1 : OA) (a1l : Nat) (a1c : Nat) (a2 : Int) (a3 : Int) (Q : QT) (E : ET) (H : Heap) (h : l08_RegexValid Q E a0 a0l a0c a1 a1l a1c a2 a3 H)   : Does Pr 12 #[(.slice a0 a0l a0c), (.slice a1 a1l a1c), (.int .i64 a2), (.int .i64 a3)] H Q E :=
  Fn_of_vc (fn := Try.f12) (c := l08_RegexValid_p0) (args := [(.slice a0 a0l a0c), (.slice a1 a1l a1c), (.int .i64 a2), (.int .i64 a3)]) mixed (by kernel_rfl) (by kernel_rfl) (by kernel_rfl) (by kernel_rfl) (by kernel_rfl) ((conv (B := vc Pr l08_RegexValid_p0 (argT [(.slice a0 a0l a0c), (.slice a1 a1l a1c), (.int .i64 a2), (.int .i64 a3)]) (l08_RegexValid_q1 Q E) E H) (by kernel_rfl) (vc_seq (K := (l08_RegexValid_21_M Q E)) (conv (B := vc Pr l08_RegexValid_p16 (argT [(.slice a0 a0l a0c), (.slice a1 a1l a1c), (.int .i64 a2), (.int .i64 a3)]) (l08_RegexValid_q9 Q E) E H) (by kernel_rfl) h) (l08_RegexValid_23ok Q E))))

/-! jobmux/jobmuxlaw08.sane -/
@[reducible] noncomputable def l08_sane_q1 (Q : QT) (E : ET) : Exit → Tau → Heap → Prop := (retQ Pr (Try.f27).results.toList Q)

@[reducible] noncomputable def l08_sane_p0 : Code := bodyOf Try.f27

def l08_sane (Q : QT) (E : ET)  (H : Heap) : Prop :=
 Does Pr 28 #[(.string ⟨[97, 124, 98, 42].toArray⟩)] H (fun v1 H2 =>
 ∃ (p3 : OA) (l4 c5 : Nat), ∃ n6 : Int, v1 = (.tuple #[(.slice p3 l4 c5), (.int .i64 n6)]) ∧ Does Pr 28 #[(.string ⟨[42, 97].toArray⟩)] H2 (fun v7 H8 =>
 ∃ (p9 : OA) (l10 c11 : Nat), ∃ n12 : Int, v7 = (.tuple #[(.slice p9 l10 c11), (.int .i64 n12)]) ∧ Does Pr 28 #[(.string ⟨[40, 97].toArray⟩)] H8 (fun v13 H14 =>
 ∃ (p15 : OA) (l16 c17 : Nat), ∃ n18 : Int, v13 = (.tuple #[(.slice p15 l16 c17), (.int .i64 n18)]) ∧ Does Pr 28 #[(.string ⟨[91, 98, 45, 97, 93].toArray⟩)] H14 (fun v19 H20 =>
 ∃ (p21 : OA) (l22 c23 : Nat), ∃ n24 : Int, v19 = (.tuple #[(.slice p21 l22 c23), (.int .i64 n24)]) ∧ sel ((n6 : Int) == 0)
 (sel ((((l4 : Nat) : Int) : Int) == 4)
 ((0 ≤ (2 : Int) ∧ (2 : Int) < ((l4 : Nat) : Int)) ∧ ptr p3 fun q25 =>
 ldI .i64 (Addr.add q25 14) H20 fun n26 =>
 sel ((n26 : Int) == 5)
 ((0 ≤ (2 : Int) ∧ (2 : Int) < ((l4 : Nat) : Int)) ∧ ptr p3 fun q27 =>
 ldI .i64 (Addr.add (Addr.add q27 14) 1) H20 fun n28 =>
 sel ((n28 : Int) == 1)
 ((0 ≤ (3 : Int) ∧ (3 : Int) < ((l4 : Nat) : Int)) ∧ ptr p3 fun q29 =>
 ldI .i64 (Addr.add (Addr.add q29 21) 2) H20 fun n30 =>
 sel ((n30 : Int) == 2)
 (sel ((n12 : Int) == 81)
 (sel ((n18 : Int) == 83)
 (Q (.bool ((n24 : Int) == 80)) H20)
 (Q (.bool false) H20))
 (Q (.bool false) H20))
 (Q (.bool false) H20))
 (Q (.bool false) H20))
 (Q (.bool false) H20))
 (Q (.bool false) H20))
 (Q (.bool false) H20)) E) E) E) E

theorem l08_sane_fn  (Q : QT) (E : ET) (H : Heap) (h : l08_sane Q E  H)   : Does Pr 27 #[] H Q E :=
  Fn_of_vc (fn := Try.f27) (c := l08_sane_p0) (args := []) mixed (by kernel_rfl) (by kernel_rfl) (by kernel_rfl) (by kernel_rfl) (by kernel_rfl) ((conv (B := vc Pr l08_sane_p0 (argT []) (l08_sane_q1 Q E) E H) (by kernel_rfl) h))

/-! jobmux/jobmuxlaw08.text -/
@[reducible] noncomputable def l08_text_q1 (Q : QT) (E : ET) : Exit → Tau → Heap → Prop := (retQ Pr (Try.f30).results.toList Q)

@[reducible] noncomputable def l08_text_p0 : Code := bodyOf Try.f30

@[reducible] noncomputable def l08_text_p1 : Code := sB l08_text_p0

@[reducible] noncomputable def l08_text_p2 : Code := sB l08_text_p1

@[reducible] noncomputable def l08_text_p3 : Code := sB l08_text_p2

@[reducible] noncomputable def l08_text_p4 : Code := sB l08_text_p3

def l08_text_1 (Q : QT) (E : ET) (x4 : OA) (l4 : Nat) (c4 : Nat) (H : Heap) : Prop :=
 ∃ bs16 : List UInt8, bs16.length = l4 ∧ Heap.rdS H x4 (bs16.map byteV) ∧ Q (.string (⟨bs16.toArray⟩ : ByteArray)) H

def l08_text_1_M (Q : QT) (E : ET) (τ : Tau) (H : Heap) : Prop := mSl (τ 4) fun x4 l4 c4 => l08_text_1 Q E x4 l4 c4 H

theorem l08_text_2ok (Q : QT) (E : ET) (τ : Tau) (H : Heap) (h : l08_text_1_M Q E τ H) : vc Pr l08_text_p4 τ (l08_text_q1 Q E) E H :=
  vSl (i := 4) h (fun x4 l4 c4 h => (conv (by kernel_rfl) h))

@[reducible] noncomputable def l08_text_q2 (Q : QT) (E : ET) : Exit → Tau → Heap → Prop := (xthen (l08_text_1_M Q E) (l08_text_q1 Q E))

@[reducible] noncomputable def l08_text_p5 : Code := sA l08_text_p3

@[reducible] noncomputable def l08_text_q3 (Q : QT) (E : ET) : Exit → Tau → Heap → Prop := (xblock 0 (l08_text_q2 Q E))

@[reducible] noncomputable def l08_text_p6 : Code := sI l08_text_p5

@[reducible] noncomputable def l08_text_q4 (nx17 : Option Addr → Nat → Nat → HP) (Q : QT) (E : ET) : Exit → Tau → Heap → Prop := (xthen (fun τ H => mSl (τ 4) fun x4' l4' c4' => nx17 x4' l4' c4' H) (l08_text_q3 Q E))

@[reducible] noncomputable def l08_text_p7 : Code := sI l08_text_p6

@[reducible] noncomputable def l08_text_p8 : Code := sB l08_text_p7

def l08_text_3 (nx17 : Option Addr → Nat → Nat → HP) (Q : QT) (E : ET) (x3 : OA) (x4 : OA) (l4 : Nat) (c4 : Nat) (H : Heap) : Prop :=
 Does Pr 49 #[(.pointer x3), (.int .i64 21)] H (fun v21 H22 =>
 ∃ n23 : Int, v21 = (.int .i64 n23) ∧ (0 ≤ (n23 : Int) ∧ (n23 : Int) < ((ByteArray.size ⟨[97, 98, 40, 41, 124, 42, 43, 63, 46, 94, 36, 91, 93, 94, 45, 92, 100, 119, 110, 120, 40].toArray⟩ : Nat) : Int)) ∧ nw (.cells #[(.int .u8 (sAt ⟨[97, 98, 40, 41, 124, 42, 43, 63, 46, 94, 36, 91, 93, 94, 45, 92, 100, 119, 110, 120, 40].toArray⟩ n23))] 5 (0, 0)) H22 fun i24 H25 =>
 app Pr 24 x4 l4 c4 (.slice (some ⟨i24, 0, none⟩) 1 1) H25 fun p26 l27 c28 H29 =>
 nx17 p26 l27 c28 H29) E

def l08_text_3_M (nx17 : Option Addr → Nat → Nat → HP) (Q : QT) (E : ET) (τ : Tau) (H : Heap) : Prop := mP (τ 3) fun x3 => mSl (τ 4) fun x4 l4 c4 => l08_text_3 nx17 Q E x3 x4 l4 c4 H

theorem l08_text_4ok (nx17 : Option Addr → Nat → Nat → HP) (Q : QT) (E : ET) (τ : Tau) (H : Heap) (h : l08_text_3_M nx17 Q E τ H) : vc Pr l08_text_p8 τ (l08_text_q4 nx17 Q E) E H :=
  vP (i := 3) h (fun x3 h => vSl (i := 4) h (fun x4 l4 c4 h => (conv (by kernel_rfl) h)))

@[reducible] noncomputable def l08_text_q5 (nx17 : Option Addr → Nat → Nat → HP) (Q : QT) (E : ET) : Exit → Tau → Heap → Prop := (xthen (l08_text_3_M nx17 Q E) (l08_text_q4 nx17 Q E))

@[reducible] noncomputable def l08_text_p9 : Code := sA l08_text_p7

@[reducible] noncomputable def l08_text_p10 : Code := sB l08_text_p9

def l08_text_5 (nx17 : Option Addr → Nat → Nat → HP) (Q : QT) (E : ET) (x3 : OA) (x4 : OA) (l4 : Nat) (c4 : Nat) (x13 : Bool) (H : Heap) : Prop :=
 sel x13
 (l08_text_3 nx17 Q E x3 x4 l4 c4 H)
 (l08_text_1 Q E x4 l4 c4 H)

def l08_text_5_M (nx17 : Option Addr → Nat → Nat → HP) (Q : QT) (E : ET) (τ : Tau) (H : Heap) : Prop := mP (τ 3) fun x3 => mSl (τ 4) fun x4 l4 c4 => mB (τ 13) fun x13 => l08_text_5 nx17 Q E x3 x4 l4 c4 x13 H

theorem l08_text_6ok (nx17 : Option Addr → Nat → Nat → HP) (Q : QT) (E : ET) (τ : Tau) (H : Heap) (h : l08_text_5_M nx17 Q E τ H) : vc Pr l08_text_p10 τ (l08_text_q5 nx17 Q E) E H :=
  vP (i := 3) h (fun x3 h => vSl (i := 4) h (fun x4 l4 c4 h => vB (i := 13) h (fun x13 h => (conv (by kernel_rfl) h))))

@[reducible] noncomputable def l08_text_q6 (nx17 : Option Addr → Nat → Nat → HP) (Q : QT) (E : ET) : Exit → Tau → Heap → Prop := (xthen (l08_text_5_M nx17 Q E) (l08_text_q5 nx17 Q E))

@[reducible] noncomputable def l08_text_p11 : Code := sA l08_text_p9

def l08_text_7 (nx17 : Option Addr → Nat → Nat → HP) (Q : QT) (E : ET) (x3 : OA) (x4 : OA) (l4 : Nat) (c4 : Nat) (H : Heap) : Prop :=
 Does Pr 61 #[(.pointer x3)] H (fun v33 H34 =>
 ∃ b35 : Bool, v33 = (.bool b35) ∧ sel b35
 (l08_text_5 nx17 Q E x3 x4 l4 c4 (decide ((((l4 : Nat) : Int) : Int) < 40)) H34)
 (l08_text_5 nx17 Q E x3 x4 l4 c4 false H34)) E

def l08_text_7_M (nx17 : Option Addr → Nat → Nat → HP) (Q : QT) (E : ET) (τ : Tau) (H : Heap) : Prop := mP (τ 3) fun x3 => mSl (τ 4) fun x4 l4 c4 => l08_text_7 nx17 Q E x3 x4 l4 c4 H

theorem l08_text_8ok (nx17 : Option Addr → Nat → Nat → HP) (Q : QT) (E : ET) (τ : Tau) (H : Heap) (h : l08_text_7_M nx17 Q E τ H) : vc Pr l08_text_p11 τ (l08_text_q6 nx17 Q E) E H :=
  vP (i := 3) h (fun x3 h => vSl (i := 4) h (fun x4 l4 c4 h => (conv (by kernel_rfl) h)))

theorem l08_text_9ok (nx17 : Option Addr → Nat → Nat → HP) (Q : QT) (E : ET) (τ : Tau) (H : Heap) (h : l08_text_7_M nx17 Q E τ H) : vc Pr l08_text_p9 τ (l08_text_q5 nx17 Q E) E H :=
  (conv (B := vc Pr l08_text_p9 τ (l08_text_q5 nx17 Q E) E H) (by kernel_rfl) (vc_seq (K := (l08_text_5_M nx17 Q E)) (l08_text_8ok nx17 Q E τ H h) (l08_text_6ok nx17 Q E)))

theorem l08_text_10ok (nx17 : Option Addr → Nat → Nat → HP) (Q : QT) (E : ET) (τ : Tau) (H : Heap) (h : l08_text_7_M nx17 Q E τ H) : vc Pr l08_text_p7 τ (l08_text_q4 nx17 Q E) E H :=
  (conv (B := vc Pr l08_text_p7 τ (l08_text_q4 nx17 Q E) E H) (by kernel_rfl) (vc_seq (K := (l08_text_3_M nx17 Q E)) (l08_text_9ok nx17 Q E τ H h) (l08_text_4ok nx17 Q E)))

def l08_text_11 (Q : QT) (E : ET) (x3 : OA) (x4 : OA) (l4 : Nat) (c4 : Nat) (H : Heap) : Prop :=
 ∃ (I : Option Addr → Nat → Nat → HP) (μ : Option Addr → Nat → Nat → Heap → Nat), I x4 l4 c4 H ∧ ∀ (x4 : OA) (l4 : Nat) (c4 : Nat) (H : Heap), I x4 l4 c4 H →
 l08_text_7 (fun x4' l4' c4' H1 => I x4' l4' c4' H1 ∧ μ x4' l4' c4' H1 < μ x4 l4 c4 H) Q E x3 x4 l4 c4 H

def l08_text_11_M (Q : QT) (E : ET) (τ : Tau) (H : Heap) : Prop := mP (τ 3) fun x3 => mSl (τ 4) fun x4 l4 c4 => l08_text_11 Q E x3 x4 l4 c4 H

theorem l08_text_12ok (Q : QT) (E : ET) (τ : Tau) (H : Heap) (h : l08_text_11_M Q E τ H) : vc Pr l08_text_p6 τ (l08_text_q3 Q E) E H :=
  vP (i := 3) h (fun x3 h => vSl (i := 4) h (fun x4 l4 c4 h => match h with | ⟨I, μ, h0, hr⟩ => (conv (B := vc Pr l08_text_p6 (Tau.upd (Tau.upd τ 3 (.pointer x3)) 4 (.slice x4 l4 c4)) (l08_text_q3 Q E) E H) (by kernel_rfl) (vc_loop (c := sI l08_text_p6) (τ := (Tau.upd (Tau.upd τ 3 (.pointer x3)) 4 (.slice x4 l4 c4))) [3] (fun τ H => mSl (τ 4) fun x4' l4' c4' => I x4' l4' c4' H) (fun τ H => μ (gL1 (τ 4)) (gL2 (τ 4)) (gL3 (τ 4)) H) (by kernel_rfl) h0 (fun τ1 H1 hf hI => fix_elim (τ := τ1) (i := 3) (v := (.pointer x3)) (G := fun τ => vc Pr (sI l08_text_p6) τ (xthen (fun τ2 H2 => (mSl (τ2 4) fun x4' l4' c4' => I x4' l4' c4' H2) ∧ μ (gL1 (τ2 4)) (gL2 (τ2 4)) (gL3 (τ2 4)) H2 < μ (gL1 (τ 4)) (gL2 (τ 4)) (gL3 (τ 4)) H1) (l08_text_q3 Q E)) E H1) (hf 3 (by simp)) (mSl_elim (i := 4) (G := fun τ => vc Pr (sI l08_text_p6) τ (xthen (fun τ2 H2 => (mSl (τ2 4) fun x4' l4' c4' => I x4' l4' c4' H2) ∧ μ (gL1 (τ2 4)) (gL2 (τ2 4)) (gL3 (τ2 4)) H2 < μ (gL1 (τ 4)) (gL2 (τ 4)) (gL3 (τ 4)) H1) (l08_text_q3 Q E)) E H1) hI (fun x4r l4r c4r h => (conv (B := vc Pr (sI l08_text_p6) (Tau.upd (Tau.upd τ1 3 (.pointer x3)) 4 (.slice x4r l4r c4r)) (xthen (fun τ2 H2 => (mSl (τ2 4) fun x4' l4' c4' => I x4' l4' c4' H2) ∧ μ (gL1 (τ2 4)) (gL2 (τ2 4)) (gL3 (τ2 4)) H2 < μ (gL1 ((Tau.upd (Tau.upd τ1 3 (.pointer x3)) 4 (.slice x4r l4r c4r)) 4)) (gL2 ((Tau.upd (Tau.upd τ1 3 (.pointer x3)) 4 (.slice x4r l4r c4r)) 4)) (gL3 ((Tau.upd (Tau.upd τ1 3 (.pointer x3)) 4 (.slice x4r l4r c4r)) 4)) H1) (l08_text_q3 Q E)) E H1) (by kernel_rfl) (vc_xthen (l08_text_10ok (fun x4' l4' c4' H2 => I x4' l4' c4' H2 ∧ μ x4' l4' c4' H2 < μ x4r l4r c4r H1) Q E (Tau.upd (Tau.upd τ1 3 (.pointer x3)) 4 (.slice x4r l4r c4r)) H1 (conv (B := l08_text_7_M (fun x4' l4' c4' H2 => I x4' l4' c4' H2 ∧ μ x4' l4' c4' H2 < μ x4r l4r c4r H1) Q E (Tau.upd (Tau.upd τ1 3 (.pointer x3)) 4 (.slice x4r l4r c4r)) H1) (by kernel_rfl) (hr x4r l4r c4r H1 h))) (fun τ2 H2 hk => mSl_elim (i := 4) (G := fun τ => (mSl (τ 4) fun x4' l4' c4' => I x4' l4' c4' H2) ∧ μ (gL1 (τ 4)) (gL2 (τ 4)) (gL3 (τ 4)) H2 < μ x4r l4r c4r H1) hk (fun x4' l4' c4' h => h)))))))))))

theorem l08_text_13ok (Q : QT) (E : ET) (τ : Tau) (H : Heap) (h : l08_text_11_M Q E τ H) : vc Pr l08_text_p5 τ (l08_text_q2 Q E) E H :=
  (conv (B := vc Pr l08_text_p5 τ (l08_text_q2 Q E) E H) (by kernel_rfl) (l08_text_12ok Q E τ H h))

theorem l08_text_14ok (Q : QT) (E : ET) (τ : Tau) (H : Heap) (h : l08_text_11_M Q E τ H) : vc Pr l08_text_p3 τ (l08_text_q1 Q E) E H :=
  (conv (B := vc Pr l08_text_p3 τ (l08_text_q1 Q E) E H) (by kernel_rfl) (vc_seq (K := (l08_text_1_M Q E)) (l08_text_13ok Q E τ H h) (l08_text_2ok Q E)))

@[reducible] noncomputable def l08_text_q7 (Q : QT) (E : ET) : Exit → Tau → Heap → Prop := (xthen (l08_text_11_M Q E) (l08_text_q1 Q E))

@[reducible] noncomputable def l08_text_p12 : Code := sA l08_text_p2

def l08_text_15 (Q : QT) (E : ET) (x3 : OA) (H : Heap) : Prop :=
 l08_text_11 Q E x3 none 0 0 H

def l08_text_15_M (Q : QT) (E : ET) (τ : Tau) (H : Heap) : Prop := mP (τ 3) fun x3 => l08_text_15 Q E x3 H

theorem l08_text_16ok (Q : QT) (E : ET) (τ : Tau) (H : Heap) (h : l08_text_15_M Q E τ H) : vc Pr l08_text_p12 τ (l08_text_q7 Q E) E H :=
  vP (i := 3) h (fun x3 h => (conv (by kernel_rfl) h))

theorem l08_text_17ok (Q : QT) (E : ET) (τ : Tau) (H : Heap) (h : l08_text_15_M Q E τ H) : vc Pr l08_text_p2 τ (l08_text_q1 Q E) E H :=
  (conv (B := vc Pr l08_text_p2 τ (l08_text_q1 Q E) E H) (by kernel_rfl) (vc_seq (K := (l08_text_11_M Q E)) (l08_text_16ok Q E τ H h) (l08_text_14ok Q E)))

@[reducible] noncomputable def l08_text_q8 (Q : QT) (E : ET) : Exit → Tau → Heap → Prop := (xthen (l08_text_15_M Q E) (l08_text_q1 Q E))

@[reducible] noncomputable def l08_text_p13 : Code := sA l08_text_p1

def l08_text_18 (Q : QT) (E : ET) (x0 : OA) (l0 : Nat) (c0 : Nat) (H : Heap) : Prop :=
 Does Pr 47 #[(.slice x0 l0 c0)] H (fun v36 H37 =>
 ∃ p38 : Option Addr, v36 = (.pointer p38) ∧ l08_text_15 Q E p38 H37) E

def l08_text_18_M (Q : QT) (E : ET) (τ : Tau) (H : Heap) : Prop := mSl (τ 0) fun x0 l0 c0 => l08_text_18 Q E x0 l0 c0 H

theorem l08_text_19ok (Q : QT) (E : ET) (τ : Tau) (H : Heap) (h : l08_text_18_M Q E τ H) : vc Pr l08_text_p13 τ (l08_text_q8 Q E) E H :=
  vSl (i := 0) h (fun x0 l0 c0 h => (conv (by kernel_rfl) h))

theorem l08_text_20ok (Q : QT) (E : ET) (τ : Tau) (H : Heap) (h : l08_text_18_M Q E τ H) : vc Pr l08_text_p1 τ (l08_text_q1 Q E) E H :=
  (conv (B := vc Pr l08_text_p1 τ (l08_text_q1 Q E) E H) (by kernel_rfl) (vc_seq (K := (l08_text_15_M Q E)) (l08_text_19ok Q E τ H h) (l08_text_17ok Q E)))

@[reducible] noncomputable def l08_text_q9 (Q : QT) (E : ET) : Exit → Tau → Heap → Prop := (xthen (l08_text_18_M Q E) (l08_text_q1 Q E))

@[reducible] noncomputable def l08_text_p14 : Code := sA l08_text_p0

def l08_text (Q : QT) (E : ET) (a0 : OA) (a0l : Nat) (a0c : Nat) (H : Heap) : Prop :=
 l08_text_18 Q E a0 a0l a0c H

theorem l08_text_fn (a0 : OA) (a0l : Nat) (a0c : Nat) (Q : QT) (E : ET) (H : Heap) (h : l08_text Q E a0 a0l a0c H)   : Does Pr 30 #[(.slice a0 a0l a0c)] H Q E :=
  Fn_of_vc (fn := Try.f30) (c := l08_text_p0) (args := [(.slice a0 a0l a0c)]) mixed (by kernel_rfl) (by kernel_rfl) (by kernel_rfl) (by kernel_rfl) (by kernel_rfl) ((conv (B := vc Pr l08_text_p0 (argT [(.slice a0 a0l a0c)]) (l08_text_q1 Q E) E H) (by kernel_rfl) (vc_seq (K := (l08_text_18_M Q E)) (conv (B := vc Pr l08_text_p14 (argT [(.slice a0 a0l a0c)]) (l08_text_q9 Q E) E H) (by kernel_rfl) h) (l08_text_20ok Q E))))

end Go.Proofs.Ytaffcoiomggpfaa
