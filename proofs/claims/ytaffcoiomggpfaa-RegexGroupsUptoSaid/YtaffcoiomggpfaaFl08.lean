import Derived.Test.YtaffcoiomggpfaaVPr
/- Printed by gen.py: the Go functions of package l08 over a heap view, and that the model does so. -/
namespace Go.Proofs.Ytaffcoiomggpfaa
open Go.V
set_option linter.unusedVariables false
set_option maxRecDepth 100000
/-! jobmux/jobmuxlaw08.RegexGroups -/
@[reducible] noncomputable def l08_RegexGroups_q1 (Q : QT) (E : ET) : Exit → Tau → Heap → Prop := (retQ Pr (Try.f8).results.toList Q)

@[reducible] noncomputable def l08_RegexGroups_p0 : Code := bodyOf Try.f8

@[reducible] noncomputable def l08_RegexGroups_p1 : Code := sB l08_RegexGroups_p0

@[reducible] noncomputable def l08_RegexGroups_p2 : Code := sB l08_RegexGroups_p1

@[reducible] noncomputable def l08_RegexGroups_p3 : Code := sB l08_RegexGroups_p2

@[reducible] noncomputable def l08_RegexGroups_p4 : Code := sB l08_RegexGroups_p3

@[reducible] noncomputable def l08_RegexGroups_p5 : Code := sB l08_RegexGroups_p4

@[reducible] noncomputable def l08_RegexGroups_p6 : Code := sB l08_RegexGroups_p5

@[reducible] noncomputable def l08_RegexGroups_p7 : Code := sB l08_RegexGroups_p6

@[reducible] noncomputable def l08_RegexGroups_p8 : Code := sB l08_RegexGroups_p7

@[reducible] noncomputable def l08_RegexGroups_p9 : Code := sB l08_RegexGroups_p8

def l08_RegexGroups_1 (Q : QT) (E : ET) (x1 : Int) (x10 : OA) (l10 : Nat) (c10 : Nat) (x11 : Int) (x12 : OA) (l12 : Nat) (c12 : Nat) (x13 : Int) (x14 : Bool) (H : Heap) : Prop :=
 sel (!x14)
 (Q (.bool true) H)
 (sel ((x13 : Int) == 0)
 (sel ((((l12 : Nat) : Int) : Int) == 1)
 (sel ((x11 : Int) != 0)
 (Q (.bool true) H)
 (sel ((((l10 : Nat) : Int) : Int) != 1)
 (Q (.bool true) H)
 ((0 ≤ (0 : Int) ∧ (0 : Int) < ((l10 : Nat) : Int)) ∧ ptr x10 fun q40 =>
 ldI .i64 q40 H fun n41 =>
 sel ((n41 : Int) != 2)
 (Q (.bool true) H)
 (Does Pr 29 #[(.slice x10 l10 c10), (.slice x12 l12 c12)] H (fun v42 H43 =>
 ∃ b44 : Bool, v42 = (.bool b44) ∧ sel b44
 (Q (.bool true) H43)
 (Q (.bool ((x1 : Int) == 46)) H43)) E))))
 (Q (.bool false) H))
 (Q (.bool false) H))

def l08_RegexGroups_1_M (Q : QT) (E : ET) (τ : Tau) (H : Heap) : Prop := mI .u8 (τ 1) fun x1 => mSl (τ 10) fun x10 l10 c10 => mI .i64 (τ 11) fun x11 => mSl (τ 12) fun x12 l12 c12 => mI .i64 (τ 13) fun x13 => mB (τ 14) fun x14 => l08_RegexGroups_1 Q E x1 x10 l10 c10 x11 x12 l12 c12 x13 x14 H

theorem l08_RegexGroups_2ok (Q : QT) (E : ET) (τ : Tau) (H : Heap) (h : l08_RegexGroups_1_M Q E τ H) : vc Pr l08_RegexGroups_p9 τ (l08_RegexGroups_q1 Q E) E H :=
  vI (i := 1) h (fun x1 h => vSl (i := 10) h (fun x10 l10 c10 h => vI (i := 11) h (fun x11 h => vSl (i := 12) h (fun x12 l12 c12 h => vI (i := 13) h (fun x13 h => vB (i := 14) h (fun x14 h => (conv (by kernel_rfl) h)))))))

@[reducible] noncomputable def l08_RegexGroups_q2 (Q : QT) (E : ET) : Exit → Tau → Heap → Prop := (xthen (l08_RegexGroups_1_M Q E) (l08_RegexGroups_q1 Q E))

@[reducible] noncomputable def l08_RegexGroups_p10 : Code := sA l08_RegexGroups_p8

def l08_RegexGroups_3 (Q : QT) (E : ET) (x1 : Int) (x10 : OA) (l10 : Nat) (c10 : Nat) (x11 : Int) (x12 : OA) (l12 : Nat) (c12 : Nat) (x13 : Int) (H : Heap) : Prop :=
 sel (decide ((x1 : Int) ≥ 33))
 (sel (decide ((x1 : Int) ≤ 47))
 (l08_RegexGroups_1 Q E x1 x10 l10 c10 x11 x12 l12 c12 x13 true H)
 (sel (decide ((x1 : Int) ≥ 58))
 (sel (decide ((x1 : Int) ≤ 64))
 (l08_RegexGroups_1 Q E x1 x10 l10 c10 x11 x12 l12 c12 x13 true H)
 (sel (decide ((x1 : Int) ≥ 91))
 (sel (decide ((x1 : Int) ≤ 96))
 (l08_RegexGroups_1 Q E x1 x10 l10 c10 x11 x12 l12 c12 x13 true H)
 (sel (decide ((x1 : Int) ≥ 123))
 (l08_RegexGroups_1 Q E x1 x10 l10 c10 x11 x12 l12 c12 x13 (decide ((x1 : Int) ≤ 126)) H)
 (l08_RegexGroups_1 Q E x1 x10 l10 c10 x11 x12 l12 c12 x13 false H)))
 (sel (decide ((x1 : Int) ≥ 123))
 (l08_RegexGroups_1 Q E x1 x10 l10 c10 x11 x12 l12 c12 x13 (decide ((x1 : Int) ≤ 126)) H)
 (l08_RegexGroups_1 Q E x1 x10 l10 c10 x11 x12 l12 c12 x13 false H))))
 (sel (decide ((x1 : Int) ≥ 91))
 (sel (decide ((x1 : Int) ≤ 96))
 (l08_RegexGroups_1 Q E x1 x10 l10 c10 x11 x12 l12 c12 x13 true H)
 (sel (decide ((x1 : Int) ≥ 123))
 (l08_RegexGroups_1 Q E x1 x10 l10 c10 x11 x12 l12 c12 x13 (decide ((x1 : Int) ≤ 126)) H)
 (l08_RegexGroups_1 Q E x1 x10 l10 c10 x11 x12 l12 c12 x13 false H)))
 (sel (decide ((x1 : Int) ≥ 123))
 (l08_RegexGroups_1 Q E x1 x10 l10 c10 x11 x12 l12 c12 x13 (decide ((x1 : Int) ≤ 126)) H)
 (l08_RegexGroups_1 Q E x1 x10 l10 c10 x11 x12 l12 c12 x13 false H)))))
 (sel (decide ((x1 : Int) ≥ 58))
 (sel (decide ((x1 : Int) ≤ 64))
 (l08_RegexGroups_1 Q E x1 x10 l10 c10 x11 x12 l12 c12 x13 true H)
 (sel (decide ((x1 : Int) ≥ 91))
 (sel (decide ((x1 : Int) ≤ 96))
 (l08_RegexGroups_1 Q E x1 x10 l10 c10 x11 x12 l12 c12 x13 true H)
 (sel (decide ((x1 : Int) ≥ 123))
 (l08_RegexGroups_1 Q E x1 x10 l10 c10 x11 x12 l12 c12 x13 (decide ((x1 : Int) ≤ 126)) H)
 (l08_RegexGroups_1 Q E x1 x10 l10 c10 x11 x12 l12 c12 x13 false H)))
 (sel (decide ((x1 : Int) ≥ 123))
 (l08_RegexGroups_1 Q E x1 x10 l10 c10 x11 x12 l12 c12 x13 (decide ((x1 : Int) ≤ 126)) H)
 (l08_RegexGroups_1 Q E x1 x10 l10 c10 x11 x12 l12 c12 x13 false H))))
 (sel (decide ((x1 : Int) ≥ 91))
 (sel (decide ((x1 : Int) ≤ 96))
 (l08_RegexGroups_1 Q E x1 x10 l10 c10 x11 x12 l12 c12 x13 true H)
 (sel (decide ((x1 : Int) ≥ 123))
 (l08_RegexGroups_1 Q E x1 x10 l10 c10 x11 x12 l12 c12 x13 (decide ((x1 : Int) ≤ 126)) H)
 (l08_RegexGroups_1 Q E x1 x10 l10 c10 x11 x12 l12 c12 x13 false H)))
 (sel (decide ((x1 : Int) ≥ 123))
 (l08_RegexGroups_1 Q E x1 x10 l10 c10 x11 x12 l12 c12 x13 (decide ((x1 : Int) ≤ 126)) H)
 (l08_RegexGroups_1 Q E x1 x10 l10 c10 x11 x12 l12 c12 x13 false H))))

def l08_RegexGroups_3_M (Q : QT) (E : ET) (τ : Tau) (H : Heap) : Prop := mI .u8 (τ 1) fun x1 => mSl (τ 10) fun x10 l10 c10 => mI .i64 (τ 11) fun x11 => mSl (τ 12) fun x12 l12 c12 => mI .i64 (τ 13) fun x13 => l08_RegexGroups_3 Q E x1 x10 l10 c10 x11 x12 l12 c12 x13 H

theorem l08_RegexGroups_4ok (Q : QT) (E : ET) (τ : Tau) (H : Heap) (h : l08_RegexGroups_3_M Q E τ H) : vc Pr l08_RegexGroups_p10 τ (l08_RegexGroups_q2 Q E) E H :=
  vI (i := 1) h (fun x1 h => vSl (i := 10) h (fun x10 l10 c10 h => vI (i := 11) h (fun x11 h => vSl (i := 12) h (fun x12 l12 c12 h => vI (i := 13) h (fun x13 h => (conv (by kernel_rfl) h))))))

theorem l08_RegexGroups_5ok (Q : QT) (E : ET) (τ : Tau) (H : Heap) (h : l08_RegexGroups_3_M Q E τ H) : vc Pr l08_RegexGroups_p8 τ (l08_RegexGroups_q1 Q E) E H :=
  (conv (B := vc Pr l08_RegexGroups_p8 τ (l08_RegexGroups_q1 Q E) E H) (by kernel_rfl) (vc_seq (K := (l08_RegexGroups_1_M Q E)) (l08_RegexGroups_4ok Q E τ H h) (l08_RegexGroups_2ok Q E)))

@[reducible] noncomputable def l08_RegexGroups_q3 (Q : QT) (E : ET) : Exit → Tau → Heap → Prop := (xthen (l08_RegexGroups_3_M Q E) (l08_RegexGroups_q1 Q E))

@[reducible] noncomputable def l08_RegexGroups_p11 : Code := sA l08_RegexGroups_p7

def l08_RegexGroups_6 (Q : QT) (E : ET) (x1 : Int) (x10 : OA) (l10 : Nat) (c10 : Nat) (x11 : Int) (H : Heap) : Prop :=
 nw (.cells #[(.int .u8 92), (.int .u8 x1)] 5 (0, 0)) H fun i45 H46 =>
 ∃ bs47 : List UInt8, bs47.length = 2 ∧ Heap.rdS H46 (some ⟨i45, 0, none⟩) (bs47.map byteV) ∧ Does Pr 28 #[(.string (⟨bs47.toArray⟩ : ByteArray))] H46 (fun v48 H49 =>
 ∃ (p50 : OA) (l51 c52 : Nat), ∃ n53 : Int, v48 = (.tuple #[(.slice p50 l51 c52), (.int .i64 n53)]) ∧ l08_RegexGroups_3 Q E x1 x10 l10 c10 x11 p50 l51 c52 n53 H49) E

def l08_RegexGroups_6_M (Q : QT) (E : ET) (τ : Tau) (H : Heap) : Prop := mI .u8 (τ 1) fun x1 => mSl (τ 10) fun x10 l10 c10 => mI .i64 (τ 11) fun x11 => l08_RegexGroups_6 Q E x1 x10 l10 c10 x11 H

theorem l08_RegexGroups_7ok (Q : QT) (E : ET) (τ : Tau) (H : Heap) (h : l08_RegexGroups_6_M Q E τ H) : vc Pr l08_RegexGroups_p11 τ (l08_RegexGroups_q3 Q E) E H :=
  vI (i := 1) h (fun x1 h => vSl (i := 10) h (fun x10 l10 c10 h => vI (i := 11) h (fun x11 h => (conv (by kernel_rfl) h))))

theorem l08_RegexGroups_8ok (Q : QT) (E : ET) (τ : Tau) (H : Heap) (h : l08_RegexGroups_6_M Q E τ H) : vc Pr l08_RegexGroups_p7 τ (l08_RegexGroups_q1 Q E) E H :=
  (conv (B := vc Pr l08_RegexGroups_p7 τ (l08_RegexGroups_q1 Q E) E H) (by kernel_rfl) (vc_seq (K := (l08_RegexGroups_3_M Q E)) (l08_RegexGroups_7ok Q E τ H h) (l08_RegexGroups_5ok Q E)))

@[reducible] noncomputable def l08_RegexGroups_q4 (Q : QT) (E : ET) : Exit → Tau → Heap → Prop := (xthen (l08_RegexGroups_6_M Q E) (l08_RegexGroups_q1 Q E))

@[reducible] noncomputable def l08_RegexGroups_p12 : Code := sA l08_RegexGroups_p6

def l08_RegexGroups_9 (Q : QT) (E : ET) (x1 : Int) (H : Heap) : Prop :=
 nw (.cells #[(.int .u8 x1)] 5 (0, 0)) H fun i54 H55 =>
 ∃ bs56 : List UInt8, bs56.length = 1 ∧ Heap.rdS H55 (some ⟨i54, 0, none⟩) (bs56.map byteV) ∧ Does Pr 28 #[(.string (⟨bs56.toArray⟩ : ByteArray))] H55 (fun v57 H58 =>
 ∃ (p59 : OA) (l60 c61 : Nat), ∃ n62 : Int, v57 = (.tuple #[(.slice p59 l60 c61), (.int .i64 n62)]) ∧ l08_RegexGroups_6 Q E x1 p59 l60 c61 n62 H58) E

def l08_RegexGroups_9_M (Q : QT) (E : ET) (τ : Tau) (H : Heap) : Prop := mI .u8 (τ 1) fun x1 => l08_RegexGroups_9 Q E x1 H

theorem l08_RegexGroups_10ok (Q : QT) (E : ET) (τ : Tau) (H : Heap) (h : l08_RegexGroups_9_M Q E τ H) : vc Pr l08_RegexGroups_p12 τ (l08_RegexGroups_q4 Q E) E H :=
  vI (i := 1) h (fun x1 h => (conv (by kernel_rfl) h))

theorem l08_RegexGroups_11ok (Q : QT) (E : ET) (τ : Tau) (H : Heap) (h : l08_RegexGroups_9_M Q E τ H) : vc Pr l08_RegexGroups_p6 τ (l08_RegexGroups_q1 Q E) E H :=
  (conv (B := vc Pr l08_RegexGroups_p6 τ (l08_RegexGroups_q1 Q E) E H) (by kernel_rfl) (vc_seq (K := (l08_RegexGroups_6_M Q E)) (l08_RegexGroups_10ok Q E τ H h) (l08_RegexGroups_8ok Q E)))

@[reducible] noncomputable def l08_RegexGroups_q5 (Q : QT) (E : ET) : Exit → Tau → Heap → Prop := (xthen (l08_RegexGroups_9_M Q E) (l08_RegexGroups_q1 Q E))

@[reducible] noncomputable def l08_RegexGroups_p13 : Code := sA l08_RegexGroups_p5

@[reducible] noncomputable def l08_RegexGroups_p14 : Code := sB l08_RegexGroups_p13

def l08_RegexGroups_12 (Q : QT) (E : ET) (x1 : Int) (x9 : Int) (x42 : Bool) (H : Heap) : Prop :=
 sel x42
 (sel ((x9 : Int) == 84)
 (Q (.bool true) H)
 (Q (.bool ((x9 : Int) == 1)) H))
 (l08_RegexGroups_9 Q E x1 H)

def l08_RegexGroups_12_M (Q : QT) (E : ET) (τ : Tau) (H : Heap) : Prop := mI .u8 (τ 1) fun x1 => mI .i64 (τ 9) fun x9 => mB (τ 42) fun x42 => l08_RegexGroups_12 Q E x1 x9 x42 H

theorem l08_RegexGroups_13ok (Q : QT) (E : ET) (τ : Tau) (H : Heap) (h : l08_RegexGroups_12_M Q E τ H) : vc Pr l08_RegexGroups_p14 τ (l08_RegexGroups_q5 Q E) E H :=
  vI (i := 1) h (fun x1 h => vI (i := 9) h (fun x9 h => vB (i := 42) h (fun x42 h => (conv (by kernel_rfl) h))))

@[reducible] noncomputable def l08_RegexGroups_q6 (Q : QT) (E : ET) : Exit → Tau → Heap → Prop := (xthen (l08_RegexGroups_12_M Q E) (l08_RegexGroups_q5 Q E))

@[reducible] noncomputable def l08_RegexGroups_p15 : Code := sA l08_RegexGroups_p13

def l08_RegexGroups_14 (Q : QT) (E : ET) (x1 : Int) (x6 : OA) (l6 : Nat) (c6 : Nat) (x7 : Int) (x8 : OA) (l8 : Nat) (c8 : Nat) (x9 : Int) (H : Heap) : Prop :=
 sel ((x7 : Int) == 0)
 (sel ((x9 : Int) != 0)
 (l08_RegexGroups_12 Q E x1 x9 true H)
 (Does Pr 29 #[(.slice x6 l6 c6), (.slice x8 l8 c8)] H (fun v66 H67 =>
 ∃ b68 : Bool, v66 = (.bool b68) ∧ l08_RegexGroups_12 Q E x1 x9 (!b68) H67) E))
 (l08_RegexGroups_12 Q E x1 x9 false H)

def l08_RegexGroups_14_M (Q : QT) (E : ET) (τ : Tau) (H : Heap) : Prop := mI .u8 (τ 1) fun x1 => mSl (τ 6) fun x6 l6 c6 => mI .i64 (τ 7) fun x7 => mSl (τ 8) fun x8 l8 c8 => mI .i64 (τ 9) fun x9 => l08_RegexGroups_14 Q E x1 x6 l6 c6 x7 x8 l8 c8 x9 H

theorem l08_RegexGroups_15ok (Q : QT) (E : ET) (τ : Tau) (H : Heap) (h : l08_RegexGroups_14_M Q E τ H) : vc Pr l08_RegexGroups_p15 τ (l08_RegexGroups_q6 Q E) E H :=
  vI (i := 1) h (fun x1 h => vSl (i := 6) h (fun x6 l6 c6 h => vI (i := 7) h (fun x7 h => vSl (i := 8) h (fun x8 l8 c8 h => vI (i := 9) h (fun x9 h => (conv (by kernel_rfl) h))))))

theorem l08_RegexGroups_16ok (Q : QT) (E : ET) (τ : Tau) (H : Heap) (h : l08_RegexGroups_14_M Q E τ H) : vc Pr l08_RegexGroups_p13 τ (l08_RegexGroups_q5 Q E) E H :=
  (conv (B := vc Pr l08_RegexGroups_p13 τ (l08_RegexGroups_q5 Q E) E H) (by kernel_rfl) (vc_seq (K := (l08_RegexGroups_12_M Q E)) (l08_RegexGroups_15ok Q E τ H h) (l08_RegexGroups_13ok Q E)))

theorem l08_RegexGroups_17ok (Q : QT) (E : ET) (τ : Tau) (H : Heap) (h : l08_RegexGroups_14_M Q E τ H) : vc Pr l08_RegexGroups_p5 τ (l08_RegexGroups_q1 Q E) E H :=
  (conv (B := vc Pr l08_RegexGroups_p5 τ (l08_RegexGroups_q1 Q E) E H) (by kernel_rfl) (vc_seq (K := (l08_RegexGroups_9_M Q E)) (l08_RegexGroups_16ok Q E τ H h) (l08_RegexGroups_11ok Q E)))

@[reducible] noncomputable def l08_RegexGroups_q7 (Q : QT) (E : ET) : Exit → Tau → Heap → Prop := (xthen (l08_RegexGroups_14_M Q E) (l08_RegexGroups_q1 Q E))

@[reducible] noncomputable def l08_RegexGroups_p16 : Code := sA l08_RegexGroups_p4

def l08_RegexGroups_18 (Q : QT) (E : ET) (x1 : Int) (x5 : ByteArray) (x6 : OA) (l6 : Nat) (c6 : Nat) (x7 : Int) (H : Heap) : Prop :=
 (((⟨[40].toArray⟩ : ByteArray).size + (x5 : ByteArray).size : Nat) : Int) ≤ 9223372036854775807 ∧ ((((⟨[40].toArray⟩ ++ x5) : ByteArray).size + (⟨[41].toArray⟩ : ByteArray).size : Nat) : Int) ≤ 9223372036854775807 ∧ Does Pr 28 #[(.string ((⟨[40].toArray⟩ ++ x5) ++ ⟨[41].toArray⟩))] H (fun v69 H70 =>
 ∃ (p71 : OA) (l72 c73 : Nat), ∃ n74 : Int, v69 = (.tuple #[(.slice p71 l72 c73), (.int .i64 n74)]) ∧ l08_RegexGroups_14 Q E x1 x6 l6 c6 x7 p71 l72 c73 n74 H70) E

def l08_RegexGroups_18_M (Q : QT) (E : ET) (τ : Tau) (H : Heap) : Prop := mI .u8 (τ 1) fun x1 => mS (τ 5) fun x5 => mSl (τ 6) fun x6 l6 c6 => mI .i64 (τ 7) fun x7 => l08_RegexGroups_18 Q E x1 x5 x6 l6 c6 x7 H

theorem l08_RegexGroups_19ok (Q : QT) (E : ET) (τ : Tau) (H : Heap) (h : l08_RegexGroups_18_M Q E τ H) : vc Pr l08_RegexGroups_p16 τ (l08_RegexGroups_q7 Q E) E H :=
  vI (i := 1) h (fun x1 h => vS (i := 5) h (fun x5 h => vSl (i := 6) h (fun x6 l6 c6 h => vI (i := 7) h (fun x7 h => (conv (by kernel_rfl) h)))))

theorem l08_RegexGroups_20ok (Q : QT) (E : ET) (τ : Tau) (H : Heap) (h : l08_RegexGroups_18_M Q E τ H) : vc Pr l08_RegexGroups_p4 τ (l08_RegexGroups_q1 Q E) E H :=
  (conv (B := vc Pr l08_RegexGroups_p4 τ (l08_RegexGroups_q1 Q E) E H) (by kernel_rfl) (vc_seq (K := (l08_RegexGroups_14_M Q E)) (l08_RegexGroups_19ok Q E τ H h) (l08_RegexGroups_17ok Q E)))

@[reducible] noncomputable def l08_RegexGroups_q8 (Q : QT) (E : ET) : Exit → Tau → Heap → Prop := (xthen (l08_RegexGroups_18_M Q E) (l08_RegexGroups_q1 Q E))

@[reducible] noncomputable def l08_RegexGroups_p17 : Code := sA l08_RegexGroups_p3

def l08_RegexGroups_21 (Q : QT) (E : ET) (x1 : Int) (x5 : ByteArray) (H : Heap) : Prop :=
 Does Pr 28 #[(.string x5)] H (fun v75 H76 =>
 ∃ (p77 : OA) (l78 c79 : Nat), ∃ n80 : Int, v75 = (.tuple #[(.slice p77 l78 c79), (.int .i64 n80)]) ∧ l08_RegexGroups_18 Q E x1 x5 p77 l78 c79 n80 H76) E

def l08_RegexGroups_21_M (Q : QT) (E : ET) (τ : Tau) (H : Heap) : Prop := mI .u8 (τ 1) fun x1 => mS (τ 5) fun x5 => l08_RegexGroups_21 Q E x1 x5 H

theorem l08_RegexGroups_22ok (Q : QT) (E : ET) (τ : Tau) (H : Heap) (h : l08_RegexGroups_21_M Q E τ H) : vc Pr l08_RegexGroups_p17 τ (l08_RegexGroups_q8 Q E) E H :=
  vI (i := 1) h (fun x1 h => vS (i := 5) h (fun x5 h => (conv (by kernel_rfl) h)))

theorem l08_RegexGroups_23ok (Q : QT) (E : ET) (τ : Tau) (H : Heap) (h : l08_RegexGroups_21_M Q E τ H) : vc Pr l08_RegexGroups_p3 τ (l08_RegexGroups_q1 Q E) E H :=
  (conv (B := vc Pr l08_RegexGroups_p3 τ (l08_RegexGroups_q1 Q E) E H) (by kernel_rfl) (vc_seq (K := (l08_RegexGroups_18_M Q E)) (l08_RegexGroups_22ok Q E τ H h) (l08_RegexGroups_20ok Q E)))

@[reducible] noncomputable def l08_RegexGroups_q9 (Q : QT) (E : ET) : Exit → Tau → Heap → Prop := (xthen (l08_RegexGroups_21_M Q E) (l08_RegexGroups_q1 Q E))

@[reducible] noncomputable def l08_RegexGroups_p18 : Code := sA l08_RegexGroups_p2

def l08_RegexGroups_24 (Q : QT) (E : ET) (x0 : OA) (l0 : Nat) (c0 : Nat) (x1 : Int) (H : Heap) : Prop :=
 Does Pr 30 #[(.slice x0 l0 c0)] H (fun v81 H82 =>
 ∃ s83 : ByteArray, v81 = (.string s83) ∧ l08_RegexGroups_21 Q E x1 s83 H82) E

def l08_RegexGroups_24_M (Q : QT) (E : ET) (τ : Tau) (H : Heap) : Prop := mSl (τ 0) fun x0 l0 c0 => mI .u8 (τ 1) fun x1 => l08_RegexGroups_24 Q E x0 l0 c0 x1 H

theorem l08_RegexGroups_25ok (Q : QT) (E : ET) (τ : Tau) (H : Heap) (h : l08_RegexGroups_24_M Q E τ H) : vc Pr l08_RegexGroups_p18 τ (l08_RegexGroups_q9 Q E) E H :=
  vSl (i := 0) h (fun x0 l0 c0 h => vI (i := 1) h (fun x1 h => (conv (by kernel_rfl) h)))

theorem l08_RegexGroups_26ok (Q : QT) (E : ET) (τ : Tau) (H : Heap) (h : l08_RegexGroups_24_M Q E τ H) : vc Pr l08_RegexGroups_p2 τ (l08_RegexGroups_q1 Q E) E H :=
  (conv (B := vc Pr l08_RegexGroups_p2 τ (l08_RegexGroups_q1 Q E) E H) (by kernel_rfl) (vc_seq (K := (l08_RegexGroups_21_M Q E)) (l08_RegexGroups_25ok Q E τ H h) (l08_RegexGroups_23ok Q E)))

@[reducible] noncomputable def l08_RegexGroups_q10 (Q : QT) (E : ET) : Exit → Tau → Heap → Prop := (xthen (l08_RegexGroups_24_M Q E) (l08_RegexGroups_q1 Q E))

@[reducible] noncomputable def l08_RegexGroups_p19 : Code := sA l08_RegexGroups_p1

def l08_RegexGroups_27 (Q : QT) (E : ET) (x0 : OA) (l0 : Nat) (c0 : Nat) (x1 : Int) (H : Heap) : Prop :=
 Does Pr 27 #[] H (fun v84 H85 =>
 ∃ b86 : Bool, v84 = (.bool b86) ∧ sel (!b86)
 (Q (.bool false) H85)
 (l08_RegexGroups_24 Q E x0 l0 c0 x1 H85)) E

def l08_RegexGroups_27_M (Q : QT) (E : ET) (τ : Tau) (H : Heap) : Prop := mSl (τ 0) fun x0 l0 c0 => mI .u8 (τ 1) fun x1 => l08_RegexGroups_27 Q E x0 l0 c0 x1 H

theorem l08_RegexGroups_28ok (Q : QT) (E : ET) (τ : Tau) (H : Heap) (h : l08_RegexGroups_27_M Q E τ H) : vc Pr l08_RegexGroups_p19 τ (l08_RegexGroups_q10 Q E) E H :=
  vSl (i := 0) h (fun x0 l0 c0 h => vI (i := 1) h (fun x1 h => (conv (by kernel_rfl) h)))

theorem l08_RegexGroups_29ok (Q : QT) (E : ET) (τ : Tau) (H : Heap) (h : l08_RegexGroups_27_M Q E τ H) : vc Pr l08_RegexGroups_p1 τ (l08_RegexGroups_q1 Q E) E H :=
  (conv (B := vc Pr l08_RegexGroups_p1 τ (l08_RegexGroups_q1 Q E) E H) (by kernel_rfl) (vc_seq (K := (l08_RegexGroups_24_M Q E)) (l08_RegexGroups_28ok Q E τ H h) (l08_RegexGroups_26ok Q E)))

@[reducible] noncomputable def l08_RegexGroups_q11 (Q : QT) (E : ET) : Exit → Tau → Heap → Prop := (xthen (l08_RegexGroups_27_M Q E) (l08_RegexGroups_q1 Q E))

@[reducible] noncomputable def l08_RegexGroups_p20 : Code := sA l08_RegexGroups_p0

def l08_RegexGroups (Q : QT) (E : ET) (a0 : OA) (a0l : Nat) (a0c : Nat) (a1 : Int) (H : Heap) : Prop :=
 l08_RegexGroups_27 Q E a0 a0l a0c a1 H

theorem l08_RegexGroups_fn (a0 : OA) (a0l : Nat) (a0c : Nat) (a1 : Int) (Q : QT) (E : ET) (H : Heap) (h : l08_RegexGroups Q E a0 a0l a0c a1 H)   : Does Pr 8 #[(.slice a0 a0l a0c), (.int .u8 a1)] H Q E :=
  Fn_of_vc (fn := Try.f8) (c := l08_RegexGroups_p0) (args := [(.slice a0 a0l a0c), (.int .u8 a1)]) mixed (by kernel_rfl) (by kernel_rfl) (by kernel_rfl) (by kernel_rfl) (by kernel_rfl) ((conv (B := vc Pr l08_RegexGroups_p0 (argT [(.slice a0 a0l a0c), (.int .u8 a1)]) (l08_RegexGroups_q1 Q E) E H) (by kernel_rfl) (vc_seq (K := (l08_RegexGroups_27_M Q E)) (conv (B := vc Pr l08_RegexGroups_p20 (argT [(.slice a0 a0l a0c), (.int .u8 a1)]) (l08_RegexGroups_q11 Q E) E H) (by kernel_rfl) h) (l08_RegexGroups_29ok Q E))))

/-! jobmux/jobmuxlaw08.sane -/
@[reducible] noncomputable def l08_sane_q1 (Q : QT) (E : ET) : Exit → Tau → Heap → Prop := (retQ Pr (Try.f27).results.toList Q)

@[reducible] noncomputable def l08_sane_p0 : Code := bodyOf Try.f27

def l08_sane (Q : QT) (E : ET)  (H : Heap) : Prop :=
 Does Pr 28 #[(.string ⟨[97, 124, 98, 42].toArray⟩)] H (fun v1 H2 =>
 ∃ (p3 : OA) (l4 c5 : Nat), ∃ n6 : Int, v1 = (.tuple #[(.slice p3 l4 c5), (.int .i64 n6)]) ∧ Does Pr 28 #[(.string ⟨[42, 97].toArray⟩)] H2 (fun v7 H8 =>
 ∃ (p9 : OA) (l10 c11 : Nat), ∃ n12 : Int, v7 = (.tuple #[(.slice p9 l10 c11), (.int .i64 n12)]) ∧ Does Pr 28 #[(.string ⟨[40, 97].toArray⟩)] H8 (fun v13 H14 =>
 ∃ (p15 : OA) (l16 c17 : Nat), ∃ n18 : Int, v13 = (.tuple #[(.slice p15 l16 c17), (.int .i64 n18)]) ∧ Does Pr 28 #[(.string ⟨[91, 98, 45, 97, 93].toArray⟩)] H14 (fun v19 H20 =>
 ∃ (p21 : OA) (l22 c23 : Nat), ∃ n24 : Int, v19 = (.tuple #[(.slice p21 l22 c23), (.int .i64 n24)]) ∧ sel ((n6 : Int) == 0)
 (sel ((((l4 : Nat) : Int) : Int) == 4)
 ((0 ≤ (2 : Int) ∧ (2 : Int) < ((l4 : Nat) : Int)) ∧ ptr p3 fun q25 =>
 ldI .i64 (Addr.add q25 14) H20 fun n26 =>
 sel ((n26 : Int) == 5)
 ((0 ≤ (2 : Int) ∧ (2 : Int) < ((l4 : Nat) : Int)) ∧ ptr p3 fun q27 =>
 ldI .i64 (Addr.add (Addr.add q27 14) 1) H20 fun n28 =>
 sel ((n28 : Int) == 1)
 ((0 ≤ (3 : Int) ∧ (3 : Int) < ((l4 : Nat) : Int)) ∧ ptr p3 fun q29 =>
 ldI .i64 (Addr.add (Addr.add q29 21) 2) H20 fun n30 =>
 sel ((n30 : Int) == 2)
 (sel ((n12 : Int) == 81)
 (sel ((n18 : Int) == 83)
 (Q (.bool ((n24 : Int) == 80)) H20)
 (Q (.bool false) H20))
 (Q (.bool false) H20))
 (Q (.bool false) H20))
 (Q (.bool false) H20))
 (Q (.bool false) H20))
 (Q (.bool false) H20))
 (Q (.bool false) H20)) E) E) E) E

theorem l08_sane_fn  (Q : QT) (E : ET) (H : Heap) (h : l08_sane Q E  H)   : Does Pr 27 #[] H Q E :=
  Fn_of_vc (fn := Try.f27) (c := l08_sane_p0) (args := []) mixed (by kernel_rfl) (by kernel_rfl) (by kernel_rfl) (by kernel_rfl) (by kernel_rfl) ((conv (B := vc Pr l08_sane_p0 (argT []) (l08_sane_q1 Q E) E H) (by kernel_rfl) h))

/-! jobmux/jobmuxlaw08.text -/
@[reducible] noncomputable def l08_text_q1 (Q : QT) (E : ET) : Exit → Tau → Heap → Prop := (retQ Pr (Try.f30).results.toList Q)

@[reducible] noncomputable def l08_text_p0 : Code := bodyOf Try.f30

@[reducible] noncomputable def l08_text_p1 : Code := sB l08_text_p0

@[reducible] noncomputable def l08_text_p2 : Code := sB l08_text_p1

@[reducible] noncomputable def l08_text_p3 : Code := sB l08_text_p2

@[reducible] noncomputable def l08_text_p4 : Code := sB l08_text_p3

def l08_text_1 (Q : QT) (E : ET) (x4 : OA) (l4 : Nat) (c4 : Nat) (H : Heap) : Prop :=
 ∃ bs16 : List UInt8, bs16.length = l4 ∧ Heap.rdS H x4 (bs16.map byteV) ∧ Q (.string (⟨bs16.toArray⟩ : ByteArray)) H

def l08_text_1_M (Q : QT) (E : ET) (τ : Tau) (H : Heap) : Prop := mSl (τ 4) fun x4 l4 c4 => l08_text_1 Q E x4 l4 c4 H

theorem l08_text_2ok (Q : QT) (E : ET) (τ : Tau) (H : Heap) (h : l08_text_1_M Q E τ H) : vc Pr l08_text_p4 τ (l08_text_q1 Q E) E H :=
  vSl (i := 4) h (fun x4 l4 c4 h => (conv (by kernel_rfl) h))

@[reducible] noncomputable def l08_text_q2 (Q : QT) (E : ET) : Exit → Tau → Heap → Prop := (xthen (l08_text_1_M Q E) (l08_text_q1 Q E))

@[reducible] noncomputable def l08_text_p5 : Code := sA l08_text_p3

@[reducible] noncomputable def l08_text_q3 (Q : QT) (E : ET) : Exit → Tau → Heap → Prop := (xblock 0 (l08_text_q2 Q E))

@[reducible] noncomputable def l08_text_p6 : Code := sI l08_text_p5

@[reducible] noncomputable def l08_text_q4 (nx17 : Option Addr → Nat → Nat → HP) (Q : QT) (E : ET) : Exit → Tau → Heap → Prop := (xthen (fun τ H => mSl (τ 4) fun x4' l4' c4' => nx17 x4' l4' c4' H) (l08_text_q3 Q E))

@[reducible] noncomputable def l08_text_p7 : Code := sI l08_text_p6

@[reducible] noncomputable def l08_text_p8 : Code := sB l08_text_p7

def l08_text_3 (nx17 : Option Addr → Nat → Nat → HP) (Q : QT) (E : ET) (x3 : OA) (x4 : OA) (l4 : Nat) (c4 : Nat) (H : Heap) : Prop :=
 Does Pr 49 #[(.pointer x3), (.int .i64 21)] H (fun v21 H22 =>
 ∃ n23 : Int, v21 = (.int .i64 n23) ∧ (0 ≤ (n23 : Int) ∧ (n23 : Int) < ((ByteArray.size ⟨[97, 98, 40, 41, 124, 42, 43, 63, 46, 94, 36, 91, 93, 94, 45, 92, 100, 119, 110, 120, 40].toArray⟩ : Nat) : Int)) ∧ nw (.cells #[(.int .u8 (sAt ⟨[97, 98, 40, 41, 124, 42, 43, 63, 46, 94, 36, 91, 93, 94, 45, 92, 100, 119, 110, 120, 40].toArray⟩ n23))] 5 (0, 0)) H22 fun i24 H25 =>
 app Pr 24 x4 l4 c4 (.slice (some ⟨i24, 0, none⟩) 1 1) H25 fun p26 l27 c28 H29 =>
 nx17 p26 l27 c28 H29) E

def l08_text_3_M (nx17 : Option Addr → Nat → Nat → HP) (Q : QT) (E : ET) (τ : Tau) (H : Heap) : Prop := mP (τ 3) fun x3 => mSl (τ 4) fun x4 l4 c4 => l08_text_3 nx17 Q E x3 x4 l4 c4 H

theorem l08_text_4ok (nx17 : Option Addr → Nat → Nat → HP) (Q : QT) (E : ET) (τ : Tau) (H : Heap) (h : l08_text_3_M nx17 Q E τ H) : vc Pr l08_text_p8 τ (l08_text_q4 nx17 Q E) E H :=
  vP (i := 3) h (fun x3 h => vSl (i := 4) h (fun x4 l4 c4 h => (conv (by kernel_rfl) h)))

@[reducible] noncomputable def l08_text_q5 (nx17 : Option Addr → Nat → Nat → HP) (Q : QT) (E : ET) : Exit → Tau → Heap → Prop := (xthen (l08_text_3_M nx17 Q E) (l08_text_q4 nx17 Q E))

@[reducible] noncomputable def l08_text_p9 : Code := sA l08_text_p7

@[reducible] noncomputable def l08_text_p10 : Code := sB l08_text_p9

def l08_text_5 (nx17 : Option Addr → Nat → Nat → HP) (Q : QT) (E : ET) (x3 : OA) (x4 : OA) (l4 : Nat) (c4 : Nat) (x13 : Bool) (H : Heap) : Prop :=
 sel x13
 (l08_text_3 nx17 Q E x3 x4 l4 c4 H)
 (l08_text_1 Q E x4 l4 c4 H)

def l08_text_5_M (nx17 : Option Addr → Nat → Nat → HP) (Q : QT) (E : ET) (τ : Tau) (H : Heap) : Prop := mP (τ 3) fun x3 => mSl (τ 4) fun x4 l4 c4 => mB (τ 13) fun x13 => l08_text_5 nx17 Q E x3 x4 l4 c4 x13 H

theorem l08_text_6ok (nx17 : Option Addr → Nat → Nat → HP) (Q : QT) (E : ET) (τ : Tau) (H : Heap) (h : l08_text_5_M nx17 Q E τ H) : vc Pr l08_text_p10 τ (l08_text_q5 nx17 Q E) E H :=
  vP (i := 3) h (fun x3 h => vSl (i := 4) h (fun x4 l4 c4 h => vB (i := 13) h (fun x13 h => (conv (by kernel_rfl) h))))

@[reducible] noncomputable def l08_text_q6 (nx17 : Option Addr → Nat → Nat → HP) (Q : QT) (E : ET) : Exit → Tau → Heap → Prop := (xthen (l08_text_5_M nx17 Q E) (l08_text_q5 nx17 Q E))

@[reducible] noncomputable def l08_text_p11 : Code := sA l08_text_p9

def l08_text_7 (nx17 : Option Addr → Nat → Nat → HP) (Q : QT) (E : ET) (x3 : OA) (x4 : OA) (l4 : Nat) (c4 : Nat) (H : Heap) : Prop :=
 Does Pr 61 #[(.pointer x3)] H (fun v33 H34 =>
 ∃ b35 : Bool, v33 = (.bool b35) ∧ sel b35
 (l08_text_5 nx17 Q E x3 x4 l4 c4 (decide ((((l4 : Nat) : Int) : Int) < 40)) H34)
 (l08_text_5 nx17 Q E x3 x4 l4 c4 false H34)) E

def l08_text_7_M (nx17 : Option Addr → Nat → Nat → HP) (Q : QT) (E : ET) (τ : Tau) (H : Heap) : Prop := mP (τ 3) fun x3 => mSl (τ 4) fun x4 l4 c4 => l08_text_7 nx17 Q E x3 x4 l4 c4 H

theorem l08_text_8ok (nx17 : Option Addr → Nat → Nat → HP) (Q : QT) (E : ET) (τ : Tau) (H : Heap) (h : l08_text_7_M nx17 Q E τ H) : vc Pr l08_text_p11 τ (l08_text_q6 nx17 Q E) E H :=
  vP (i := 3) h (fun x3 h => vSl (i := 4) h (fun x4 l4 c4 h => (conv (by kernel_rfl) h)))

theorem l08_text_9ok (nx17 : Option Addr → Nat → Nat → HP) (Q : QT) (E : ET) (τ : Tau) (H : Heap) (h : l08_text_7_M nx17 Q E τ H) : vc Pr l08_text_p9 τ (l08_text_q5 nx17 Q E) E H :=
  (conv (B := vc Pr l08_text_p9 τ (l08_text_q5 nx17 Q E) E H) (by kernel_rfl) (vc_seq (K := (l08_text_5_M nx17 Q E)) (l08_text_8ok nx17 Q E τ H h) (l08_text_6ok nx17 Q E)))

theorem l08_text_10ok (nx17 : Option Addr → Nat → Nat → HP) (Q : QT) (E : ET) (τ : Tau) (H : Heap) (h : l08_text_7_M nx17 Q E τ H) : vc Pr l08_text_p7 τ (l08_text_q4 nx17 Q E) E H :=
  (conv (B := vc Pr l08_text_p7 τ (l08_text_q4 nx17 Q E) E H) (by kernel_rfl) (vc_seq (K := (l08_text_3_M nx17 Q E)) (l08_text_9ok nx17 Q E τ H h) (l08_text_4ok nx17 Q E)))

def l08_text_11 (Q : QT) (E : ET) (x3 : OA) (x4 : OA) (l4 : Nat) (c4 : Nat) (H : Heap) : Prop :=
 ∃ (I : Option Addr → Nat → Nat → HP) (μ : Option Addr → Nat → Nat → Heap → Nat), I x4 l4 c4 H ∧ ∀ (x4 : OA) (l4 : Nat) (c4 : Nat) (H : Heap), I x4 l4 c4 H →
 l08_text_7 (fun x4' l4' c4' H1 => I x4' l4' c4' H1 ∧ μ x4' l4' c4' H1 < μ x4 l4 c4 H) Q E x3 x4 l4 c4 H

def l08_text_11_M (Q : QT) (E : ET) (τ : Tau) (H : Heap) : Prop := mP (τ 3) fun x3 => mSl (τ 4) fun x4 l4 c4 => l08_text_11 Q E x3 x4 l4 c4 H

theorem l08_text_12ok (Q : QT) (E : ET) (τ : Tau) (H : Heap) (h : l08_text_11_M Q E τ H) : vc Pr l08_text_p6 τ (l08_text_q3 Q E) E H :=
  vP (i := 3) h (fun x3 h => vSl (i := 4) h (fun x4 l4 c4 h => match h with | ⟨I, μ, h0, hr⟩ => (conv (B := vc Pr l08_text_p6 (Tau.upd (Tau.upd τ 3 (.pointer x3)) 4 (.slice x4 l4 c4)) (l08_text_q3 Q E) E H) (by kernel_rfl) (vc_loop (c := sI l08_text_p6) (τ := (Tau.upd (Tau.upd τ 3 (.pointer x3)) 4 (.slice x4 l4 c4))) [3] (fun τ H => mSl (τ 4) fun x4' l4' c4' => I x4' l4' c4' H) (fun τ H => μ (gL1 (τ 4)) (gL2 (τ 4)) (gL3 (τ 4)) H) (by kernel_rfl) h0 (fun τ1 H1 hf hI => fix_elim (τ := τ1) (i := 3) (v := (.pointer x3)) (G := fun τ => vc Pr (sI l08_text_p6) τ (xthen (fun τ2 H2 => (mSl (τ2 4) fun x4' l4' c4' => I x4' l4' c4' H2) ∧ μ (gL1 (τ2 4)) (gL2 (τ2 4)) (gL3 (τ2 4)) H2 < μ (gL1 (τ 4)) (gL2 (τ 4)) (gL3 (τ 4)) H1) (l08_text_q3 Q E)) E H1) (hf 3 (by simp)) (mSl_elim (i := 4) (G := fun τ => vc Pr (sI l08_text_p6) τ (xthen (fun τ2 H2 => (mSl (τ2 4) fun x4' l4' c4' => I x4' l4' c4' H2) ∧ μ (gL1 (τ2 4)) (gL2 (τ2 4)) (gL3 (τ2 4)) H2 < μ (gL1 (τ 4)) (gL2 (τ 4)) (gL3 (τ 4)) H1) (l08_text_q3 Q E)) E H1) hI (fun x4r l4r c4r h => (conv (B := vc Pr (sI l08_text_p6) (Tau.upd (Tau.upd τ1 3 (.pointer x3)) 4 (.slice x4r l4r c4r)) (xthen (fun τ2 H2 => (mSl (τ2 4) fun x4' l4' c4' => I x4' l4' c4' H2) ∧ μ (gL1 (τ2 4)) (gL2 (τ2 4)) (gL3 (τ2 4)) H2 < μ (gL1 ((Tau.upd (Tau.upd τ1 3 (.pointer x3)) 4 (.slice x4r l4r c4r)) 4)) (gL2 ((Tau.upd (Tau.upd τ1 3 (.pointer x3)) 4 (.slice x4r l4r c4r)) 4)) (gL3 ((Tau.upd (Tau.upd τ1 3 (.pointer x3)) 4 (.slice x4r l4r c4r)) 4)) H1) (l08_text_q3 Q E)) E H1) (by kernel_rfl) (vc_xthen (l08_text_10ok (fun x4' l4' c4' H2 => I x4' l4' c4' H2 ∧ μ x4' l4' c4' H2 < μ x4r l4r c4r H1) Q E (Tau.upd (Tau.upd τ1 3 (.pointer x3)) 4 (.slice x4r l4r c4r)) H1 (conv (B := l08_text_7_M (fun x4' l4' c4' H2 => I x4' l4' c4' H2 ∧ μ x4' l4' c4' H2 < μ x4r l4r c4r H1) Q E (Tau.upd (Tau.upd τ1 3 (.pointer x3)) 4 (.slice x4r l4r c4r)) H1) (by kernel_rfl) (hr x4r l4r c4r H1 h))) (fun τ2 H2 hk => mSl_elim (i := 4) (G := fun τ => (mSl (τ 4) fun x4' l4' c4' => I x4' l4' c4' H2) ∧ μ (gL1 (τ 4)) (gL2 (τ 4)) (gL3 (τ 4)) H2 < μ x4r l4r c4r H1) hk (fun x4' l4' c4' h => h)))))))))))

theorem l08_text_13ok (Q : QT) (E : ET) (τ : Tau) (H : Heap) (h : l08_text_11_M Q E τ H) : vc Pr l08_text_p5 τ (l08_text_q2 Q E) E H :=
  (conv (B := vc Pr l08_text_p5 τ (l08_text_q2 Q E) E H) (by kernel_rfl) (l08_text_12ok Q E τ H h))

theorem l08_text_14ok (Q : QT) (E : ET) (τ : Tau) (H : Heap) (h : l08_text_11_M Q E τ H) : vc Pr l08_text_p3 τ (l08_text_q1 Q E) E H :=
  (conv (B := vc Pr l08_text_p3 τ (l08_text_q1 Q E) E H) (by kernel_rfl) (vc_seq (K := (l08_text_1_M Q E)) (l08_text_13ok Q E τ H h) (l08_text_2ok Q E)))

@[reducible] noncomputable def l08_text_q7 (Q : QT) (E : ET) : Exit → Tau → Heap → Prop := (xthen (l08_text_11_M Q E) (l08_text_q1 Q E))

@[reducible] noncomputable def l08_text_p12 : Code := sA l08_text_p2

def l08_text_15 (Q : QT) (E : ET) (x3 : OA) (H : Heap) : Prop :=
 l08_text_11 Q E x3 none 0 0 H

def l08_text_15_M (Q : QT) (E : ET) (τ : Tau) (H : Heap) : Prop := mP (τ 3) fun x3 => l08_text_15 Q E x3 H

theorem l08_text_16ok (Q : QT) (E : ET) (τ : Tau) (H : Heap) (h : l08_text_15_M Q E τ H) : vc Pr l08_text_p12 τ (l08_text_q7 Q E) E H :=
  vP (i := 3) h (fun x3 h => (conv (by kernel_rfl) h))

theorem l08_text_17ok (Q : QT) (E : ET) (τ : Tau) (H : Heap) (h : l08_text_15_M Q E τ H) : vc Pr l08_text_p2 τ (l08_text_q1 Q E) E H :=
  (conv (B := vc Pr l08_text_p2 τ (l08_text_q1 Q E) E H) (by kernel_rfl) (vc_seq (K := (l08_text_11_M Q E)) (l08_text_16ok Q E τ H h) (l08_text_14ok Q E)))

@[reducible] noncomputable def l08_text_q8 (Q : QT) (E : ET) : Exit → Tau → Heap → Prop := (xthen (l08_text_15_M Q E) (l08_text_q1 Q E))

@[reducible] noncomputable def l08_text_p13 : Code := sA l08_text_p1

def l08_text_18 (Q : QT) (E : ET) (x0 : OA) (l0 : Nat) (c0 : Nat) (H : Heap) : Prop :=
 Does Pr 47 #[(.slice x0 l0 c0)] H (fun v36 H37 =>
 ∃ p38 : Option Addr, v36 = (.pointer p38) ∧ l08_text_15 Q E p38 H37) E

def l08_text_18_M (Q : QT) (E : ET) (τ : Tau) (H : Heap) : Prop := mSl (τ 0) fun x0 l0 c0 => l08_text_18 Q E x0 l0 c0 H

theorem l08_text_19ok (Q : QT) (E : ET) (τ : Tau) (H : Heap) (h : l08_text_18_M Q E τ H) : vc Pr l08_text_p13 τ (l08_text_q8 Q E) E H :=
  vSl (i := 0) h (fun x0 l0 c0 h => (conv (by kernel_rfl) h))

theorem l08_text_20ok (Q : QT) (E : ET) (τ : Tau) (H : Heap) (h : l08_text_18_M Q E τ H) : vc Pr l08_text_p1 τ (l08_text_q1 Q E) E H :=
  (conv (B := vc Pr l08_text_p1 τ (l08_text_q1 Q E) E H) (by kernel_rfl) (vc_seq (K := (l08_text_15_M Q E)) (l08_text_19ok Q E τ H h) (l08_text_17ok Q E)))

@[reducible] noncomputable def l08_text_q9 (Q : QT) (E : ET) : Exit → Tau → Heap → Prop := (xthen (l08_text_18_M Q E) (l08_text_q1 Q E))

@[reducible] noncomputable def l08_text_p14 : Code := sA l08_text_p0

def l08_text (Q : QT) (E : ET) (a0 : OA) (a0l : Nat) (a0c : Nat) (H : Heap) : Prop :=
 l08_text_18 Q E a0 a0l a0c H

theorem l08_text_fn (a0 : OA) (a0l : Nat) (a0c : Nat) (Q : QT) (E : ET) (H : Heap) (h : l08_text Q E a0 a0l a0c H)   : Does Pr 30 #[(.slice a0 a0l a0c)] H Q E :=
  Fn_of_vc (fn := Try.f30) (c := l08_text_p0) (args := [(.slice a0 a0l a0c)]) mixed (by kernel_rfl) (by kernel_rfl) (by kernel_rfl) (by kernel_rfl) (by kernel_rfl) ((conv (B := vc Pr l08_text_p0 (argT [(.slice a0 a0l a0c)]) (l08_text_q1 Q E) E H) (by kernel_rfl) (vc_seq (K := (l08_text_18_M Q E)) (conv (B := vc Pr l08_text_p14 (argT [(.slice a0 a0l a0c)]) (l08_text_q9 Q E) E H) (by kernel_rfl) h) (l08_text_20ok Q E))))

end Go.Proofs.Ytaffcoiomggpfaa
