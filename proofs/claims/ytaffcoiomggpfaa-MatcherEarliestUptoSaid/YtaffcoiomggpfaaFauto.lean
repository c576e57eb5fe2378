import Derived.Test.YtaffcoiomggpfaaVPr
/- Printed by gen.py: the Go functions of package auto over a heap view, and that the model does so. -/
namespace Go.Proofs.Ytaffcoiomggpfaa
open Go.V
set_option linter.unusedVariables false
set_option maxRecDepth 100000
/-! jobmux/auto.Start -/
@[reducible] noncomputable def ux_q1 (Q : QT) (E : ET) : Exit → Tau → Heap → Prop := (retQ Pr (Try.f50).results.toList Q)

@[reducible] noncomputable def ux_p0 : Code := bodyOf Try.f50

def ux (Q : QT) (E : ET) (a0 : OA) (a0l : Nat) (a0c : Nat) (a1 : Bool) (a2 : Bool) (H : Heap) : Prop :=
 (0 ≤ (((a0l : Nat) : Int) : Int) ∧ (((a0l : Nat) : Int) : Int) ≤ ((a0l : Nat) : Int) ∧ (((a0l : Nat) : Int) : Int) ≤ 281474976710656 ∧ ((1 : Nat) : Int) * ((a0l : Nat) : Int) ≤ 281474976710656) ∧ nw (.cells (rep (((a0l : Nat) : Int) : Int).toNat [(.bool false)]).toArray 4 (0, 0)) H fun i1 H2 =>
 (0 ≤ (((a0l : Nat) : Int) : Int) ∧ (((a0l : Nat) : Int) : Int) ≤ ((a0l : Nat) : Int) ∧ (((a0l : Nat) : Int) : Int) ≤ 281474976710656 ∧ ((1 : Nat) : Int) * ((a0l : Nat) : Int) ≤ 281474976710656) ∧ nw (.cells (rep (((a0l : Nat) : Int) : Int).toNat [(.bool false)]).toArray 4 (0, 0)) H2 fun i3 H4 =>
 nw (.cells #[(.slice a0 a0l a0c), (.slice none 0 0), (.slice (some ⟨i1, 0, none⟩) (((a0l : Nat) : Int) : Int).toNat (((a0l : Nat) : Int) : Int).toNat), (.slice none 0 0), (.slice (some ⟨i3, 0, none⟩) (((a0l : Nat) : Int) : Int).toNat (((a0l : Nat) : Int) : Int).toNat), (.bool a1), (.bool a2), (.int .i64 0), (.int .i64 (-1))] 127 (0, 0)) H4 fun i5 H6 =>
 Does Pr 80 #[(.pointer (some ⟨i5, 1, none⟩)), (.int .i64 0)] H6 (fun v7 H8 =>
 Does Pr 81 #[(.pointer (some ⟨i5, 0, none⟩)), (.bool false)] H8 (fun v9 H10 =>
 ∃ b11 : Bool, v9 = (.bool b11) ∧ Q (.pointer (some ⟨i5, 0, none⟩)) H10) E) E

theorem ux_fn (a0 : OA) (a0l : Nat) (a0c : Nat) (a1 : Bool) (a2 : Bool) (Q : QT) (E : ET) (H : Heap) (h : ux Q E a0 a0l a0c a1 a2 H)   : Does Pr 50 #[(.slice a0 a0l a0c), (.bool a1), (.bool a2)] H Q E :=
  Fn_of_vc (fn := Try.f50) (c := ux_p0) (args := [(.slice a0 a0l a0c), (.bool a1), (.bool a2)]) mixed (by kernel_rfl) (by kernel_rfl) (by kernel_rfl) (by kernel_rfl) (by kernel_rfl) ((conv (B := vc Pr ux_p0 (argT [(.slice a0 a0l a0c), (.bool a1), (.bool a2)]) (ux_q1 Q E) E H) (by kernel_rfl) h))

/-! jobmux/auto.Build -/
@[reducible] noncomputable def uy_q1 (Q : QT) (E : ET) : Exit → Tau → Heap → Prop := (retQ Pr (Try.f51).results.toList Q)

@[reducible] noncomputable def uy_p0 : Code := bodyOf Try.f51

def uy (Q : QT) (E : ET) (a0 : OA) (a0l : Nat) (a0c : Nat) (H : Heap) : Prop :=
 nw (.cells #[(.slice a0 a0l a0c), (.slice none 0 0)] 132 (0, 0)) H fun i1 H2 =>
 Does Pr 82 #[(.pointer (some ⟨i1, 0, none⟩)), (.agg #[(.int .i64 2), (.int .i64 0), (.int .i64 0), (.int .u64 0), (.int .u64 0), (.int .u64 0), (.int .u64 0)])] H2 (fun v3 H4 =>
 ∃ n5 : Int, v3 = (.int .i64 n5) ∧ Does Pr 82 #[(.pointer (some ⟨i1, 0, none⟩)), (.agg #[(.int .i64 5), (.int .i64 0), (.int .i64 0), (.int .u64 0), (.int .u64 0), (.int .u64 0), (.int .u64 0)])] H4 (fun v6 H7 =>
 ∃ n8 : Int, v6 = (.int .i64 n8) ∧ Does Pr 83 #[(.pointer (some ⟨i1, 0, none⟩)), (.int .i64 (IntKind.wrap .i64 (((a0l : Nat) : Int) - 1))), (.int .i64 n8)] H7 (fun v9 H10 =>
 ∃ n11 : Int, v9 = (.int .i64 n11) ∧ ldSl ⟨i1, 1, none⟩ H10 fun p12 l13 c14 =>
 ldSl ⟨i1, 1, none⟩ H10 fun p15 l16 c17 =>
 (0 ≤ (0 : Int) ∧ (0 : Int) < ((l13 : Nat) : Int)) ∧ ptr p12 fun q18 =>
 wr (Addr.add q18 1) [(.int .i64 n11)] H10 fun H19 =>
 (0 ≤ (0 : Int) ∧ (0 : Int) < ((l16 : Nat) : Int)) ∧ ptr p15 fun q20 =>
 wr (Addr.add q20 2) [(.int .i64 n11)] H19 fun H21 =>
 ldSl ⟨i1, 1, none⟩ H21 fun p22 l23 c24 =>
 Q (.slice p22 l23 c24) H21) E) E) E

theorem uy_fn (a0 : OA) (a0l : Nat) (a0c : Nat) (Q : QT) (E : ET) (H : Heap) (h : uy Q E a0 a0l a0c H)   : Does Pr 51 #[(.slice a0 a0l a0c)] H Q E :=
  Fn_of_vc (fn := Try.f51) (c := uy_p0) (args := [(.slice a0 a0l a0c)]) mixed (by kernel_rfl) (by kernel_rfl) (by kernel_rfl) (by kernel_rfl) (by kernel_rfl) ((conv (B := vc Pr uy_p0 (argT [(.slice a0 a0l a0c)]) (uy_q1 Q E) E H) (by kernel_rfl) h))

/-! (*jobmux/auto.Machine).Feed -/
@[reducible] noncomputable def uz_q1 (Q : QT) (E : ET) : Exit → Tau → Heap → Prop := (retQ Pr (Try.f52).results.toList Q)

@[reducible] noncomputable def uz_p0 : Code := bodyOf Try.f52

@[reducible] noncomputable def uz_p1 : Code := sB uz_p0

@[reducible] noncomputable def uz_p2 : Code := sB uz_p1

def uz_1 (Q : QT) (E : ET) (x0 : OA) (H : Heap) : Prop :=
 Does Pr 79 #[(.pointer x0)] H (fun v15 H16 =>
 ∃ b17 : Bool, v15 = (.bool b17) ∧ Q (.bool b17) H16) E

def uz_1_M (Q : QT) (E : ET) (τ : Tau) (H : Heap) : Prop := mP (τ 0) fun x0 => uz_1 Q E x0 H

theorem uz_2ok (Q : QT) (E : ET) (τ : Tau) (H : Heap) (h : uz_1_M Q E τ H) : vc Pr uz_p2 τ (uz_q1 Q E) E H :=
  vP (i := 0) h (fun x0 h => (conv (by kernel_rfl) h))

@[reducible] noncomputable def uz_q2 (Q : QT) (E : ET) : Exit → Tau → Heap → Prop := (xthen (uz_1_M Q E) (uz_q1 Q E))

@[reducible] noncomputable def uz_p3 : Code := sA uz_p1

@[reducible] noncomputable def uz_p4 : Code := sB uz_p3

@[reducible] noncomputable def uz_q3 (Q : QT) (E : ET) : Exit → Tau → Heap → Prop := (xblock 0 (uz_q2 Q E))

@[reducible] noncomputable def uz_p5 : Code := sI uz_p4

@[reducible] noncomputable def uz_q4 (nx18 : Int → HP) (Q : QT) (E : ET) : Exit → Tau → Heap → Prop := (xthen (fun τ H => mI .i64 (τ 9) fun x9' => nx18 x9' H) (uz_q3 Q E))

@[reducible] noncomputable def uz_p6 : Code := sI uz_p5

@[reducible] noncomputable def uz_p7 : Code := sB uz_p6

@[reducible] noncomputable def uz_p8 : Code := sB uz_p7

@[reducible] noncomputable def uz_p9 : Code := sB uz_p8

def uz_3 (nx18 : Int → HP) (Q : QT) (E : ET) (x0 : OA) (x7 : OA) (l7 : Nat) (c7 : Nat) (x8 : Int) (x9 : Int) (H : Heap) : Prop :=
 nx18 (IntKind.wrap .i64 (x9 + 1)) H

def uz_3_M (nx18 : Int → HP) (Q : QT) (E : ET) (τ : Tau) (H : Heap) : Prop := mP (τ 0) fun x0 => mSl (τ 7) fun x7 l7 c7 => mI .i64 (τ 8) fun x8 => mI .i64 (τ 9) fun x9 => uz_3 nx18 Q E x0 x7 l7 c7 x8 x9 H

theorem uz_4ok (nx18 : Int → HP) (Q : QT) (E : ET) (τ : Tau) (H : Heap) (h : uz_3_M nx18 Q E τ H) : vc Pr uz_p9 τ (uz_q4 nx18 Q E) E H :=
  vP (i := 0) h (fun x0 h => vSl (i := 7) h (fun x7 l7 c7 h => vI (i := 8) h (fun x8 h => vI (i := 9) h (fun x9 h => (conv (by kernel_rfl) h)))))

@[reducible] noncomputable def uz_q5 (nx18 : Int → HP) (Q : QT) (E : ET) : Exit → Tau → Heap → Prop := (xthen (uz_3_M nx18 Q E) (uz_q4 nx18 Q E))

@[reducible] noncomputable def uz_p10 : Code := sA uz_p8

@[reducible] noncomputable def uz_q6 (nx18 : Int → HP) (Q : QT) (E : ET) : Exit → Tau → Heap → Prop := (xblock 1 (uz_q5 nx18 Q E))

@[reducible] noncomputable def uz_p11 : Code := sI uz_p10

@[reducible] noncomputable def uz_p12 : Code := sB uz_p11

@[reducible] noncomputable def uz_p13 : Code := sB uz_p12

@[reducible] noncomputable def uz_p14 : Code := sB uz_p13

def uz_5 (nx18 : Int → HP) (Q : QT) (E : ET) (x0 : OA) (x6 : Int) (x7 : OA) (l7 : Nat) (c7 : Nat) (x8 : Int) (x9 : Int) (H : Heap) : Prop :=
 Does Pr 59 #[(.pointer x0), (.int .u8 x6)] H (fun v45 H46 =>
 uz_3 nx18 Q E x0 x7 l7 c7 x8 x9 H46) E

def uz_5_M (nx18 : Int → HP) (Q : QT) (E : ET) (τ : Tau) (H : Heap) : Prop := mP (τ 0) fun x0 => mI .u8 (τ 6) fun x6 => mSl (τ 7) fun x7 l7 c7 => mI .i64 (τ 8) fun x8 => mI .i64 (τ 9) fun x9 => uz_5 nx18 Q E x0 x6 x7 l7 c7 x8 x9 H

theorem uz_6ok (nx18 : Int → HP) (Q : QT) (E : ET) (τ : Tau) (H : Heap) (h : uz_5_M nx18 Q E τ H) : vc Pr uz_p14 τ (uz_q6 nx18 Q E) E H :=
  vP (i := 0) h (fun x0 h => vI (i := 6) h (fun x6 h => vSl (i := 7) h (fun x7 l7 c7 h => vI (i := 8) h (fun x8 h => vI (i := 9) h (fun x9 h => (conv (by kernel_rfl) h))))))

@[reducible] noncomputable def uz_q7 (nx18 : Int → HP) (Q : QT) (E : ET) : Exit → Tau → Heap → Prop := (xthen (uz_5_M nx18 Q E) (uz_q6 nx18 Q E))

@[reducible] noncomputable def uz_p15 : Code := sA uz_p13

@[reducible] noncomputable def uz_p16 : Code := sB uz_p15

def uz_7 (nx18 : Int → HP) (Q : QT) (E : ET) (x0 : OA) (x6 : Int) (x7 : OA) (l7 : Nat) (c7 : Nat) (x8 : Int) (x9 : Int) (x20 : Bool) (H : Heap) : Prop :=
 sel x20
 (ptr x0 fun q50 =>
 ldI .i64 (Addr.add q50 7) H fun n51 =>
 ptr x0 fun q52 =>
 wr (Addr.add q52 8) [(.int .i64 (IntKind.wrap .i64 (n51 + 1)))] H fun H53 =>
 uz_1 Q E x0 H53)
 (uz_5 nx18 Q E x0 x6 x7 l7 c7 x8 x9 H)

def uz_7_M (nx18 : Int → HP) (Q : QT) (E : ET) (τ : Tau) (H : Heap) : Prop := mP (τ 0) fun x0 => mI .u8 (τ 6) fun x6 => mSl (τ 7) fun x7 l7 c7 => mI .i64 (τ 8) fun x8 => mI .i64 (τ 9) fun x9 => mB (τ 20) fun x20 => uz_7 nx18 Q E x0 x6 x7 l7 c7 x8 x9 x20 H

theorem uz_8ok (nx18 : Int → HP) (Q : QT) (E : ET) (τ : Tau) (H : Heap) (h : uz_7_M nx18 Q E τ H) : vc Pr uz_p16 τ (uz_q7 nx18 Q E) E H :=
  vP (i := 0) h (fun x0 h => vI (i := 6) h (fun x6 h => vSl (i := 7) h (fun x7 l7 c7 h => vI (i := 8) h (fun x8 h => vI (i := 9) h (fun x9 h => vB (i := 20) h (fun x20 h => (conv (by kernel_rfl) h)))))))

@[reducible] noncomputable def uz_q8 (nx18 : Int → HP) (Q : QT) (E : ET) : Exit → Tau → Heap → Prop := (xthen (uz_7_M nx18 Q E) (uz_q7 nx18 Q E))

@[reducible] noncomputable def uz_p17 : Code := sA uz_p15

def uz_9 (nx18 : Int → HP) (Q : QT) (E : ET) (x0 : OA) (x6 : Int) (x7 : OA) (l7 : Nat) (c7 : Nat) (x8 : Int) (x9 : Int) (H : Heap) : Prop :=
 sel ((x6 : Int) == 10)
 (Does Pr 81 #[(.pointer x0), (.bool true)] H (fun v54 H55 =>
 ∃ b56 : Bool, v54 = (.bool b56) ∧ uz_7 nx18 Q E x0 x6 x7 l7 c7 x8 x9 b56 H55) E)
 (uz_7 nx18 Q E x0 x6 x7 l7 c7 x8 x9 false H)

def uz_9_M (nx18 : Int → HP) (Q : QT) (E : ET) (τ : Tau) (H : Heap) : Prop := mP (τ 0) fun x0 => mI .u8 (τ 6) fun x6 => mSl (τ 7) fun x7 l7 c7 => mI .i64 (τ 8) fun x8 => mI .i64 (τ 9) fun x9 => uz_9 nx18 Q E x0 x6 x7 l7 c7 x8 x9 H

theorem uz_10ok (nx18 : Int → HP) (Q : QT) (E : ET) (τ : Tau) (H : Heap) (h : uz_9_M nx18 Q E τ H) : vc Pr uz_p17 τ (uz_q8 nx18 Q E) E H :=
  vP (i := 0) h (fun x0 h => vI (i := 6) h (fun x6 h => vSl (i := 7) h (fun x7 l7 c7 h => vI (i := 8) h (fun x8 h => vI (i := 9) h (fun x9 h => (conv (by kernel_rfl) h))))))

theorem uz_11ok (nx18 : Int → HP) (Q : QT) (E : ET) (τ : Tau) (H : Heap) (h : uz_9_M nx18 Q E τ H) : vc Pr uz_p15 τ (uz_q7 nx18 Q E) E H :=
  (conv (B := vc Pr uz_p15 τ (uz_q7 nx18 Q E) E H) (by kernel_rfl) (vc_seq (K := (uz_7_M nx18 Q E)) (uz_10ok nx18 Q E τ H h) (uz_8ok nx18 Q E)))

theorem uz_12ok (nx18 : Int → HP) (Q : QT) (E : ET) (τ : Tau) (H : Heap) (h : uz_9_M nx18 Q E τ H) : vc Pr uz_p13 τ (uz_q6 nx18 Q E) E H :=
  (conv (B := vc Pr uz_p13 τ (uz_q6 nx18 Q E) E H) (by kernel_rfl) (vc_seq (K := (uz_5_M nx18 Q E)) (uz_11ok nx18 Q E τ H h) (uz_6ok nx18 Q E)))

@[reducible] noncomputable def uz_q9 (nx18 : Int → HP) (Q : QT) (E : ET) : Exit → Tau → Heap → Prop := (xthen (uz_9_M nx18 Q E) (uz_q6 nx18 Q E))

@[reducible] noncomputable def uz_p18 : Code := sA uz_p12

def uz_13 (nx18 : Int → HP) (Q : QT) (E : ET) (x0 : OA) (x6 : Int) (x7 : OA) (l7 : Nat) (c7 : Nat) (x8 : Int) (x9 : Int) (H : Heap) : Prop :=
 Does Pr 79 #[(.pointer x0)] H (fun v57 H58 =>
 ∃ b59 : Bool, v57 = (.bool b59) ∧ sel b59
 (uz_1 Q E x0 H58)
 (uz_9 nx18 Q E x0 x6 x7 l7 c7 x8 x9 H58)) E

def uz_13_M (nx18 : Int → HP) (Q : QT) (E : ET) (τ : Tau) (H : Heap) : Prop := mP (τ 0) fun x0 => mI .u8 (τ 6) fun x6 => mSl (τ 7) fun x7 l7 c7 => mI .i64 (τ 8) fun x8 => mI .i64 (τ 9) fun x9 => uz_13 nx18 Q E x0 x6 x7 l7 c7 x8 x9 H

theorem uz_14ok (nx18 : Int → HP) (Q : QT) (E : ET) (τ : Tau) (H : Heap) (h : uz_13_M nx18 Q E τ H) : vc Pr uz_p18 τ (uz_q9 nx18 Q E) E H :=
  vP (i := 0) h (fun x0 h => vI (i := 6) h (fun x6 h => vSl (i := 7) h (fun x7 l7 c7 h => vI (i := 8) h (fun x8 h => vI (i := 9) h (fun x9 h => (conv (by kernel_rfl) h))))))

theorem uz_15ok (nx18 : Int → HP) (Q : QT) (E : ET) (τ : Tau) (H : Heap) (h : uz_13_M nx18 Q E τ H) : vc Pr uz_p12 τ (uz_q6 nx18 Q E) E H :=
  (conv (B := vc Pr uz_p12 τ (uz_q6 nx18 Q E) E H) (by kernel_rfl) (vc_seq (K := (uz_9_M nx18 Q E)) (uz_14ok nx18 Q E τ H h) (uz_12ok nx18 Q E)))

@[reducible] noncomputable def uz_q10 (nx18 : Int → HP) (Q : QT) (E : ET) : Exit → Tau → Heap → Prop := (xthen (uz_13_M nx18 Q E) (uz_q6 nx18 Q E))

@[reducible] noncomputable def uz_p19 : Code := sA uz_p11

def uz_16 (nx18 : Int → HP) (Q : QT) (E : ET) (x0 : OA) (x7 : OA) (l7 : Nat) (c7 : Nat) (x8 : Int) (x9 : Int) (H : Heap) : Prop :=
 (0 ≤ (x9 : Int) ∧ (x9 : Int) < ((l7 : Nat) : Int)) ∧ ptr x7 fun q60 =>
 ldI .u8 (Addr.add q60 ((x9 : Int).toNat * 1)) H fun n61 =>
 uz_13 nx18 Q E x0 n61 x7 l7 c7 x8 x9 H

def uz_16_M (nx18 : Int → HP) (Q : QT) (E : ET) (τ : Tau) (H : Heap) : Prop := mP (τ 0) fun x0 => mSl (τ 7) fun x7 l7 c7 => mI .i64 (τ 8) fun x8 => mI .i64 (τ 9) fun x9 => uz_16 nx18 Q E x0 x7 l7 c7 x8 x9 H

theorem uz_17ok (nx18 : Int → HP) (Q : QT) (E : ET) (τ : Tau) (H : Heap) (h : uz_16_M nx18 Q E τ H) : vc Pr uz_p19 τ (uz_q10 nx18 Q E) E H :=
  vP (i := 0) h (fun x0 h => vSl (i := 7) h (fun x7 l7 c7 h => vI (i := 8) h (fun x8 h => vI (i := 9) h (fun x9 h => (conv (by kernel_rfl) h)))))

theorem uz_18ok (nx18 : Int → HP) (Q : QT) (E : ET) (τ : Tau) (H : Heap) (h : uz_16_M nx18 Q E τ H) : vc Pr uz_p11 τ (uz_q6 nx18 Q E) E H :=
  (conv (B := vc Pr uz_p11 τ (uz_q6 nx18 Q E) E H) (by kernel_rfl) (vc_seq (K := (uz_13_M nx18 Q E)) (uz_17ok nx18 Q E τ H h) (uz_15ok nx18 Q E)))

theorem uz_19ok (nx18 : Int → HP) (Q : QT) (E : ET) (τ : Tau) (H : Heap) (h : uz_16_M nx18 Q E τ H) : vc Pr uz_p10 τ (uz_q5 nx18 Q E) E H :=
  (conv (B := vc Pr uz_p10 τ (uz_q5 nx18 Q E) E H) (by kernel_rfl) (uz_18ok nx18 Q E τ H h))

theorem uz_20ok (nx18 : Int → HP) (Q : QT) (E : ET) (τ : Tau) (H : Heap) (h : uz_16_M nx18 Q E τ H) : vc Pr uz_p8 τ (uz_q4 nx18 Q E) E H :=
  (conv (B := vc Pr uz_p8 τ (uz_q4 nx18 Q E) E H) (by kernel_rfl) (vc_seq (K := (uz_3_M nx18 Q E)) (uz_19ok nx18 Q E τ H h) (uz_4ok nx18 Q E)))

@[reducible] noncomputable def uz_q11 (nx18 : Int → HP) (Q : QT) (E : ET) : Exit → Tau → Heap → Prop := (xthen (uz_16_M nx18 Q E) (uz_q4 nx18 Q E))

@[reducible] noncomputable def uz_p20 : Code := sA uz_p7

def uz_21 (nx18 : Int → HP) (Q : QT) (E : ET) (x0 : OA) (x7 : OA) (l7 : Nat) (c7 : Nat) (x8 : Int) (x9 : Int) (x10 : Bool) (H : Heap) : Prop :=
 sel x10
 (uz_16 nx18 Q E x0 x7 l7 c7 x8 x9 H)
 (uz_1 Q E x0 H)

def uz_21_M (nx18 : Int → HP) (Q : QT) (E : ET) (τ : Tau) (H : Heap) : Prop := mP (τ 0) fun x0 => mSl (τ 7) fun x7 l7 c7 => mI .i64 (τ 8) fun x8 => mI .i64 (τ 9) fun x9 => mB (τ 10) fun x10 => uz_21 nx18 Q E x0 x7 l7 c7 x8 x9 x10 H

theorem uz_22ok (nx18 : Int → HP) (Q : QT) (E : ET) (τ : Tau) (H : Heap) (h : uz_21_M nx18 Q E τ H) : vc Pr uz_p20 τ (uz_q11 nx18 Q E) E H :=
  vP (i := 0) h (fun x0 h => vSl (i := 7) h (fun x7 l7 c7 h => vI (i := 8) h (fun x8 h => vI (i := 9) h (fun x9 h => vB (i := 10) h (fun x10 h => (conv (by kernel_rfl) h))))))

theorem uz_23ok (nx18 : Int → HP) (Q : QT) (E : ET) (τ : Tau) (H : Heap) (h : uz_21_M nx18 Q E τ H) : vc Pr uz_p7 τ (uz_q4 nx18 Q E) E H :=
  (conv (B := vc Pr uz_p7 τ (uz_q4 nx18 Q E) E H) (by kernel_rfl) (vc_seq (K := (uz_16_M nx18 Q E)) (uz_22ok nx18 Q E τ H h) (uz_20ok nx18 Q E)))

@[reducible] noncomputable def uz_q12 (nx18 : Int → HP) (Q : QT) (E : ET) : Exit → Tau → Heap → Prop := (xthen (uz_21_M nx18 Q E) (uz_q4 nx18 Q E))

@[reducible] noncomputable def uz_p21 : Code := sA uz_p6

def uz_24 (nx18 : Int → HP) (Q : QT) (E : ET) (x0 : OA) (x7 : OA) (l7 : Nat) (c7 : Nat) (x8 : Int) (x9 : Int) (H : Heap) : Prop :=
 uz_21 nx18 Q E x0 x7 l7 c7 x8 x9 (decide ((x9 : Int) < x8)) H

def uz_24_M (nx18 : Int → HP) (Q : QT) (E : ET) (τ : Tau) (H : Heap) : Prop := mP (τ 0) fun x0 => mSl (τ 7) fun x7 l7 c7 => mI .i64 (τ 8) fun x8 => mI .i64 (τ 9) fun x9 => uz_24 nx18 Q E x0 x7 l7 c7 x8 x9 H

theorem uz_25ok (nx18 : Int → HP) (Q : QT) (E : ET) (τ : Tau) (H : Heap) (h : uz_24_M nx18 Q E τ H) : vc Pr uz_p21 τ (uz_q12 nx18 Q E) E H :=
  vP (i := 0) h (fun x0 h => vSl (i := 7) h (fun x7 l7 c7 h => vI (i := 8) h (fun x8 h => vI (i := 9) h (fun x9 h => (conv (by kernel_rfl) h)))))

theorem uz_26ok (nx18 : Int → HP) (Q : QT) (E : ET) (τ : Tau) (H : Heap) (h : uz_24_M nx18 Q E τ H) : vc Pr uz_p6 τ (uz_q4 nx18 Q E) E H :=
  (conv (B := vc Pr uz_p6 τ (uz_q4 nx18 Q E) E H) (by kernel_rfl) (vc_seq (K := (uz_21_M nx18 Q E)) (uz_25ok nx18 Q E τ H h) (uz_23ok nx18 Q E)))

def uz_27 (Q : QT) (E : ET) (x0 : OA) (x7 : OA) (l7 : Nat) (c7 : Nat) (x8 : Int) (x9 : Int) (H : Heap) : Prop :=
 ∃ (I : Int → HP) (μ : Int → Heap → Nat), I x9 H ∧ ∀ (x9 : Int) (H : Heap), I x9 H →
 uz_24 (fun x9' H1 => I x9' H1 ∧ μ x9' H1 < μ x9 H) Q E x0 x7 l7 c7 x8 x9 H

def uz_27_M (Q : QT) (E : ET) (τ : Tau) (H : Heap) : Prop := mP (τ 0) fun x0 => mSl (τ 7) fun x7 l7 c7 => mI .i64 (τ 8) fun x8 => mI .i64 (τ 9) fun x9 => uz_27 Q E x0 x7 l7 c7 x8 x9 H

theorem uz_28ok (Q : QT) (E : ET) (τ : Tau) (H : Heap) (h : uz_27_M Q E τ H) : vc Pr uz_p5 τ (uz_q3 Q E) E H :=
  vP (i := 0) h (fun x0 h => vSl (i := 7) h (fun x7 l7 c7 h => vI (i := 8) h (fun x8 h => vI (i := 9) h (fun x9 h => match h with | ⟨I, μ, h0, hr⟩ => (conv (B := vc Pr uz_p5 (Tau.upd (Tau.upd (Tau.upd (Tau.upd τ 0 (.pointer x0)) 7 (.slice x7 l7 c7)) 8 (.int .i64 x8)) 9 (.int .i64 x9)) (uz_q3 Q E) E H) (by kernel_rfl) (vc_loop (c := sI uz_p5) (τ := (Tau.upd (Tau.upd (Tau.upd (Tau.upd τ 0 (.pointer x0)) 7 (.slice x7 l7 c7)) 8 (.int .i64 x8)) 9 (.int .i64 x9))) [0, 7, 8] (fun τ H => mI .i64 (τ 9) fun x9' => I x9' H) (fun τ H => μ (gI (τ 9)) H) (by kernel_rfl) h0 (fun τ1 H1 hf hI => fix_elim (τ := τ1) (i := 0) (v := (.pointer x0)) (G := fun τ => vc Pr (sI uz_p5) τ (xthen (fun τ2 H2 => (mI .i64 (τ2 9) fun x9' => I x9' H2) ∧ μ (gI (τ2 9)) H2 < μ (gI (τ 9)) H1) (uz_q3 Q E)) E H1) (hf 0 (by simp)) (fix_elim (τ := (Tau.upd τ1 0 (.pointer x0))) (i := 7) (v := (.slice x7 l7 c7)) (G := fun τ => vc Pr (sI uz_p5) τ (xthen (fun τ2 H2 => (mI .i64 (τ2 9) fun x9' => I x9' H2) ∧ μ (gI (τ2 9)) H2 < μ (gI (τ 9)) H1) (uz_q3 Q E)) E H1) (hf 7 (by simp)) (fix_elim (τ := (Tau.upd (Tau.upd τ1 0 (.pointer x0)) 7 (.slice x7 l7 c7))) (i := 8) (v := (.int .i64 x8)) (G := fun τ => vc Pr (sI uz_p5) τ (xthen (fun τ2 H2 => (mI .i64 (τ2 9) fun x9' => I x9' H2) ∧ μ (gI (τ2 9)) H2 < μ (gI (τ 9)) H1) (uz_q3 Q E)) E H1) (hf 8 (by simp)) (mI_elim (i := 9) (G := fun τ => vc Pr (sI uz_p5) τ (xthen (fun τ2 H2 => (mI .i64 (τ2 9) fun x9' => I x9' H2) ∧ μ (gI (τ2 9)) H2 < μ (gI (τ 9)) H1) (uz_q3 Q E)) E H1) hI (fun x9r h => (conv (B := vc Pr (sI uz_p5) (Tau.upd (Tau.upd (Tau.upd (Tau.upd τ1 0 (.pointer x0)) 7 (.slice x7 l7 c7)) 8 (.int .i64 x8)) 9 (.int .i64 x9r)) (xthen (fun τ2 H2 => (mI .i64 (τ2 9) fun x9' => I x9' H2) ∧ μ (gI (τ2 9)) H2 < μ (gI ((Tau.upd (Tau.upd (Tau.upd (Tau.upd τ1 0 (.pointer x0)) 7 (.slice x7 l7 c7)) 8 (.int .i64 x8)) 9 (.int .i64 x9r)) 9)) H1) (uz_q3 Q E)) E H1) (by kernel_rfl) (vc_xthen (uz_26ok (fun x9' H2 => I x9' H2 ∧ μ x9' H2 < μ x9r H1) Q E (Tau.upd (Tau.upd (Tau.upd (Tau.upd τ1 0 (.pointer x0)) 7 (.slice x7 l7 c7)) 8 (.int .i64 x8)) 9 (.int .i64 x9r)) H1 (conv (B := uz_24_M (fun x9' H2 => I x9' H2 ∧ μ x9' H2 < μ x9r H1) Q E (Tau.upd (Tau.upd (Tau.upd (Tau.upd τ1 0 (.pointer x0)) 7 (.slice x7 l7 c7)) 8 (.int .i64 x8)) 9 (.int .i64 x9r)) H1) (by kernel_rfl) (hr x9r H1 h))) (fun τ2 H2 hk => mI_elim (i := 9) (G := fun τ => (mI .i64 (τ 9) fun x9' => I x9' H2) ∧ μ (gI (τ 9)) H2 < μ x9r H1) hk (fun x9' h => h)))))))))))))))

theorem uz_29ok (Q : QT) (E : ET) (τ : Tau) (H : Heap) (h : uz_27_M Q E τ H) : vc Pr uz_p4 τ (uz_q2 Q E) E H :=
  (conv (B := vc Pr uz_p4 τ (uz_q2 Q E) E H) (by kernel_rfl) (uz_28ok Q E τ H h))

@[reducible] noncomputable def uz_q13 (Q : QT) (E : ET) : Exit → Tau → Heap → Prop := (xthen (uz_27_M Q E) (uz_q2 Q E))

@[reducible] noncomputable def uz_p22 : Code := sA uz_p3

def uz_30 (Q : QT) (E : ET) (x0 : OA) (x1 : OA) (l1 : Nat) (c1 : Nat) (H : Heap) : Prop :=
 uz_27 Q E x0 x1 l1 c1 ((l1 : Nat) : Int) 0 H

def uz_30_M (Q : QT) (E : ET) (τ : Tau) (H : Heap) : Prop := mP (τ 0) fun x0 => mSl (τ 1) fun x1 l1 c1 => uz_30 Q E x0 x1 l1 c1 H

theorem uz_31ok (Q : QT) (E : ET) (τ : Tau) (H : Heap) (h : uz_30_M Q E τ H) : vc Pr uz_p22 τ (uz_q13 Q E) E H :=
  vP (i := 0) h (fun x0 h => vSl (i := 1) h (fun x1 l1 c1 h => (conv (by kernel_rfl) h)))

theorem uz_32ok (Q : QT) (E : ET) (τ : Tau) (H : Heap) (h : uz_30_M Q E τ H) : vc Pr uz_p3 τ (uz_q2 Q E) E H :=
  (conv (B := vc Pr uz_p3 τ (uz_q2 Q E) E H) (by kernel_rfl) (vc_seq (K := (uz_27_M Q E)) (uz_31ok Q E τ H h) (uz_29ok Q E)))

theorem uz_33ok (Q : QT) (E : ET) (τ : Tau) (H : Heap) (h : uz_30_M Q E τ H) : vc Pr uz_p1 τ (uz_q1 Q E) E H :=
  (conv (B := vc Pr uz_p1 τ (uz_q1 Q E) E H) (by kernel_rfl) (vc_seq (K := (uz_1_M Q E)) (uz_32ok Q E τ H h) (uz_2ok Q E)))

@[reducible] noncomputable def uz_q14 (Q : QT) (E : ET) : Exit → Tau → Heap → Prop := (xthen (uz_30_M Q E) (uz_q1 Q E))

@[reducible] noncomputable def uz_p23 : Code := sA uz_p0

def uz (Q : QT) (E : ET) (a0 : OA) (a1 : OA) (a1l : Nat) (a1c : Nat) (H : Heap) : Prop :=
 uz_30 Q E a0 a1 a1l a1c H

theorem uz_fn (a0 : OA) (a1 : OA) (a1l : Nat) (a1c : Nat) (Q : QT) (E : ET) (H : Heap) (h : uz Q E a0 a1 a1l a1c H)   : Does Pr 52 #[(.pointer a0), (.slice a1 a1l a1c)] H Q E :=
  Fn_of_vc (fn := Try.f52) (c := uz_p0) (args := [(.pointer a0), (.slice a1 a1l a1c)]) mixed (by kernel_rfl) (by kernel_rfl) (by kernel_rfl) (by kernel_rfl) (by kernel_rfl) ((conv (B := vc Pr uz_p0 (argT [(.pointer a0), (.slice a1 a1l a1c)]) (uz_q1 Q E) E H) (by kernel_rfl) (vc_seq (K := (uz_30_M Q E)) (conv (B := vc Pr uz_p23 (argT [(.pointer a0), (.slice a1 a1l a1c)]) (uz_q14 Q E) E H) (by kernel_rfl) h) (uz_33ok Q E))))

/-! (*jobmux/auto.Machine).Found -/
@[reducible] noncomputable def ua1_q1 (Q : QT) (E : ET) : Exit → Tau → Heap → Prop := (retQ Pr (Try.f53).results.toList Q)

@[reducible] noncomputable def ua1_p0 : Code := bodyOf Try.f53

def ua1 (Q : QT) (E : ET) (a0 : OA) (H : Heap) : Prop :=
 Does Pr 79 #[(.pointer a0)] H (fun v1 H2 =>
 ∃ b3 : Bool, v1 = (.bool b3) ∧ ptr a0 fun q4 =>
 ldI .i64 (Addr.add q4 8) H2 fun n5 =>
 Q (.int .i64 n5) H2) E

theorem ua1_fn (a0 : OA) (Q : QT) (E : ET) (H : Heap) (h : ua1 Q E a0 H)   : Does Pr 53 #[(.pointer a0)] H Q E :=
  Fn_of_vc (fn := Try.f53) (c := ua1_p0) (args := [(.pointer a0)]) mixed (by kernel_rfl) (by kernel_rfl) (by kernel_rfl) (by kernel_rfl) (by kernel_rfl) ((conv (B := vc Pr ua1_p0 (argT [(.pointer a0)]) (ua1_q1 Q E) E H) (by kernel_rfl) h))

/-! (*jobmux/auto.Machine).Here -/
@[reducible] noncomputable def ub1_q1 (Q : QT) (E : ET) : Exit → Tau → Heap → Prop := (retQ Pr (Try.f58).results.toList Q)

@[reducible] noncomputable def ub1_p0 : Code := bodyOf Try.f58

def ub1 (Q : QT) (E : ET) (a0 : OA) (a1 : OA) (a1l : Nat) (a1c : Nat) (H : Heap) : Prop :=
 sel (decide ((((a1l : Nat) : Int) : Int) > 0))
 ((0 ≤ (0 : Int) ∧ (0 : Int) < ((a1l : Nat) : Int)) ∧ ptr a1 fun q1 =>
 ldI .u8 q1 H fun n2 =>
 Does Pr 81 #[(.pointer a0), (.bool ((n2 : Int) == 10))] H (fun v3 H4 =>
 ∃ b5 : Bool, v3 = (.bool b5) ∧ Q (.bool b5) H4) E)
 (Does Pr 81 #[(.pointer a0), (.bool false)] H (fun v6 H7 =>
 ∃ b8 : Bool, v6 = (.bool b8) ∧ Q (.bool b8) H7) E)

theorem ub1_fn (a0 : OA) (a1 : OA) (a1l : Nat) (a1c : Nat) (Q : QT) (E : ET) (H : Heap) (h : ub1 Q E a0 a1 a1l a1c H)   : Does Pr 58 #[(.pointer a0), (.slice a1 a1l a1c)] H Q E :=
  Fn_of_vc (fn := Try.f58) (c := ub1_p0) (args := [(.pointer a0), (.slice a1 a1l a1c)]) mixed (by kernel_rfl) (by kernel_rfl) (by kernel_rfl) (by kernel_rfl) (by kernel_rfl) ((conv (B := vc Pr ub1_p0 (argT [(.pointer a0), (.slice a1 a1l a1c)]) (ub1_q1 Q E) E H) (by kernel_rfl) h))

/-! (*jobmux/auto.Machine).Read -/
@[reducible] noncomputable def uc1_q1 (Q : QT) (E : ET) : Exit → Tau → Heap → Prop := (retQ Pr (Try.f59).results.toList Q)

@[reducible] noncomputable def uc1_p0 : Code := bodyOf Try.f59

@[reducible] noncomputable def uc1_p1 : Code := sB uc1_p0

@[reducible] noncomputable def uc1_p2 : Code := sB uc1_p1

@[reducible] noncomputable def uc1_p3 : Code := sB uc1_p2

@[reducible] noncomputable def uc1_p4 : Code := sB uc1_p3

@[reducible] noncomputable def uc1_p5 : Code := sB uc1_p4

@[reducible] noncomputable def uc1_p6 : Code := sB uc1_p5

def uc1_1 (Q : QT) (E : ET) (x0 : OA) (H : Heap) : Prop :=
 Does Pr 81 #[(.pointer x0), (.bool false)] H (fun v60 H61 =>
 ∃ b62 : Bool, v60 = (.bool b62) ∧ Q (.tuple #[]) H61) E

def uc1_1_M (Q : QT) (E : ET) (τ : Tau) (H : Heap) : Prop := mP (τ 0) fun x0 => uc1_1 Q E x0 H

theorem uc1_2ok (Q : QT) (E : ET) (τ : Tau) (H : Heap) (h : uc1_1_M Q E τ H) : vc Pr uc1_p6 τ (uc1_q1 Q E) E H :=
  vP (i := 0) h (fun x0 h => (conv (by kernel_rfl) h))

@[reducible] noncomputable def uc1_q2 (Q : QT) (E : ET) : Exit → Tau → Heap → Prop := (xthen (uc1_1_M Q E) (uc1_q1 Q E))

@[reducible] noncomputable def uc1_p7 : Code := sA uc1_p5

def uc1_3 (Q : QT) (E : ET) (x0 : OA) (H : Heap) : Prop :=
 ptr x0 fun q63 =>
 ldB (Addr.add q63 5) H fun b64 =>
 sel (!b64)
 (ptr x0 fun q65 =>
 Does Pr 80 #[(.pointer (some (Addr.add q65 1))), (.int .i64 0)] H (fun v66 H67 =>
 uc1_1 Q E x0 H67) E)
 (uc1_1 Q E x0 H)

def uc1_3_M (Q : QT) (E : ET) (τ : Tau) (H : Heap) : Prop := mP (τ 0) fun x0 => uc1_3 Q E x0 H

theorem uc1_4ok (Q : QT) (E : ET) (τ : Tau) (H : Heap) (h : uc1_3_M Q E τ H) : vc Pr uc1_p7 τ (uc1_q2 Q E) E H :=
  vP (i := 0) h (fun x0 h => (conv (by kernel_rfl) h))

theorem uc1_5ok (Q : QT) (E : ET) (τ : Tau) (H : Heap) (h : uc1_3_M Q E τ H) : vc Pr uc1_p5 τ (uc1_q1 Q E) E H :=
  (conv (B := vc Pr uc1_p5 τ (uc1_q1 Q E) E H) (by kernel_rfl) (vc_seq (K := (uc1_1_M Q E)) (uc1_4ok Q E τ H h) (uc1_2ok Q E)))

@[reducible] noncomputable def uc1_q3 (Q : QT) (E : ET) : Exit → Tau → Heap → Prop := (xthen (uc1_3_M Q E) (uc1_q1 Q E))

@[reducible] noncomputable def uc1_p8 : Code := sA uc1_p4

def uc1_6 (Q : QT) (E : ET) (x0 : OA) (x1 : Int) (H : Heap) : Prop :=
 ptr x0 fun q68 =>
 wr (Addr.add q68 6) [(.bool ((x1 : Int) == 10))] H fun H69 =>
 uc1_3 Q E x0 H69

def uc1_6_M (Q : QT) (E : ET) (τ : Tau) (H : Heap) : Prop := mP (τ 0) fun x0 => mI .u8 (τ 1) fun x1 => uc1_6 Q E x0 x1 H

theorem uc1_7ok (Q : QT) (E : ET) (τ : Tau) (H : Heap) (h : uc1_6_M Q E τ H) : vc Pr uc1_p8 τ (uc1_q3 Q E) E H :=
  vP (i := 0) h (fun x0 h => vI (i := 1) h (fun x1 h => (conv (by kernel_rfl) h)))

theorem uc1_8ok (Q : QT) (E : ET) (τ : Tau) (H : Heap) (h : uc1_6_M Q E τ H) : vc Pr uc1_p4 τ (uc1_q1 Q E) E H :=
  (conv (B := vc Pr uc1_p4 τ (uc1_q1 Q E) E H) (by kernel_rfl) (vc_seq (K := (uc1_3_M Q E)) (uc1_7ok Q E τ H h) (uc1_5ok Q E)))

@[reducible] noncomputable def uc1_q4 (Q : QT) (E : ET) : Exit → Tau → Heap → Prop := (xthen (uc1_6_M Q E) (uc1_q1 Q E))

@[reducible] noncomputable def uc1_p9 : Code := sA uc1_p3

def uc1_9 (Q : QT) (E : ET) (x0 : OA) (x1 : Int) (H : Heap) : Prop :=
 ptr x0 fun q70 =>
 ldI .i64 (Addr.add q70 7) H fun n71 =>
 ptr x0 fun q72 =>
 wr (Addr.add q72 7) [(.int .i64 (IntKind.wrap .i64 (n71 + 1)))] H fun H73 =>
 uc1_6 Q E x0 x1 H73

def uc1_9_M (Q : QT) (E : ET) (τ : Tau) (H : Heap) : Prop := mP (τ 0) fun x0 => mI .u8 (τ 1) fun x1 => uc1_9 Q E x0 x1 H

theorem uc1_10ok (Q : QT) (E : ET) (τ : Tau) (H : Heap) (h : uc1_9_M Q E τ H) : vc Pr uc1_p9 τ (uc1_q4 Q E) E H :=
  vP (i := 0) h (fun x0 h => vI (i := 1) h (fun x1 h => (conv (by kernel_rfl) h)))

theorem uc1_11ok (Q : QT) (E : ET) (τ : Tau) (H : Heap) (h : uc1_9_M Q E τ H) : vc Pr uc1_p3 τ (uc1_q1 Q E) E H :=
  (conv (B := vc Pr uc1_p3 τ (uc1_q1 Q E) E H) (by kernel_rfl) (vc_seq (K := (uc1_6_M Q E)) (uc1_10ok Q E τ H h) (uc1_8ok Q E)))

@[reducible] noncomputable def uc1_q5 (Q : QT) (E : ET) : Exit → Tau → Heap → Prop := (xthen (uc1_9_M Q E) (uc1_q1 Q E))

@[reducible] noncomputable def uc1_p10 : Code := sA uc1_p2

def uc1_12 (Q : QT) (E : ET) (x0 : OA) (x1 : Int) (H : Heap) : Prop :=
 ptr x0 fun q74 =>
 ∃ (p75 : OA) (l76 c77 : Nat), ∃ (p78 : OA) (l79 c80 : Nat), Heap.rd H (Addr.add q74 3) 0 [(.slice p75 l76 c77), (.slice p78 l79 c80)] ∧ ptr x0 fun q81 =>
 ∃ (p82 : OA) (l83 c84 : Nat), ∃ (p85 : OA) (l86 c87 : Nat), Heap.rd H (Addr.add q81 1) 0 [(.slice p82 l83 c84), (.slice p85 l86 c87)] ∧ ptr x0 fun q88 =>
 wr (Addr.add q88 1) [(.slice p75 l76 c77), (.slice p78 l79 c80)] H fun H89 =>
 ptr x0 fun q90 =>
 wr (Addr.add q90 3) [(.slice p82 l83 c84), (.slice p85 l86 c87)] H89 fun H91 =>
 uc1_9 Q E x0 x1 H91

def uc1_12_M (Q : QT) (E : ET) (τ : Tau) (H : Heap) : Prop := mP (τ 0) fun x0 => mI .u8 (τ 1) fun x1 => uc1_12 Q E x0 x1 H

theorem uc1_13ok (Q : QT) (E : ET) (τ : Tau) (H : Heap) (h : uc1_12_M Q E τ H) : vc Pr uc1_p10 τ (uc1_q5 Q E) E H :=
  vP (i := 0) h (fun x0 h => vI (i := 1) h (fun x1 h => (conv (by kernel_rfl) h)))

theorem uc1_14ok (Q : QT) (E : ET) (τ : Tau) (H : Heap) (h : uc1_12_M Q E τ H) : vc Pr uc1_p2 τ (uc1_q1 Q E) E H :=
  (conv (B := vc Pr uc1_p2 τ (uc1_q1 Q E) E H) (by kernel_rfl) (vc_seq (K := (uc1_9_M Q E)) (uc1_13ok Q E τ H h) (uc1_11ok Q E)))

@[reducible] noncomputable def uc1_q6 (Q : QT) (E : ET) : Exit → Tau → Heap → Prop := (xthen (uc1_12_M Q E) (uc1_q1 Q E))

@[reducible] noncomputable def uc1_p11 : Code := sA uc1_p1

@[reducible] noncomputable def uc1_p12 : Code := sB uc1_p11

@[reducible] noncomputable def uc1_q7 (Q : QT) (E : ET) : Exit → Tau → Heap → Prop := (xblock 0 (uc1_q6 Q E))

@[reducible] noncomputable def uc1_p13 : Code := sI uc1_p12

@[reducible] noncomputable def uc1_q8 (nx96 : Int → HP) (Q : QT) (E : ET) : Exit → Tau → Heap → Prop := (xthen (fun τ H => mI .i64 (τ 17) fun x17' => nx96 x17' H) (uc1_q7 Q E))

@[reducible] noncomputable def uc1_p14 : Code := sI uc1_p13

@[reducible] noncomputable def uc1_p15 : Code := sB uc1_p14

@[reducible] noncomputable def uc1_p16 : Code := sB uc1_p15

@[reducible] noncomputable def uc1_p17 : Code := sB uc1_p16

def uc1_15 (nx96 : Int → HP) (Q : QT) (E : ET) (x0 : OA) (x1 : Int) (x15 : OA) (l15 : Nat) (c15 : Nat) (x16 : Int) (x17 : Int) (H : Heap) : Prop :=
 nx96 (IntKind.wrap .i64 (x17 + 1)) H

def uc1_15_M (nx96 : Int → HP) (Q : QT) (E : ET) (τ : Tau) (H : Heap) : Prop := mP (τ 0) fun x0 => mI .u8 (τ 1) fun x1 => mSl (τ 15) fun x15 l15 c15 => mI .i64 (τ 16) fun x16 => mI .i64 (τ 17) fun x17 => uc1_15 nx96 Q E x0 x1 x15 l15 c15 x16 x17 H

theorem uc1_16ok (nx96 : Int → HP) (Q : QT) (E : ET) (τ : Tau) (H : Heap) (h : uc1_15_M nx96 Q E τ H) : vc Pr uc1_p17 τ (uc1_q8 nx96 Q E) E H :=
  vP (i := 0) h (fun x0 h => vI (i := 1) h (fun x1 h => vSl (i := 15) h (fun x15 l15 c15 h => vI (i := 16) h (fun x16 h => vI (i := 17) h (fun x17 h => (conv (by kernel_rfl) h))))))

@[reducible] noncomputable def uc1_q9 (nx96 : Int → HP) (Q : QT) (E : ET) : Exit → Tau → Heap → Prop := (xthen (uc1_15_M nx96 Q E) (uc1_q8 nx96 Q E))

@[reducible] noncomputable def uc1_p18 : Code := sA uc1_p16

@[reducible] noncomputable def uc1_q10 (nx96 : Int → HP) (Q : QT) (E : ET) : Exit → Tau → Heap → Prop := (xblock 1 (uc1_q9 nx96 Q E))

@[reducible] noncomputable def uc1_p19 : Code := sI uc1_p18

@[reducible] noncomputable def uc1_p20 : Code := sB uc1_p19

@[reducible] noncomputable def uc1_p21 : Code := sB uc1_p20

@[reducible] noncomputable def uc1_p22 : Code := sB uc1_p21

def uc1_17 (nx96 : Int → HP) (Q : QT) (E : ET) (x0 : OA) (x1 : Int) (x6 : OA) (x15 : OA) (l15 : Nat) (c15 : Nat) (x16 : Int) (x17 : Int) (x42 : Bool) (H : Heap) : Prop :=
 sel x42
 (ptr x0 fun q139 =>
 ptr x6 fun q140 =>
 ldI .i64 (Addr.add q140 1) H fun n141 =>
 Does Pr 80 #[(.pointer (some (Addr.add q139 3))), (.int .i64 n141)] H (fun v142 H143 =>
 uc1_15 nx96 Q E x0 x1 x15 l15 c15 x16 x17 H143) (fun _ _ => False))
 (uc1_15 nx96 Q E x0 x1 x15 l15 c15 x16 x17 H)

def uc1_17_M (nx96 : Int → HP) (Q : QT) (E : ET) (τ : Tau) (H : Heap) : Prop := mP (τ 0) fun x0 => mI .u8 (τ 1) fun x1 => mP (τ 6) fun x6 => mSl (τ 15) fun x15 l15 c15 => mI .i64 (τ 16) fun x16 => mI .i64 (τ 17) fun x17 => mB (τ 42) fun x42 => uc1_17 nx96 Q E x0 x1 x6 x15 l15 c15 x16 x17 x42 H

theorem uc1_18ok (nx96 : Int → HP) (Q : QT) (E : ET) (τ : Tau) (H : Heap) (h : uc1_17_M nx96 Q E τ H) : vc Pr uc1_p22 τ (uc1_q10 nx96 Q E) E H :=
  vP (i := 0) h (fun x0 h => vI (i := 1) h (fun x1 h => vP (i := 6) h (fun x6 h => vSl (i := 15) h (fun x15 l15 c15 h => vI (i := 16) h (fun x16 h => vI (i := 17) h (fun x17 h => vB (i := 42) h (fun x42 h => (conv (by kernel_rfl) h))))))))

@[reducible] noncomputable def uc1_q11 (nx96 : Int → HP) (Q : QT) (E : ET) : Exit → Tau → Heap → Prop := (xthen (uc1_17_M nx96 Q E) (uc1_q10 nx96 Q E))

@[reducible] noncomputable def uc1_p23 : Code := sA uc1_p21

def uc1_19 (nx96 : Int → HP) (Q : QT) (E : ET) (x0 : OA) (x1 : Int) (x6 : OA) (x15 : OA) (l15 : Nat) (c15 : Nat) (x16 : Int) (x17 : Int) (H : Heap) : Prop :=
 ptr x6 fun q144 =>
 ldI .i64 q144 H fun n145 =>
 sel ((n145 : Int) == 1)
 ((64 : Int) ≠ 0 ∧ ptr x6 fun q146 =>
 (0 ≤ ((IntKind.wrap .u8 (Int.tdiv x1 64)) : Int) ∧ ((IntKind.wrap .u8 (Int.tdiv x1 64)) : Int) < ((4 : Nat) : Int)) ∧ ldI .u64 (Addr.add (Addr.add q146 3) (((IntKind.wrap .u8 (Int.tdiv x1 64)) : Int).toNat * 1)) H fun n147 =>
 (64 : Int) ≠ 0 ∧ 0 ≤ ((Int.tmod x1 64) : Int) ∧ uc1_17 nx96 Q E x0 x1 x6 x15 l15 c15 x16 x17 (((IntKind.wrap .u64 (BitVec.ofInt (IntKind.bits .u64) (Int.fdiv n147 (2 ^ min ((Int.tmod x1 64) : Int).toNat (IntKind.bits .u64))) &&& BitVec.ofInt (IntKind.bits .u64) 1).toNat) : Int) == 1) H)
 (uc1_17 nx96 Q E x0 x1 x6 x15 l15 c15 x16 x17 false H)

def uc1_19_M (nx96 : Int → HP) (Q : QT) (E : ET) (τ : Tau) (H : Heap) : Prop := mP (τ 0) fun x0 => mI .u8 (τ 1) fun x1 => mP (τ 6) fun x6 => mSl (τ 15) fun x15 l15 c15 => mI .i64 (τ 16) fun x16 => mI .i64 (τ 17) fun x17 => uc1_19 nx96 Q E x0 x1 x6 x15 l15 c15 x16 x17 H

theorem uc1_20ok (nx96 : Int → HP) (Q : QT) (E : ET) (τ : Tau) (H : Heap) (h : uc1_19_M nx96 Q E τ H) : vc Pr uc1_p23 τ (uc1_q11 nx96 Q E) E H :=
  vP (i := 0) h (fun x0 h => vI (i := 1) h (fun x1 h => vP (i := 6) h (fun x6 h => vSl (i := 15) h (fun x15 l15 c15 h => vI (i := 16) h (fun x16 h => vI (i := 17) h (fun x17 h => (conv (by kernel_rfl) h)))))))

theorem uc1_21ok (nx96 : Int → HP) (Q : QT) (E : ET) (τ : Tau) (H : Heap) (h : uc1_19_M nx96 Q E τ H) : vc Pr uc1_p21 τ (uc1_q10 nx96 Q E) E H :=
  (conv (B := vc Pr uc1_p21 τ (uc1_q10 nx96 Q E) E H) (by kernel_rfl) (vc_seq (K := (uc1_17_M nx96 Q E)) (uc1_20ok nx96 Q E τ H h) (uc1_18ok nx96 Q E)))

@[reducible] noncomputable def uc1_q12 (nx96 : Int → HP) (Q : QT) (E : ET) : Exit → Tau → Heap → Prop := (xthen (uc1_19_M nx96 Q E) (uc1_q10 nx96 Q E))

@[reducible] noncomputable def uc1_p24 : Code := sA uc1_p20

def uc1_22 (nx96 : Int → HP) (Q : QT) (E : ET) (x0 : OA) (x1 : Int) (x5 : Int) (x15 : OA) (l15 : Nat) (c15 : Nat) (x16 : Int) (x17 : Int) (H : Heap) : Prop :=
 ptr x0 fun q148 =>
 ldSl q148 H fun p149 l150 c151 =>
 (0 ≤ (x5 : Int) ∧ (x5 : Int) < ((l150 : Nat) : Int)) ∧ ptr p149 fun q152 =>
 ∃ n153 n154 n155 n156 n157 n158 n159 : Int, Heap.rd H (Addr.add q152 ((x5 : Int).toNat * 7)) 0 [(.int .i64 n153), (.int .i64 n154), (.int .i64 n155), (.int .u64 n156), (.int .u64 n157), (.int .u64 n158), (.int .u64 n159)] ∧ nw (.cells #[(.int .i64 0), (.int .i64 0), (.int .i64 0), (.int .u64 0), (.int .u64 0), (.int .u64 0), (.int .u64 0)] 91 (0, 0)) H fun i160 H161 =>
 wr ⟨i160, 0, none⟩ [(.int .i64 n153), (.int .i64 n154), (.int .i64 n155), (.int .u64 n156), (.int .u64 n157), (.int .u64 n158), (.int .u64 n159)] H161 fun H162 =>
 uc1_19 nx96 Q E x0 x1 (some ⟨i160, 0, none⟩) x15 l15 c15 x16 x17 H162

def uc1_22_M (nx96 : Int → HP) (Q : QT) (E : ET) (τ : Tau) (H : Heap) : Prop := mP (τ 0) fun x0 => mI .u8 (τ 1) fun x1 => mI .i64 (τ 5) fun x5 => mSl (τ 15) fun x15 l15 c15 => mI .i64 (τ 16) fun x16 => mI .i64 (τ 17) fun x17 => uc1_22 nx96 Q E x0 x1 x5 x15 l15 c15 x16 x17 H

theorem uc1_23ok (nx96 : Int → HP) (Q : QT) (E : ET) (τ : Tau) (H : Heap) (h : uc1_22_M nx96 Q E τ H) : vc Pr uc1_p24 τ (uc1_q12 nx96 Q E) E H :=
  vP (i := 0) h (fun x0 h => vI (i := 1) h (fun x1 h => vI (i := 5) h (fun x5 h => vSl (i := 15) h (fun x15 l15 c15 h => vI (i := 16) h (fun x16 h => vI (i := 17) h (fun x17 h => (conv (by kernel_rfl) h)))))))

theorem uc1_24ok (nx96 : Int → HP) (Q : QT) (E : ET) (τ : Tau) (H : Heap) (h : uc1_22_M nx96 Q E τ H) : vc Pr uc1_p20 τ (uc1_q10 nx96 Q E) E H :=
  (conv (B := vc Pr uc1_p20 τ (uc1_q10 nx96 Q E) E H) (by kernel_rfl) (vc_seq (K := (uc1_19_M nx96 Q E)) (uc1_23ok nx96 Q E τ H h) (uc1_21ok nx96 Q E)))

@[reducible] noncomputable def uc1_q13 (nx96 : Int → HP) (Q : QT) (E : ET) : Exit → Tau → Heap → Prop := (xthen (uc1_22_M nx96 Q E) (uc1_q10 nx96 Q E))

@[reducible] noncomputable def uc1_p25 : Code := sA uc1_p19

def uc1_25 (nx96 : Int → HP) (Q : QT) (E : ET) (x0 : OA) (x1 : Int) (x15 : OA) (l15 : Nat) (c15 : Nat) (x16 : Int) (x17 : Int) (H : Heap) : Prop :=
 (0 ≤ (x17 : Int) ∧ (x17 : Int) < ((l15 : Nat) : Int)) ∧ ptr x15 fun q163 =>
 ldI .i64 (Addr.add q163 ((x17 : Int).toNat * 1)) H fun n164 =>
 uc1_22 nx96 Q E x0 x1 n164 x15 l15 c15 x16 x17 H

def uc1_25_M (nx96 : Int → HP) (Q : QT) (E : ET) (τ : Tau) (H : Heap) : Prop := mP (τ 0) fun x0 => mI .u8 (τ 1) fun x1 => mSl (τ 15) fun x15 l15 c15 => mI .i64 (τ 16) fun x16 => mI .i64 (τ 17) fun x17 => uc1_25 nx96 Q E x0 x1 x15 l15 c15 x16 x17 H

theorem uc1_26ok (nx96 : Int → HP) (Q : QT) (E : ET) (τ : Tau) (H : Heap) (h : uc1_25_M nx96 Q E τ H) : vc Pr uc1_p25 τ (uc1_q13 nx96 Q E) E H :=
  vP (i := 0) h (fun x0 h => vI (i := 1) h (fun x1 h => vSl (i := 15) h (fun x15 l15 c15 h => vI (i := 16) h (fun x16 h => vI (i := 17) h (fun x17 h => (conv (by kernel_rfl) h))))))

theorem uc1_27ok (nx96 : Int → HP) (Q : QT) (E : ET) (τ : Tau) (H : Heap) (h : uc1_25_M nx96 Q E τ H) : vc Pr uc1_p19 τ (uc1_q10 nx96 Q E) E H :=
  (conv (B := vc Pr uc1_p19 τ (uc1_q10 nx96 Q E) E H) (by kernel_rfl) (vc_seq (K := (uc1_22_M nx96 Q E)) (uc1_26ok nx96 Q E τ H h) (uc1_24ok nx96 Q E)))

theorem uc1_28ok (nx96 : Int → HP) (Q : QT) (E : ET) (τ : Tau) (H : Heap) (h : uc1_25_M nx96 Q E τ H) : vc Pr uc1_p18 τ (uc1_q9 nx96 Q E) E H :=
  (conv (B := vc Pr uc1_p18 τ (uc1_q9 nx96 Q E) E H) (by kernel_rfl) (uc1_27ok nx96 Q E τ H h))

theorem uc1_29ok (nx96 : Int → HP) (Q : QT) (E : ET) (τ : Tau) (H : Heap) (h : uc1_25_M nx96 Q E τ H) : vc Pr uc1_p16 τ (uc1_q8 nx96 Q E) E H :=
  (conv (B := vc Pr uc1_p16 τ (uc1_q8 nx96 Q E) E H) (by kernel_rfl) (vc_seq (K := (uc1_15_M nx96 Q E)) (uc1_28ok nx96 Q E τ H h) (uc1_16ok nx96 Q E)))

@[reducible] noncomputable def uc1_q14 (nx96 : Int → HP) (Q : QT) (E : ET) : Exit → Tau → Heap → Prop := (xthen (uc1_25_M nx96 Q E) (uc1_q8 nx96 Q E))

@[reducible] noncomputable def uc1_p26 : Code := sA uc1_p15

def uc1_30 (nx96 : Int → HP) (Q : QT) (E : ET) (x0 : OA) (x1 : Int) (x15 : OA) (l15 : Nat) (c15 : Nat) (x16 : Int) (x17 : Int) (x18 : Bool) (H : Heap) : Prop :=
 sel x18
 (uc1_25 nx96 Q E x0 x1 x15 l15 c15 x16 x17 H)
 (uc1_12 Q E x0 x1 H)

def uc1_30_M (nx96 : Int → HP) (Q : QT) (E : ET) (τ : Tau) (H : Heap) : Prop := mP (τ 0) fun x0 => mI .u8 (τ 1) fun x1 => mSl (τ 15) fun x15 l15 c15 => mI .i64 (τ 16) fun x16 => mI .i64 (τ 17) fun x17 => mB (τ 18) fun x18 => uc1_30 nx96 Q E x0 x1 x15 l15 c15 x16 x17 x18 H

theorem uc1_31ok (nx96 : Int → HP) (Q : QT) (E : ET) (τ : Tau) (H : Heap) (h : uc1_30_M nx96 Q E τ H) : vc Pr uc1_p26 τ (uc1_q14 nx96 Q E) E H :=
  vP (i := 0) h (fun x0 h => vI (i := 1) h (fun x1 h => vSl (i := 15) h (fun x15 l15 c15 h => vI (i := 16) h (fun x16 h => vI (i := 17) h (fun x17 h => vB (i := 18) h (fun x18 h => (conv (by kernel_rfl) h)))))))

theorem uc1_32ok (nx96 : Int → HP) (Q : QT) (E : ET) (τ : Tau) (H : Heap) (h : uc1_30_M nx96 Q E τ H) : vc Pr uc1_p15 τ (uc1_q8 nx96 Q E) E H :=
  (conv (B := vc Pr uc1_p15 τ (uc1_q8 nx96 Q E) E H) (by kernel_rfl) (vc_seq (K := (uc1_25_M nx96 Q E)) (uc1_31ok nx96 Q E τ H h) (uc1_29ok nx96 Q E)))

@[reducible] noncomputable def uc1_q15 (nx96 : Int → HP) (Q : QT) (E : ET) : Exit → Tau → Heap → Prop := (xthen (uc1_30_M nx96 Q E) (uc1_q8 nx96 Q E))

@[reducible] noncomputable def uc1_p27 : Code := sA uc1_p14

def uc1_33 (nx96 : Int → HP) (Q : QT) (E : ET) (x0 : OA) (x1 : Int) (x15 : OA) (l15 : Nat) (c15 : Nat) (x16 : Int) (x17 : Int) (H : Heap) : Prop :=
 uc1_30 nx96 Q E x0 x1 x15 l15 c15 x16 x17 (decide ((x17 : Int) < x16)) H

def uc1_33_M (nx96 : Int → HP) (Q : QT) (E : ET) (τ : Tau) (H : Heap) : Prop := mP (τ 0) fun x0 => mI .u8 (τ 1) fun x1 => mSl (τ 15) fun x15 l15 c15 => mI .i64 (τ 16) fun x16 => mI .i64 (τ 17) fun x17 => uc1_33 nx96 Q E x0 x1 x15 l15 c15 x16 x17 H

theorem uc1_34ok (nx96 : Int → HP) (Q : QT) (E : ET) (τ : Tau) (H : Heap) (h : uc1_33_M nx96 Q E τ H) : vc Pr uc1_p27 τ (uc1_q15 nx96 Q E) E H :=
  vP (i := 0) h (fun x0 h => vI (i := 1) h (fun x1 h => vSl (i := 15) h (fun x15 l15 c15 h => vI (i := 16) h (fun x16 h => vI (i := 17) h (fun x17 h => (conv (by kernel_rfl) h))))))

theorem uc1_35ok (nx96 : Int → HP) (Q : QT) (E : ET) (τ : Tau) (H : Heap) (h : uc1_33_M nx96 Q E τ H) : vc Pr uc1_p14 τ (uc1_q8 nx96 Q E) E H :=
  (conv (B := vc Pr uc1_p14 τ (uc1_q8 nx96 Q E) E H) (by kernel_rfl) (vc_seq (K := (uc1_30_M nx96 Q E)) (uc1_34ok nx96 Q E τ H h) (uc1_32ok nx96 Q E)))

def uc1_36 (Q : QT) (E : ET) (x0 : OA) (x1 : Int) (x15 : OA) (l15 : Nat) (c15 : Nat) (x16 : Int) (x17 : Int) (H : Heap) : Prop :=
 ∃ (I : Int → HP) (μ : Int → Heap → Nat), I x17 H ∧ ∀ (x17 : Int) (H : Heap), I x17 H →
 uc1_33 (fun x17' H1 => I x17' H1 ∧ μ x17' H1 < μ x17 H) Q E x0 x1 x15 l15 c15 x16 x17 H

def uc1_36_M (Q : QT) (E : ET) (τ : Tau) (H : Heap) : Prop := mP (τ 0) fun x0 => mI .u8 (τ 1) fun x1 => mSl (τ 15) fun x15 l15 c15 => mI .i64 (τ 16) fun x16 => mI .i64 (τ 17) fun x17 => uc1_36 Q E x0 x1 x15 l15 c15 x16 x17 H

theorem uc1_37ok (Q : QT) (E : ET) (τ : Tau) (H : Heap) (h : uc1_36_M Q E τ H) : vc Pr uc1_p13 τ (uc1_q7 Q E) E H :=
  vP (i := 0) h (fun x0 h => vI (i := 1) h (fun x1 h => vSl (i := 15) h (fun x15 l15 c15 h => vI (i := 16) h (fun x16 h => vI (i := 17) h (fun x17 h => match h with | ⟨I, μ, h0, hr⟩ => (conv (B := vc Pr uc1_p13 (Tau.upd (Tau.upd (Tau.upd (Tau.upd (Tau.upd τ 0 (.pointer x0)) 1 (.int .u8 x1)) 15 (.slice x15 l15 c15)) 16 (.int .i64 x16)) 17 (.int .i64 x17)) (uc1_q7 Q E) E H) (by kernel_rfl) (vc_loop (c := sI uc1_p13) (τ := (Tau.upd (Tau.upd (Tau.upd (Tau.upd (Tau.upd τ 0 (.pointer x0)) 1 (.int .u8 x1)) 15 (.slice x15 l15 c15)) 16 (.int .i64 x16)) 17 (.int .i64 x17))) [0, 1, 15, 16] (fun τ H => mI .i64 (τ 17) fun x17' => I x17' H) (fun τ H => μ (gI (τ 17)) H) (by kernel_rfl) h0 (fun τ1 H1 hf hI => fix_elim (τ := τ1) (i := 0) (v := (.pointer x0)) (G := fun τ => vc Pr (sI uc1_p13) τ (xthen (fun τ2 H2 => (mI .i64 (τ2 17) fun x17' => I x17' H2) ∧ μ (gI (τ2 17)) H2 < μ (gI (τ 17)) H1) (uc1_q7 Q E)) E H1) (hf 0 (by simp)) (fix_elim (τ := (Tau.upd τ1 0 (.pointer x0))) (i := 1) (v := (.int .u8 x1)) (G := fun τ => vc Pr (sI uc1_p13) τ (xthen (fun τ2 H2 => (mI .i64 (τ2 17) fun x17' => I x17' H2) ∧ μ (gI (τ2 17)) H2 < μ (gI (τ 17)) H1) (uc1_q7 Q E)) E H1) (hf 1 (by simp)) (fix_elim (τ := (Tau.upd (Tau.upd τ1 0 (.pointer x0)) 1 (.int .u8 x1))) (i := 15) (v := (.slice x15 l15 c15)) (G := fun τ => vc Pr (sI uc1_p13) τ (xthen (fun τ2 H2 => (mI .i64 (τ2 17) fun x17' => I x17' H2) ∧ μ (gI (τ2 17)) H2 < μ (gI (τ 17)) H1) (uc1_q7 Q E)) E H1) (hf 15 (by simp)) (fix_elim (τ := (Tau.upd (Tau.upd (Tau.upd τ1 0 (.pointer x0)) 1 (.int .u8 x1)) 15 (.slice x15 l15 c15))) (i := 16) (v := (.int .i64 x16)) (G := fun τ => vc Pr (sI uc1_p13) τ (xthen (fun τ2 H2 => (mI .i64 (τ2 17) fun x17' => I x17' H2) ∧ μ (gI (τ2 17)) H2 < μ (gI (τ 17)) H1) (uc1_q7 Q E)) E H1) (hf 16 (by simp)) (mI_elim (i := 17) (G := fun τ => vc Pr (sI uc1_p13) τ (xthen (fun τ2 H2 => (mI .i64 (τ2 17) fun x17' => I x17' H2) ∧ μ (gI (τ2 17)) H2 < μ (gI (τ 17)) H1) (uc1_q7 Q E)) E H1) hI (fun x17r h => (conv (B := vc Pr (sI uc1_p13) (Tau.upd (Tau.upd (Tau.upd (Tau.upd (Tau.upd τ1 0 (.pointer x0)) 1 (.int .u8 x1)) 15 (.slice x15 l15 c15)) 16 (.int .i64 x16)) 17 (.int .i64 x17r)) (xthen (fun τ2 H2 => (mI .i64 (τ2 17) fun x17' => I x17' H2) ∧ μ (gI (τ2 17)) H2 < μ (gI ((Tau.upd (Tau.upd (Tau.upd (Tau.upd (Tau.upd τ1 0 (.pointer x0)) 1 (.int .u8 x1)) 15 (.slice x15 l15 c15)) 16 (.int .i64 x16)) 17 (.int .i64 x17r)) 17)) H1) (uc1_q7 Q E)) E H1) (by kernel_rfl) (vc_xthen (uc1_35ok (fun x17' H2 => I x17' H2 ∧ μ x17' H2 < μ x17r H1) Q E (Tau.upd (Tau.upd (Tau.upd (Tau.upd (Tau.upd τ1 0 (.pointer x0)) 1 (.int .u8 x1)) 15 (.slice x15 l15 c15)) 16 (.int .i64 x16)) 17 (.int .i64 x17r)) H1 (conv (B := uc1_33_M (fun x17' H2 => I x17' H2 ∧ μ x17' H2 < μ x17r H1) Q E (Tau.upd (Tau.upd (Tau.upd (Tau.upd (Tau.upd τ1 0 (.pointer x0)) 1 (.int .u8 x1)) 15 (.slice x15 l15 c15)) 16 (.int .i64 x16)) 17 (.int .i64 x17r)) H1) (by kernel_rfl) (hr x17r H1 h))) (fun τ2 H2 hk => mI_elim (i := 17) (G := fun τ => (mI .i64 (τ 17) fun x17' => I x17' H2) ∧ μ (gI (τ 17)) H2 < μ x17r H1) hk (fun x17' h => h)))))))))))))))))

theorem uc1_38ok (Q : QT) (E : ET) (τ : Tau) (H : Heap) (h : uc1_36_M Q E τ H) : vc Pr uc1_p12 τ (uc1_q6 Q E) E H :=
  (conv (B := vc Pr uc1_p12 τ (uc1_q6 Q E) E H) (by kernel_rfl) (uc1_37ok Q E τ H h))

@[reducible] noncomputable def uc1_q16 (Q : QT) (E : ET) : Exit → Tau → Heap → Prop := (xthen (uc1_36_M Q E) (uc1_q6 Q E))

@[reducible] noncomputable def uc1_p28 : Code := sA uc1_p11

def uc1_39 (Q : QT) (E : ET) (x0 : OA) (x1 : Int) (H : Heap) : Prop :=
 ptr x0 fun q165 =>
 ldSl (Addr.add q165 1) H fun p166 l167 c168 =>
 uc1_36 Q E x0 x1 p166 l167 c168 ((l167 : Nat) : Int) 0 H

def uc1_39_M (Q : QT) (E : ET) (τ : Tau) (H : Heap) : Prop := mP (τ 0) fun x0 => mI .u8 (τ 1) fun x1 => uc1_39 Q E x0 x1 H

theorem uc1_40ok (Q : QT) (E : ET) (τ : Tau) (H : Heap) (h : uc1_39_M Q E τ H) : vc Pr uc1_p28 τ (uc1_q16 Q E) E H :=
  vP (i := 0) h (fun x0 h => vI (i := 1) h (fun x1 h => (conv (by kernel_rfl) h)))

theorem uc1_41ok (Q : QT) (E : ET) (τ : Tau) (H : Heap) (h : uc1_39_M Q E τ H) : vc Pr uc1_p11 τ (uc1_q6 Q E) E H :=
  (conv (B := vc Pr uc1_p11 τ (uc1_q6 Q E) E H) (by kernel_rfl) (vc_seq (K := (uc1_36_M Q E)) (uc1_40ok Q E τ H h) (uc1_38ok Q E)))

theorem uc1_42ok (Q : QT) (E : ET) (τ : Tau) (H : Heap) (h : uc1_39_M Q E τ H) : vc Pr uc1_p1 τ (uc1_q1 Q E) E H :=
  (conv (B := vc Pr uc1_p1 τ (uc1_q1 Q E) E H) (by kernel_rfl) (vc_seq (K := (uc1_12_M Q E)) (uc1_41ok Q E τ H h) (uc1_14ok Q E)))

@[reducible] noncomputable def uc1_q17 (Q : QT) (E : ET) : Exit → Tau → Heap → Prop := (xthen (uc1_39_M Q E) (uc1_q1 Q E))

@[reducible] noncomputable def uc1_p29 : Code := sA uc1_p0

def uc1 (Q : QT) (E : ET) (a0 : OA) (a1 : Int) (H : Heap) : Prop :=
 ptr a0 fun q169 =>
 Does Pr 92 #[(.pointer (some (Addr.add q169 3)))] H (fun v170 H171 =>
 uc1_39 Q E a0 a1 H171) E

theorem uc1_fn (a0 : OA) (a1 : Int) (Q : QT) (E : ET) (H : Heap) (h : uc1 Q E a0 a1 H)   : Does Pr 59 #[(.pointer a0), (.int .u8 a1)] H Q E :=
  Fn_of_vc (fn := Try.f59) (c := uc1_p0) (args := [(.pointer a0), (.int .u8 a1)]) mixed (by kernel_rfl) (by kernel_rfl) (by kernel_rfl) (by kernel_rfl) (by kernel_rfl) ((conv (B := vc Pr uc1_p0 (argT [(.pointer a0), (.int .u8 a1)]) (uc1_q1 Q E) E H) (by kernel_rfl) (vc_seq (K := (uc1_39_M Q E)) (conv (B := vc Pr uc1_p29 (argT [(.pointer a0), (.int .u8 a1)]) (uc1_q17 Q E) E H) (by kernel_rfl) h) (uc1_42ok Q E))))

/-! (*jobmux/auto.Machine).Matched -/
@[reducible] noncomputable def ud1_q1 (Q : QT) (E : ET) : Exit → Tau → Heap → Prop := (retQ Pr (Try.f79).results.toList Q)

@[reducible] noncomputable def ud1_p0 : Code := bodyOf Try.f79

@[reducible] noncomputable def ud1_p1 : Code := sB ud1_p0

@[reducible] noncomputable def ud1_p2 : Code := sB ud1_p1

def ud1_1 (Q : QT) (E : ET) (x0 : OA) (H : Heap) : Prop :=
 ptr x0 fun q10 =>
 ldI .i64 (Addr.add q10 8) H fun n11 =>
 Q (.bool (decide ((n11 : Int) ≥ 0))) H

def ud1_1_M (Q : QT) (E : ET) (τ : Tau) (H : Heap) : Prop := mP (τ 0) fun x0 => ud1_1 Q E x0 H

theorem ud1_2ok (Q : QT) (E : ET) (τ : Tau) (H : Heap) (h : ud1_1_M Q E τ H) : vc Pr ud1_p2 τ (ud1_q1 Q E) E H :=
  vP (i := 0) h (fun x0 h => (conv (by kernel_rfl) h))

@[reducible] noncomputable def ud1_q2 (Q : QT) (E : ET) : Exit → Tau → Heap → Prop := (xthen (ud1_1_M Q E) (ud1_q1 Q E))

@[reducible] noncomputable def ud1_p3 : Code := sA ud1_p1

@[reducible] noncomputable def ud1_p4 : Code := sB ud1_p3

def ud1_3 (Q : QT) (E : ET) (x0 : OA) (x11 : Bool) (H : Heap) : Prop :=
 sel x11
 (ptr x0 fun q17 =>
 ldI .i64 (Addr.add q17 7) H fun n18 =>
 ptr x0 fun q19 =>
 wr (Addr.add q19 8) [(.int .i64 n18)] H fun H20 =>
 ud1_1 Q E x0 H20)
 (ud1_1 Q E x0 H)

def ud1_3_M (Q : QT) (E : ET) (τ : Tau) (H : Heap) : Prop := mP (τ 0) fun x0 => mB (τ 11) fun x11 => ud1_3 Q E x0 x11 H

theorem ud1_4ok (Q : QT) (E : ET) (τ : Tau) (H : Heap) (h : ud1_3_M Q E τ H) : vc Pr ud1_p4 τ (ud1_q2 Q E) E H :=
  vP (i := 0) h (fun x0 h => vB (i := 11) h (fun x11 h => (conv (by kernel_rfl) h)))

@[reducible] noncomputable def ud1_q3 (Q : QT) (E : ET) : Exit → Tau → Heap → Prop := (xthen (ud1_3_M Q E) (ud1_q2 Q E))

@[reducible] noncomputable def ud1_p5 : Code := sA ud1_p3

def ud1_5 (Q : QT) (E : ET) (x0 : OA) (H : Heap) : Prop :=
 ptr x0 fun q21 =>
 ldI .i64 (Addr.add q21 8) H fun n22 =>
 sel (decide ((n22 : Int) < 0))
 (Does Pr 81 #[(.pointer x0), (.bool false)] H (fun v23 H24 =>
 ∃ b25 : Bool, v23 = (.bool b25) ∧ ud1_3 Q E x0 b25 H24) E)
 (ud1_3 Q E x0 false H)

def ud1_5_M (Q : QT) (E : ET) (τ : Tau) (H : Heap) : Prop := mP (τ 0) fun x0 => ud1_5 Q E x0 H

theorem ud1_6ok (Q : QT) (E : ET) (τ : Tau) (H : Heap) (h : ud1_5_M Q E τ H) : vc Pr ud1_p5 τ (ud1_q3 Q E) E H :=
  vP (i := 0) h (fun x0 h => (conv (by kernel_rfl) h))

theorem ud1_7ok (Q : QT) (E : ET) (τ : Tau) (H : Heap) (h : ud1_5_M Q E τ H) : vc Pr ud1_p3 τ (ud1_q2 Q E) E H :=
  (conv (B := vc Pr ud1_p3 τ (ud1_q2 Q E) E H) (by kernel_rfl) (vc_seq (K := (ud1_3_M Q E)) (ud1_6ok Q E τ H h) (ud1_4ok Q E)))

theorem ud1_8ok (Q : QT) (E : ET) (τ : Tau) (H : Heap) (h : ud1_5_M Q E τ H) : vc Pr ud1_p1 τ (ud1_q1 Q E) E H :=
  (conv (B := vc Pr ud1_p1 τ (ud1_q1 Q E) E H) (by kernel_rfl) (vc_seq (K := (ud1_1_M Q E)) (ud1_7ok Q E τ H h) (ud1_2ok Q E)))

@[reducible] noncomputable def ud1_q4 (Q : QT) (E : ET) : Exit → Tau → Heap → Prop := (xthen (ud1_5_M Q E) (ud1_q1 Q E))

@[reducible] noncomputable def ud1_p6 : Code := sA ud1_p0

def ud1 (Q : QT) (E : ET) (a0 : OA) (H : Heap) : Prop :=
 ud1_5 Q E a0 H

theorem ud1_fn (a0 : OA) (Q : QT) (E : ET) (H : Heap) (h : ud1 Q E a0 H)   : Does Pr 79 #[(.pointer a0)] H Q E :=
  Fn_of_vc (fn := Try.f79) (c := ud1_p0) (args := [(.pointer a0)]) mixed (by kernel_rfl) (by kernel_rfl) (by kernel_rfl) (by kernel_rfl) (by kernel_rfl) ((conv (B := vc Pr ud1_p0 (argT [(.pointer a0)]) (ud1_q1 Q E) E H) (by kernel_rfl) (vc_seq (K := (ud1_5_M Q E)) (conv (B := vc Pr ud1_p6 (argT [(.pointer a0)]) (ud1_q4 Q E) E H) (by kernel_rfl) h) (ud1_8ok Q E))))

/-! (*jobmux/auto.set).add -/
@[reducible] noncomputable def ue1_q1 (Q : QT) (E : ET) : Exit → Tau → Heap → Prop := (retQ Pr (Try.f80).results.toList Q)

@[reducible] noncomputable def ue1_p0 : Code := bodyOf Try.f80

def ue1 (Q : QT) (E : ET) (a0 : OA) (a1 : Int) (H : Heap) : Prop :=
 ptr a0 fun q1 =>
 ldSl (Addr.add q1 1) H fun p2 l3 c4 =>
 (0 ≤ (a1 : Int) ∧ (a1 : Int) < ((l3 : Nat) : Int)) ∧ ptr p2 fun q5 =>
 ldB (Addr.add q5 ((a1 : Int).toNat * 1)) H fun b6 =>
 sel (!b6)
 (ptr a0 fun q7 =>
 ldSl (Addr.add q7 1) H fun p8 l9 c10 =>
 (0 ≤ (a1 : Int) ∧ (a1 : Int) < ((l9 : Nat) : Int)) ∧ ptr p8 fun q11 =>
 wr (Addr.add q11 ((a1 : Int).toNat * 1)) [(.bool true)] H fun H12 =>
 ptr a0 fun q13 =>
 ldSl q13 H12 fun p14 l15 c16 =>
 nw (.cells #[(.int .i64 a1)] 3 (0, 0)) H12 fun i17 H18 =>
 app Pr 22 p14 l15 c16 (.slice (some ⟨i17, 0, none⟩) 1 1) H18 fun p19 l20 c21 H22 =>
 ptr a0 fun q23 =>
 wr q23 [(.slice p19 l20 c21)] H22 fun H24 =>
 Q (.tuple #[]) H24)
 (Q (.tuple #[]) H)

theorem ue1_fn (a0 : OA) (a1 : Int) (Q : QT) (E : ET) (H : Heap) (h : ue1 Q E a0 a1 H)   : Does Pr 80 #[(.pointer a0), (.int .i64 a1)] H Q E :=
  Fn_of_vc (fn := Try.f80) (c := ue1_p0) (args := [(.pointer a0), (.int .i64 a1)]) mixed (by kernel_rfl) (by kernel_rfl) (by kernel_rfl) (by kernel_rfl) (by kernel_rfl) ((conv (B := vc Pr ue1_p0 (argT [(.pointer a0), (.int .i64 a1)]) (ue1_q1 Q E) E H) (by kernel_rfl) h))

/-! (*jobmux/auto.Machine).spread -/
@[reducible] noncomputable def uf1_q1 (Q : QT) (E : ET) : Exit → Tau → Heap → Prop := (retQ Pr (Try.f81).results.toList Q)

@[reducible] noncomputable def uf1_p0 : Code := bodyOf Try.f81

@[reducible] noncomputable def uf1_p1 : Code := sB uf1_p0

@[reducible] noncomputable def uf1_p2 : Code := sB uf1_p1

@[reducible] noncomputable def uf1_p3 : Code := sB uf1_p2

def uf1_1 (Q : QT) (E : ET) (x5 : Bool) (H : Heap) : Prop :=
 Q (.bool x5) H

def uf1_1_M (Q : QT) (E : ET) (τ : Tau) (H : Heap) : Prop := mB (τ 5) fun x5 => uf1_1 Q E x5 H

theorem uf1_2ok (Q : QT) (E : ET) (τ : Tau) (H : Heap) (h : uf1_1_M Q E τ H) : vc Pr uf1_p3 τ (uf1_q1 Q E) E H :=
  vB (i := 5) h (fun x5 h => (conv (by kernel_rfl) h))

@[reducible] noncomputable def uf1_q2 (Q : QT) (E : ET) : Exit → Tau → Heap → Prop := (xthen (uf1_1_M Q E) (uf1_q1 Q E))

@[reducible] noncomputable def uf1_p4 : Code := sA uf1_p2

@[reducible] noncomputable def uf1_p5 : Code := sB uf1_p4

@[reducible] noncomputable def uf1_q3 (Q : QT) (E : ET) : Exit → Tau → Heap → Prop := (xblock 0 (uf1_q2 Q E))

@[reducible] noncomputable def uf1_p6 : Code := sI uf1_p5

@[reducible] noncomputable def uf1_q4 (nx40 : Bool → Int → HP) (Q : QT) (E : ET) : Exit → Tau → Heap → Prop := (xthen (fun τ H => mB (τ 5) fun x5' => mI .i64 (τ 6) fun x6' => nx40 x5' x6' H) (uf1_q3 Q E))

@[reducible] noncomputable def uf1_p7 : Code := sI uf1_p6

@[reducible] noncomputable def uf1_p8 : Code := sB uf1_p7

@[reducible] noncomputable def uf1_p9 : Code := sB uf1_p8

def uf1_3 (nx40 : Bool → Int → HP) (Q : QT) (E : ET) (x0 : OA) (x1 : Bool) (x5 : Bool) (x6 : Int) (H : Heap) : Prop :=
 nx40 x5 (IntKind.wrap .i64 (x6 + 1)) H

def uf1_3_M (nx40 : Bool → Int → HP) (Q : QT) (E : ET) (τ : Tau) (H : Heap) : Prop := mP (τ 0) fun x0 => mB (τ 1) fun x1 => mB (τ 5) fun x5 => mI .i64 (τ 6) fun x6 => uf1_3 nx40 Q E x0 x1 x5 x6 H

theorem uf1_4ok (nx40 : Bool → Int → HP) (Q : QT) (E : ET) (τ : Tau) (H : Heap) (h : uf1_3_M nx40 Q E τ H) : vc Pr uf1_p9 τ (uf1_q4 nx40 Q E) E H :=
  vP (i := 0) h (fun x0 h => vB (i := 1) h (fun x1 h => vB (i := 5) h (fun x5 h => vI (i := 6) h (fun x6 h => (conv (by kernel_rfl) h)))))

@[reducible] noncomputable def uf1_q5 (nx40 : Bool → Int → HP) (Q : QT) (E : ET) : Exit → Tau → Heap → Prop := (xthen (uf1_3_M nx40 Q E) (uf1_q4 nx40 Q E))

@[reducible] noncomputable def uf1_p10 : Code := sA uf1_p8

@[reducible] noncomputable def uf1_q6 (nx40 : Bool → Int → HP) (Q : QT) (E : ET) : Exit → Tau → Heap → Prop := (xblock 1 (uf1_q5 nx40 Q E))

@[reducible] noncomputable def uf1_p11 : Code := sI uf1_p10

@[reducible] noncomputable def uf1_p12 : Code := sB uf1_p11

@[reducible] noncomputable def uf1_q7 (nx40 : Bool → Int → HP) (Q : QT) (E : ET) : Exit → Tau → Heap → Prop := (xblock 2 (uf1_q6 nx40 Q E))

@[reducible] noncomputable def uf1_p13 : Code := sI uf1_p12

@[reducible] noncomputable def uf1_p14 : Code := sB uf1_p13

def uf1_5 (nx40 : Bool → Int → HP) (Q : QT) (E : ET) (x0 : OA) (x1 : Bool) (x6 : Int) (H : Heap) : Prop :=
 uf1_3 nx40 Q E x0 x1 true x6 H

def uf1_5_M (nx40 : Bool → Int → HP) (Q : QT) (E : ET) (τ : Tau) (H : Heap) : Prop := mP (τ 0) fun x0 => mB (τ 1) fun x1 => mI .i64 (τ 6) fun x6 => uf1_5 nx40 Q E x0 x1 x6 H

theorem uf1_6ok (nx40 : Bool → Int → HP) (Q : QT) (E : ET) (τ : Tau) (H : Heap) (h : uf1_5_M nx40 Q E τ H) : vc Pr uf1_p14 τ (uf1_q7 nx40 Q E) E H :=
  vP (i := 0) h (fun x0 h => vB (i := 1) h (fun x1 h => vI (i := 6) h (fun x6 h => (conv (by kernel_rfl) h))))

@[reducible] noncomputable def uf1_q8 (nx40 : Bool → Int → HP) (Q : QT) (E : ET) : Exit → Tau → Heap → Prop := (xthen (uf1_5_M nx40 Q E) (uf1_q7 nx40 Q E))

@[reducible] noncomputable def uf1_p15 : Code := sA uf1_p13

@[reducible] noncomputable def uf1_q9 (nx40 : Bool → Int → HP) (Q : QT) (E : ET) : Exit → Tau → Heap → Prop := (xblock 5 (uf1_q8 nx40 Q E))

@[reducible] noncomputable def uf1_p16 : Code := sI uf1_p15

@[reducible] noncomputable def uf1_p17 : Code := sB uf1_p16

def uf1_7 (nx40 : Bool → Int → HP) (Q : QT) (E : ET) (x0 : OA) (x1 : Bool) (x5 : Bool) (x6 : Int) (x7 : OA) (H : Heap) : Prop :=
 ptr x0 fun q125 =>
 ptr x7 fun q126 =>
 ldI .i64 (Addr.add q126 1) H fun n127 =>
 Does Pr 80 #[(.pointer (some (Addr.add q125 1))), (.int .i64 n127)] H (fun v128 H129 =>
 uf1_3 nx40 Q E x0 x1 x5 x6 H129) (fun _ _ => False)

def uf1_7_M (nx40 : Bool → Int → HP) (Q : QT) (E : ET) (τ : Tau) (H : Heap) : Prop := mP (τ 0) fun x0 => mB (τ 1) fun x1 => mB (τ 5) fun x5 => mI .i64 (τ 6) fun x6 => mP (τ 7) fun x7 => uf1_7 nx40 Q E x0 x1 x5 x6 x7 H

theorem uf1_8ok (nx40 : Bool → Int → HP) (Q : QT) (E : ET) (τ : Tau) (H : Heap) (h : uf1_7_M nx40 Q E τ H) : vc Pr uf1_p17 τ (uf1_q9 nx40 Q E) E H :=
  vP (i := 0) h (fun x0 h => vB (i := 1) h (fun x1 h => vB (i := 5) h (fun x5 h => vI (i := 6) h (fun x6 h => vP (i := 7) h (fun x7 h => (conv (by kernel_rfl) h))))))

@[reducible] noncomputable def uf1_q10 (nx40 : Bool → Int → HP) (Q : QT) (E : ET) : Exit → Tau → Heap → Prop := (xthen (uf1_7_M nx40 Q E) (uf1_q9 nx40 Q E))

@[reducible] noncomputable def uf1_p18 : Code := sA uf1_p16

@[reducible] noncomputable def uf1_q11 (nx40 : Bool → Int → HP) (Q : QT) (E : ET) : Exit → Tau → Heap → Prop := (xblock 4 (uf1_q10 nx40 Q E))

@[reducible] noncomputable def uf1_p19 : Code := sI uf1_p18

@[reducible] noncomputable def uf1_p20 : Code := sB uf1_p19

def uf1_9 (nx40 : Bool → Int → HP) (Q : QT) (E : ET) (x0 : OA) (x1 : Bool) (x5 : Bool) (x6 : Int) (x7 : OA) (H : Heap) : Prop :=
 ptr x0 fun q136 =>
 ptr x7 fun q137 =>
 ldI .i64 (Addr.add q137 2) H fun n138 =>
 Does Pr 80 #[(.pointer (some (Addr.add q136 1))), (.int .i64 n138)] H (fun v139 H140 =>
 uf1_7 nx40 Q E x0 x1 x5 x6 x7 H140) (fun _ _ => False)

def uf1_9_M (nx40 : Bool → Int → HP) (Q : QT) (E : ET) (τ : Tau) (H : Heap) : Prop := mP (τ 0) fun x0 => mB (τ 1) fun x1 => mB (τ 5) fun x5 => mI .i64 (τ 6) fun x6 => mP (τ 7) fun x7 => uf1_9 nx40 Q E x0 x1 x5 x6 x7 H

theorem uf1_10ok (nx40 : Bool → Int → HP) (Q : QT) (E : ET) (τ : Tau) (H : Heap) (h : uf1_9_M nx40 Q E τ H) : vc Pr uf1_p20 τ (uf1_q11 nx40 Q E) E H :=
  vP (i := 0) h (fun x0 h => vB (i := 1) h (fun x1 h => vB (i := 5) h (fun x5 h => vI (i := 6) h (fun x6 h => vP (i := 7) h (fun x7 h => (conv (by kernel_rfl) h))))))

@[reducible] noncomputable def uf1_q12 (nx40 : Bool → Int → HP) (Q : QT) (E : ET) : Exit → Tau → Heap → Prop := (xthen (uf1_9_M nx40 Q E) (uf1_q11 nx40 Q E))

@[reducible] noncomputable def uf1_p21 : Code := sA uf1_p19

@[reducible] noncomputable def uf1_q13 (nx40 : Bool → Int → HP) (Q : QT) (E : ET) : Exit → Tau → Heap → Prop := (xblock 3 (uf1_q12 nx40 Q E))

@[reducible] noncomputable def uf1_p22 : Code := sI uf1_p21

@[reducible] noncomputable def uf1_q14 (nx40 : Bool → Int → HP) (Q : QT) (E : ET) : Exit → Tau → Heap → Prop := (xthen (fun τ H => vc Pr (sB uf1_p22) τ (uf1_q13 nx40 Q E) E H) (uf1_q13 nx40 Q E))

@[reducible] noncomputable def uf1_p23 : Code := sA uf1_p22

@[reducible] noncomputable def uf1_p24 : Code := sB uf1_p23

@[reducible] noncomputable def uf1_p25 : Code := sB uf1_p24

def uf1_11 (nx40 : Bool → Int → HP) (Q : QT) (E : ET) (x0 : OA) (x1 : Bool) (x5 : Bool) (x6 : Int) (x7 : OA) (H : Heap) : Prop :=
 ptr x7 fun q152 =>
 ldI .i64 q152 H fun n153 =>
 sel ((n153 : Int) == 5)
 (uf1_5 nx40 Q E x0 x1 x6 H)
 (uf1_3 nx40 Q E x0 x1 x5 x6 H)

def uf1_11_M (nx40 : Bool → Int → HP) (Q : QT) (E : ET) (τ : Tau) (H : Heap) : Prop := mP (τ 0) fun x0 => mB (τ 1) fun x1 => mB (τ 5) fun x5 => mI .i64 (τ 6) fun x6 => mP (τ 7) fun x7 => uf1_11 nx40 Q E x0 x1 x5 x6 x7 H

theorem uf1_12ok (nx40 : Bool → Int → HP) (Q : QT) (E : ET) (τ : Tau) (H : Heap) (h : uf1_11_M nx40 Q E τ H) : vc Pr uf1_p25 τ (uf1_q14 nx40 Q E) E H :=
  vP (i := 0) h (fun x0 h => vB (i := 1) h (fun x1 h => vB (i := 5) h (fun x5 h => vI (i := 6) h (fun x6 h => vP (i := 7) h (fun x7 h => (conv (by kernel_rfl) h))))))

@[reducible] noncomputable def uf1_q15 (nx40 : Bool → Int → HP) (Q : QT) (E : ET) : Exit → Tau → Heap → Prop := (xthen (uf1_11_M nx40 Q E) (uf1_q14 nx40 Q E))

@[reducible] noncomputable def uf1_p26 : Code := sA uf1_p24

@[reducible] noncomputable def uf1_p27 : Code := sB uf1_p26

def uf1_13 (nx40 : Bool → Int → HP) (Q : QT) (E : ET) (x0 : OA) (x1 : Bool) (x5 : Bool) (x6 : Int) (x7 : OA) (x36 : Bool) (H : Heap) : Prop :=
 sel x36
 (uf1_7 nx40 Q E x0 x1 x5 x6 x7 H)
 (uf1_11 nx40 Q E x0 x1 x5 x6 x7 H)

def uf1_13_M (nx40 : Bool → Int → HP) (Q : QT) (E : ET) (τ : Tau) (H : Heap) : Prop := mP (τ 0) fun x0 => mB (τ 1) fun x1 => mB (τ 5) fun x5 => mI .i64 (τ 6) fun x6 => mP (τ 7) fun x7 => mB (τ 36) fun x36 => uf1_13 nx40 Q E x0 x1 x5 x6 x7 x36 H

theorem uf1_14ok (nx40 : Bool → Int → HP) (Q : QT) (E : ET) (τ : Tau) (H : Heap) (h : uf1_13_M nx40 Q E τ H) : vc Pr uf1_p27 τ (uf1_q15 nx40 Q E) E H :=
  vP (i := 0) h (fun x0 h => vB (i := 1) h (fun x1 h => vB (i := 5) h (fun x5 h => vI (i := 6) h (fun x6 h => vP (i := 7) h (fun x7 h => vB (i := 36) h (fun x36 h => (conv (by kernel_rfl) h)))))))

@[reducible] noncomputable def uf1_q16 (nx40 : Bool → Int → HP) (Q : QT) (E : ET) : Exit → Tau → Heap → Prop := (xthen (uf1_13_M nx40 Q E) (uf1_q15 nx40 Q E))

@[reducible] noncomputable def uf1_p28 : Code := sA uf1_p26

@[reducible] noncomputable def uf1_p29 : Code := sB uf1_p28

def uf1_15 (nx40 : Bool → Int → HP) (Q : QT) (E : ET) (x0 : OA) (x1 : Bool) (x5 : Bool) (x6 : Int) (x7 : OA) (x36 : Bool) (H : Heap) : Prop :=
 sel x36
 (uf1_13 nx40 Q E x0 x1 x5 x6 x7 x36 H)
 (ptr x7 fun q161 =>
 ldI .i64 q161 H fun n162 =>
 sel ((n162 : Int) == 4)
 (uf1_13 nx40 Q E x0 x1 x5 x6 x7 x1 H)
 (uf1_13 nx40 Q E x0 x1 x5 x6 x7 false H))

def uf1_15_M (nx40 : Bool → Int → HP) (Q : QT) (E : ET) (τ : Tau) (H : Heap) : Prop := mP (τ 0) fun x0 => mB (τ 1) fun x1 => mB (τ 5) fun x5 => mI .i64 (τ 6) fun x6 => mP (τ 7) fun x7 => mB (τ 36) fun x36 => uf1_15 nx40 Q E x0 x1 x5 x6 x7 x36 H

theorem uf1_16ok (nx40 : Bool → Int → HP) (Q : QT) (E : ET) (τ : Tau) (H : Heap) (h : uf1_15_M nx40 Q E τ H) : vc Pr uf1_p29 τ (uf1_q16 nx40 Q E) E H :=
  vP (i := 0) h (fun x0 h => vB (i := 1) h (fun x1 h => vB (i := 5) h (fun x5 h => vI (i := 6) h (fun x6 h => vP (i := 7) h (fun x7 h => vB (i := 36) h (fun x36 h => (conv (by kernel_rfl) h)))))))

@[reducible] noncomputable def uf1_q17 (nx40 : Bool → Int → HP) (Q : QT) (E : ET) : Exit → Tau → Heap → Prop := (xthen (uf1_15_M nx40 Q E) (uf1_q16 nx40 Q E))

@[reducible] noncomputable def uf1_p30 : Code := sA uf1_p28

def uf1_17 (nx40 : Bool → Int → HP) (Q : QT) (E : ET) (x0 : OA) (x1 : Bool) (x5 : Bool) (x6 : Int) (x7 : OA) (H : Heap) : Prop :=
 ptr x7 fun q163 =>
 ldI .i64 q163 H fun n164 =>
 sel ((n164 : Int) == 3)
 (ptr x0 fun q165 =>
 ldB (Addr.add q165 6) H fun b166 =>
 uf1_15 nx40 Q E x0 x1 x5 x6 x7 b166 H)
 (uf1_15 nx40 Q E x0 x1 x5 x6 x7 false H)

def uf1_17_M (nx40 : Bool → Int → HP) (Q : QT) (E : ET) (τ : Tau) (H : Heap) : Prop := mP (τ 0) fun x0 => mB (τ 1) fun x1 => mB (τ 5) fun x5 => mI .i64 (τ 6) fun x6 => mP (τ 7) fun x7 => uf1_17 nx40 Q E x0 x1 x5 x6 x7 H

theorem uf1_18ok (nx40 : Bool → Int → HP) (Q : QT) (E : ET) (τ : Tau) (H : Heap) (h : uf1_17_M nx40 Q E τ H) : vc Pr uf1_p30 τ (uf1_q17 nx40 Q E) E H :=
  vP (i := 0) h (fun x0 h => vB (i := 1) h (fun x1 h => vB (i := 5) h (fun x5 h => vI (i := 6) h (fun x6 h => vP (i := 7) h (fun x7 h => (conv (by kernel_rfl) h))))))

theorem uf1_19ok (nx40 : Bool → Int → HP) (Q : QT) (E : ET) (τ : Tau) (H : Heap) (h : uf1_17_M nx40 Q E τ H) : vc Pr uf1_p28 τ (uf1_q16 nx40 Q E) E H :=
  (conv (B := vc Pr uf1_p28 τ (uf1_q16 nx40 Q E) E H) (by kernel_rfl) (vc_seq (K := (uf1_15_M nx40 Q E)) (uf1_18ok nx40 Q E τ H h) (uf1_16ok nx40 Q E)))

theorem uf1_20ok (nx40 : Bool → Int → HP) (Q : QT) (E : ET) (τ : Tau) (H : Heap) (h : uf1_17_M nx40 Q E τ H) : vc Pr uf1_p26 τ (uf1_q15 nx40 Q E) E H :=
  (conv (B := vc Pr uf1_p26 τ (uf1_q15 nx40 Q E) E H) (by kernel_rfl) (vc_seq (K := (uf1_13_M nx40 Q E)) (uf1_19ok nx40 Q E τ H h) (uf1_14ok nx40 Q E)))

theorem uf1_21ok (nx40 : Bool → Int → HP) (Q : QT) (E : ET) (τ : Tau) (H : Heap) (h : uf1_17_M nx40 Q E τ H) : vc Pr uf1_p24 τ (uf1_q14 nx40 Q E) E H :=
  (conv (B := vc Pr uf1_p24 τ (uf1_q14 nx40 Q E) E H) (by kernel_rfl) (vc_seq (K := (uf1_11_M nx40 Q E)) (uf1_20ok nx40 Q E τ H h) (uf1_12ok nx40 Q E)))

@[reducible] noncomputable def uf1_q18 (nx40 : Bool → Int → HP) (Q : QT) (E : ET) : Exit → Tau → Heap → Prop := (xthen (uf1_17_M nx40 Q E) (uf1_q14 nx40 Q E))

@[reducible] noncomputable def uf1_p31 : Code := sA uf1_p23

def uf1_22 (nx40 : Bool → Int → HP) (Q : QT) (E : ET) (x0 : OA) (x1 : Bool) (x5 : Bool) (x6 : Int) (x7 : OA) (H : Heap) : Prop :=
 ptr x7 fun q167 =>
 ldI .i64 q167 H fun n168 =>
 sel ((n168 : Int) == 2)
 (uf1_9 nx40 Q E x0 x1 x5 x6 x7 H)
 (uf1_17 nx40 Q E x0 x1 x5 x6 x7 H)

def uf1_22_M (nx40 : Bool → Int → HP) (Q : QT) (E : ET) (τ : Tau) (H : Heap) : Prop := mP (τ 0) fun x0 => mB (τ 1) fun x1 => mB (τ 5) fun x5 => mI .i64 (τ 6) fun x6 => mP (τ 7) fun x7 => uf1_22 nx40 Q E x0 x1 x5 x6 x7 H

theorem uf1_23ok (nx40 : Bool → Int → HP) (Q : QT) (E : ET) (τ : Tau) (H : Heap) (h : uf1_22_M nx40 Q E τ H) : vc Pr uf1_p31 τ (uf1_q18 nx40 Q E) E H :=
  vP (i := 0) h (fun x0 h => vB (i := 1) h (fun x1 h => vB (i := 5) h (fun x5 h => vI (i := 6) h (fun x6 h => vP (i := 7) h (fun x7 h => (conv (by kernel_rfl) h))))))

theorem uf1_24ok (nx40 : Bool → Int → HP) (Q : QT) (E : ET) (τ : Tau) (H : Heap) (h : uf1_22_M nx40 Q E τ H) : vc Pr uf1_p23 τ (uf1_q14 nx40 Q E) E H :=
  (conv (B := vc Pr uf1_p23 τ (uf1_q14 nx40 Q E) E H) (by kernel_rfl) (vc_seq (K := (uf1_17_M nx40 Q E)) (uf1_23ok nx40 Q E τ H h) (uf1_21ok nx40 Q E)))

theorem uf1_25ok (nx40 : Bool → Int → HP) (Q : QT) (E : ET) (τ : Tau) (H : Heap) (h : uf1_22_M nx40 Q E τ H) : vc Pr uf1_p22 τ (uf1_q13 nx40 Q E) E H :=
  (conv (B := vc Pr uf1_p22 τ (uf1_q13 nx40 Q E) E H) (by kernel_rfl) (uf1_24ok nx40 Q E τ H h))

theorem uf1_26ok (nx40 : Bool → Int → HP) (Q : QT) (E : ET) (τ : Tau) (H : Heap) (h : uf1_22_M nx40 Q E τ H) : vc Pr uf1_p21 τ (uf1_q12 nx40 Q E) E H :=
  (conv (B := vc Pr uf1_p21 τ (uf1_q12 nx40 Q E) E H) (by kernel_rfl) (uf1_25ok nx40 Q E τ H h))

theorem uf1_27ok (nx40 : Bool → Int → HP) (Q : QT) (E : ET) (τ : Tau) (H : Heap) (h : uf1_22_M nx40 Q E τ H) : vc Pr uf1_p19 τ (uf1_q11 nx40 Q E) E H :=
  (conv (B := vc Pr uf1_p19 τ (uf1_q11 nx40 Q E) E H) (by kernel_rfl) (vc_seq (K := (uf1_9_M nx40 Q E)) (uf1_26ok nx40 Q E τ H h) (uf1_10ok nx40 Q E)))

theorem uf1_28ok (nx40 : Bool → Int → HP) (Q : QT) (E : ET) (τ : Tau) (H : Heap) (h : uf1_22_M nx40 Q E τ H) : vc Pr uf1_p18 τ (uf1_q10 nx40 Q E) E H :=
  (conv (B := vc Pr uf1_p18 τ (uf1_q10 nx40 Q E) E H) (by kernel_rfl) (uf1_27ok nx40 Q E τ H h))

theorem uf1_29ok (nx40 : Bool → Int → HP) (Q : QT) (E : ET) (τ : Tau) (H : Heap) (h : uf1_22_M nx40 Q E τ H) : vc Pr uf1_p16 τ (uf1_q9 nx40 Q E) E H :=
  (conv (B := vc Pr uf1_p16 τ (uf1_q9 nx40 Q E) E H) (by kernel_rfl) (vc_seq (K := (uf1_7_M nx40 Q E)) (uf1_28ok nx40 Q E τ H h) (uf1_8ok nx40 Q E)))

theorem uf1_30ok (nx40 : Bool → Int → HP) (Q : QT) (E : ET) (τ : Tau) (H : Heap) (h : uf1_22_M nx40 Q E τ H) : vc Pr uf1_p15 τ (uf1_q8 nx40 Q E) E H :=
  (conv (B := vc Pr uf1_p15 τ (uf1_q8 nx40 Q E) E H) (by kernel_rfl) (uf1_29ok nx40 Q E τ H h))

theorem uf1_31ok (nx40 : Bool → Int → HP) (Q : QT) (E : ET) (τ : Tau) (H : Heap) (h : uf1_22_M nx40 Q E τ H) : vc Pr uf1_p13 τ (uf1_q7 nx40 Q E) E H :=
  (conv (B := vc Pr uf1_p13 τ (uf1_q7 nx40 Q E) E H) (by kernel_rfl) (vc_seq (K := (uf1_5_M nx40 Q E)) (uf1_30ok nx40 Q E τ H h) (uf1_6ok nx40 Q E)))

theorem uf1_32ok (nx40 : Bool → Int → HP) (Q : QT) (E : ET) (τ : Tau) (H : Heap) (h : uf1_22_M nx40 Q E τ H) : vc Pr uf1_p12 τ (uf1_q6 nx40 Q E) E H :=
  (conv (B := vc Pr uf1_p12 τ (uf1_q6 nx40 Q E) E H) (by kernel_rfl) (uf1_31ok nx40 Q E τ H h))

@[reducible] noncomputable def uf1_q19 (nx40 : Bool → Int → HP) (Q : QT) (E : ET) : Exit → Tau → Heap → Prop := (xthen (uf1_22_M nx40 Q E) (uf1_q6 nx40 Q E))

@[reducible] noncomputable def uf1_p32 : Code := sA uf1_p11

def uf1_33 (nx40 : Bool → Int → HP) (Q : QT) (E : ET) (x0 : OA) (x1 : Bool) (x5 : Bool) (x6 : Int) (H : Heap) : Prop :=
 ptr x0 fun q169 =>
 ldSl q169 H fun p170 l171 c172 =>
 ptr x0 fun q173 =>
 ldSl (Addr.add q173 1) H fun p174 l175 c176 =>
 (0 ≤ (x6 : Int) ∧ (x6 : Int) < ((l175 : Nat) : Int)) ∧ ptr p174 fun q177 =>
 ldI .i64 (Addr.add q177 ((x6 : Int).toNat * 1)) H fun n178 =>
 (0 ≤ (n178 : Int) ∧ (n178 : Int) < ((l171 : Nat) : Int)) ∧ ptr p170 fun q179 =>
 ∃ n180 n181 n182 n183 n184 n185 n186 : Int, Heap.rd H (Addr.add q179 ((n178 : Int).toNat * 7)) 0 [(.int .i64 n180), (.int .i64 n181), (.int .i64 n182), (.int .u64 n183), (.int .u64 n184), (.int .u64 n185), (.int .u64 n186)] ∧ nw (.cells #[(.int .i64 0), (.int .i64 0), (.int .i64 0), (.int .u64 0), (.int .u64 0), (.int .u64 0), (.int .u64 0)] 91 (0, 0)) H fun i187 H188 =>
 wr ⟨i187, 0, none⟩ [(.int .i64 n180), (.int .i64 n181), (.int .i64 n182), (.int .u64 n183), (.int .u64 n184), (.int .u64 n185), (.int .u64 n186)] H188 fun H189 =>
 uf1_22 nx40 Q E x0 x1 x5 x6 (some ⟨i187, 0, none⟩) H189

def uf1_33_M (nx40 : Bool → Int → HP) (Q : QT) (E : ET) (τ : Tau) (H : Heap) : Prop := mP (τ 0) fun x0 => mB (τ 1) fun x1 => mB (τ 5) fun x5 => mI .i64 (τ 6) fun x6 => uf1_33 nx40 Q E x0 x1 x5 x6 H

theorem uf1_34ok (nx40 : Bool → Int → HP) (Q : QT) (E : ET) (τ : Tau) (H : Heap) (h : uf1_33_M nx40 Q E τ H) : vc Pr uf1_p32 τ (uf1_q19 nx40 Q E) E H :=
  vP (i := 0) h (fun x0 h => vB (i := 1) h (fun x1 h => vB (i := 5) h (fun x5 h => vI (i := 6) h (fun x6 h => (conv (by kernel_rfl) h)))))

theorem uf1_35ok (nx40 : Bool → Int → HP) (Q : QT) (E : ET) (τ : Tau) (H : Heap) (h : uf1_33_M nx40 Q E τ H) : vc Pr uf1_p11 τ (uf1_q6 nx40 Q E) E H :=
  (conv (B := vc Pr uf1_p11 τ (uf1_q6 nx40 Q E) E H) (by kernel_rfl) (vc_seq (K := (uf1_22_M nx40 Q E)) (uf1_34ok nx40 Q E τ H h) (uf1_32ok nx40 Q E)))

theorem uf1_36ok (nx40 : Bool → Int → HP) (Q : QT) (E : ET) (τ : Tau) (H : Heap) (h : uf1_33_M nx40 Q E τ H) : vc Pr uf1_p10 τ (uf1_q5 nx40 Q E) E H :=
  (conv (B := vc Pr uf1_p10 τ (uf1_q5 nx40 Q E) E H) (by kernel_rfl) (uf1_35ok nx40 Q E τ H h))

theorem uf1_37ok (nx40 : Bool → Int → HP) (Q : QT) (E : ET) (τ : Tau) (H : Heap) (h : uf1_33_M nx40 Q E τ H) : vc Pr uf1_p8 τ (uf1_q4 nx40 Q E) E H :=
  (conv (B := vc Pr uf1_p8 τ (uf1_q4 nx40 Q E) E H) (by kernel_rfl) (vc_seq (K := (uf1_3_M nx40 Q E)) (uf1_36ok nx40 Q E τ H h) (uf1_4ok nx40 Q E)))

@[reducible] noncomputable def uf1_q20 (nx40 : Bool → Int → HP) (Q : QT) (E : ET) : Exit → Tau → Heap → Prop := (xthen (uf1_33_M nx40 Q E) (uf1_q4 nx40 Q E))

@[reducible] noncomputable def uf1_p33 : Code := sA uf1_p7

def uf1_38 (nx40 : Bool → Int → HP) (Q : QT) (E : ET) (x0 : OA) (x1 : Bool) (x5 : Bool) (x6 : Int) (H : Heap) : Prop :=
 ptr x0 fun q190 =>
 ldSl (Addr.add q190 1) H fun p191 l192 c193 =>
 sel (decide ((x6 : Int) < ((l192 : Nat) : Int)))
 (uf1_33 nx40 Q E x0 x1 x5 x6 H)
 (uf1_1 Q E x5 H)

def uf1_38_M (nx40 : Bool → Int → HP) (Q : QT) (E : ET) (τ : Tau) (H : Heap) : Prop := mP (τ 0) fun x0 => mB (τ 1) fun x1 => mB (τ 5) fun x5 => mI .i64 (τ 6) fun x6 => uf1_38 nx40 Q E x0 x1 x5 x6 H

theorem uf1_39ok (nx40 : Bool → Int → HP) (Q : QT) (E : ET) (τ : Tau) (H : Heap) (h : uf1_38_M nx40 Q E τ H) : vc Pr uf1_p33 τ (uf1_q20 nx40 Q E) E H :=
  vP (i := 0) h (fun x0 h => vB (i := 1) h (fun x1 h => vB (i := 5) h (fun x5 h => vI (i := 6) h (fun x6 h => (conv (by kernel_rfl) h)))))

theorem uf1_40ok (nx40 : Bool → Int → HP) (Q : QT) (E : ET) (τ : Tau) (H : Heap) (h : uf1_38_M nx40 Q E τ H) : vc Pr uf1_p7 τ (uf1_q4 nx40 Q E) E H :=
  (conv (B := vc Pr uf1_p7 τ (uf1_q4 nx40 Q E) E H) (by kernel_rfl) (vc_seq (K := (uf1_33_M nx40 Q E)) (uf1_39ok nx40 Q E τ H h) (uf1_37ok nx40 Q E)))

def uf1_41 (Q : QT) (E : ET) (x0 : OA) (x1 : Bool) (x5 : Bool) (x6 : Int) (H : Heap) : Prop :=
 ∃ (I : Bool → Int → HP) (μ : Bool → Int → Heap → Nat), I x5 x6 H ∧ ∀ (x5 : Bool) (x6 : Int) (H : Heap), I x5 x6 H →
 uf1_38 (fun x5' x6' H1 => I x5' x6' H1 ∧ μ x5' x6' H1 < μ x5 x6 H) Q E x0 x1 x5 x6 H

def uf1_41_M (Q : QT) (E : ET) (τ : Tau) (H : Heap) : Prop := mP (τ 0) fun x0 => mB (τ 1) fun x1 => mB (τ 5) fun x5 => mI .i64 (τ 6) fun x6 => uf1_41 Q E x0 x1 x5 x6 H

theorem uf1_42ok (Q : QT) (E : ET) (τ : Tau) (H : Heap) (h : uf1_41_M Q E τ H) : vc Pr uf1_p6 τ (uf1_q3 Q E) E H :=
  vP (i := 0) h (fun x0 h => vB (i := 1) h (fun x1 h => vB (i := 5) h (fun x5 h => vI (i := 6) h (fun x6 h => match h with | ⟨I, μ, h0, hr⟩ => (conv (B := vc Pr uf1_p6 (Tau.upd (Tau.upd (Tau.upd (Tau.upd τ 0 (.pointer x0)) 1 (.bool x1)) 5 (.bool x5)) 6 (.int .i64 x6)) (uf1_q3 Q E) E H) (by kernel_rfl) (vc_loop (c := sI uf1_p6) (τ := (Tau.upd (Tau.upd (Tau.upd (Tau.upd τ 0 (.pointer x0)) 1 (.bool x1)) 5 (.bool x5)) 6 (.int .i64 x6))) [0, 1] (fun τ H => mB (τ 5) fun x5' => mI .i64 (τ 6) fun x6' => I x5' x6' H) (fun τ H => μ (gB (τ 5)) (gI (τ 6)) H) (by kernel_rfl) h0 (fun τ1 H1 hf hI => fix_elim (τ := τ1) (i := 0) (v := (.pointer x0)) (G := fun τ => vc Pr (sI uf1_p6) τ (xthen (fun τ2 H2 => (mB (τ2 5) fun x5' => mI .i64 (τ2 6) fun x6' => I x5' x6' H2) ∧ μ (gB (τ2 5)) (gI (τ2 6)) H2 < μ (gB (τ 5)) (gI (τ 6)) H1) (uf1_q3 Q E)) E H1) (hf 0 (by simp)) (fix_elim (τ := (Tau.upd τ1 0 (.pointer x0))) (i := 1) (v := (.bool x1)) (G := fun τ => vc Pr (sI uf1_p6) τ (xthen (fun τ2 H2 => (mB (τ2 5) fun x5' => mI .i64 (τ2 6) fun x6' => I x5' x6' H2) ∧ μ (gB (τ2 5)) (gI (τ2 6)) H2 < μ (gB (τ 5)) (gI (τ 6)) H1) (uf1_q3 Q E)) E H1) (hf 1 (by simp)) (mB_elim (i := 5) (G := fun τ => vc Pr (sI uf1_p6) τ (xthen (fun τ2 H2 => (mB (τ2 5) fun x5' => mI .i64 (τ2 6) fun x6' => I x5' x6' H2) ∧ μ (gB (τ2 5)) (gI (τ2 6)) H2 < μ (gB (τ 5)) (gI (τ 6)) H1) (uf1_q3 Q E)) E H1) hI (fun x5r h => mI_elim (i := 6) (G := fun τ => vc Pr (sI uf1_p6) τ (xthen (fun τ2 H2 => (mB (τ2 5) fun x5' => mI .i64 (τ2 6) fun x6' => I x5' x6' H2) ∧ μ (gB (τ2 5)) (gI (τ2 6)) H2 < μ (gB (τ 5)) (gI (τ 6)) H1) (uf1_q3 Q E)) E H1) h (fun x6r h => (conv (B := vc Pr (sI uf1_p6) (Tau.upd (Tau.upd (Tau.upd (Tau.upd τ1 0 (.pointer x0)) 1 (.bool x1)) 5 (.bool x5r)) 6 (.int .i64 x6r)) (xthen (fun τ2 H2 => (mB (τ2 5) fun x5' => mI .i64 (τ2 6) fun x6' => I x5' x6' H2) ∧ μ (gB (τ2 5)) (gI (τ2 6)) H2 < μ (gB ((Tau.upd (Tau.upd (Tau.upd (Tau.upd τ1 0 (.pointer x0)) 1 (.bool x1)) 5 (.bool x5r)) 6 (.int .i64 x6r)) 5)) (gI ((Tau.upd (Tau.upd (Tau.upd (Tau.upd τ1 0 (.pointer x0)) 1 (.bool x1)) 5 (.bool x5r)) 6 (.int .i64 x6r)) 6)) H1) (uf1_q3 Q E)) E H1) (by kernel_rfl) (vc_xthen (uf1_40ok (fun x5' x6' H2 => I x5' x6' H2 ∧ μ x5' x6' H2 < μ x5r x6r H1) Q E (Tau.upd (Tau.upd (Tau.upd (Tau.upd τ1 0 (.pointer x0)) 1 (.bool x1)) 5 (.bool x5r)) 6 (.int .i64 x6r)) H1 (conv (B := uf1_38_M (fun x5' x6' H2 => I x5' x6' H2 ∧ μ x5' x6' H2 < μ x5r x6r H1) Q E (Tau.upd (Tau.upd (Tau.upd (Tau.upd τ1 0 (.pointer x0)) 1 (.bool x1)) 5 (.bool x5r)) 6 (.int .i64 x6r)) H1) (by kernel_rfl) (hr x5r x6r H1 h))) (fun τ2 H2 hk => mB_elim (i := 5) (G := fun τ => (mB (τ 5) fun x5' => mI .i64 (τ 6) fun x6' => I x5' x6' H2) ∧ μ (gB (τ 5)) (gI (τ 6)) H2 < μ x5r x6r H1) hk (fun x5' h => mI_elim (i := 6) (G := fun τ => (mB (τ 5) fun x5' => mI .i64 (τ 6) fun x6' => I x5' x6' H2) ∧ μ (gB (τ 5)) (gI (τ 6)) H2 < μ x5r x6r H1) h (fun x6' h => h))))))))))))))))

theorem uf1_43ok (Q : QT) (E : ET) (τ : Tau) (H : Heap) (h : uf1_41_M Q E τ H) : vc Pr uf1_p5 τ (uf1_q2 Q E) E H :=
  (conv (B := vc Pr uf1_p5 τ (uf1_q2 Q E) E H) (by kernel_rfl) (uf1_42ok Q E τ H h))

@[reducible] noncomputable def uf1_q21 (Q : QT) (E : ET) : Exit → Tau → Heap → Prop := (xthen (uf1_41_M Q E) (uf1_q2 Q E))

@[reducible] noncomputable def uf1_p34 : Code := sA uf1_p4

def uf1_44 (Q : QT) (E : ET) (x0 : OA) (x1 : Bool) (x5 : Bool) (H : Heap) : Prop :=
 uf1_41 Q E x0 x1 x5 0 H

def uf1_44_M (Q : QT) (E : ET) (τ : Tau) (H : Heap) : Prop := mP (τ 0) fun x0 => mB (τ 1) fun x1 => mB (τ 5) fun x5 => uf1_44 Q E x0 x1 x5 H

theorem uf1_45ok (Q : QT) (E : ET) (τ : Tau) (H : Heap) (h : uf1_44_M Q E τ H) : vc Pr uf1_p34 τ (uf1_q21 Q E) E H :=
  vP (i := 0) h (fun x0 h => vB (i := 1) h (fun x1 h => vB (i := 5) h (fun x5 h => (conv (by kernel_rfl) h))))

theorem uf1_46ok (Q : QT) (E : ET) (τ : Tau) (H : Heap) (h : uf1_44_M Q E τ H) : vc Pr uf1_p4 τ (uf1_q2 Q E) E H :=
  (conv (B := vc Pr uf1_p4 τ (uf1_q2 Q E) E H) (by kernel_rfl) (vc_seq (K := (uf1_41_M Q E)) (uf1_45ok Q E τ H h) (uf1_43ok Q E)))

theorem uf1_47ok (Q : QT) (E : ET) (τ : Tau) (H : Heap) (h : uf1_44_M Q E τ H) : vc Pr uf1_p2 τ (uf1_q1 Q E) E H :=
  (conv (B := vc Pr uf1_p2 τ (uf1_q1 Q E) E H) (by kernel_rfl) (vc_seq (K := (uf1_1_M Q E)) (uf1_46ok Q E τ H h) (uf1_2ok Q E)))

@[reducible] noncomputable def uf1_q22 (Q : QT) (E : ET) : Exit → Tau → Heap → Prop := (xthen (uf1_44_M Q E) (uf1_q1 Q E))

@[reducible] noncomputable def uf1_p35 : Code := sA uf1_p1

def uf1_48 (Q : QT) (E : ET) (x0 : OA) (x1 : Bool) (H : Heap) : Prop :=
 uf1_44 Q E x0 x1 false H

def uf1_48_M (Q : QT) (E : ET) (τ : Tau) (H : Heap) : Prop := mP (τ 0) fun x0 => mB (τ 1) fun x1 => uf1_48 Q E x0 x1 H

theorem uf1_49ok (Q : QT) (E : ET) (τ : Tau) (H : Heap) (h : uf1_48_M Q E τ H) : vc Pr uf1_p35 τ (uf1_q22 Q E) E H :=
  vP (i := 0) h (fun x0 h => vB (i := 1) h (fun x1 h => (conv (by kernel_rfl) h)))

theorem uf1_50ok (Q : QT) (E : ET) (τ : Tau) (H : Heap) (h : uf1_48_M Q E τ H) : vc Pr uf1_p1 τ (uf1_q1 Q E) E H :=
  (conv (B := vc Pr uf1_p1 τ (uf1_q1 Q E) E H) (by kernel_rfl) (vc_seq (K := (uf1_44_M Q E)) (uf1_49ok Q E τ H h) (uf1_47ok Q E)))

@[reducible] noncomputable def uf1_q23 (Q : QT) (E : ET) : Exit → Tau → Heap → Prop := (xthen (uf1_48_M Q E) (uf1_q1 Q E))

@[reducible] noncomputable def uf1_p36 : Code := sA uf1_p0

def uf1 (Q : QT) (E : ET) (a0 : OA) (a1 : Bool) (H : Heap) : Prop :=
 uf1_48 Q E a0 a1 H

theorem uf1_fn (a0 : OA) (a1 : Bool) (Q : QT) (E : ET) (H : Heap) (h : uf1 Q E a0 a1 H)   : Does Pr 81 #[(.pointer a0), (.bool a1)] H Q E :=
  Fn_of_vc (fn := Try.f81) (c := uf1_p0) (args := [(.pointer a0), (.bool a1)]) mixed (by kernel_rfl) (by kernel_rfl) (by kernel_rfl) (by kernel_rfl) (by kernel_rfl) ((conv (B := vc Pr uf1_p0 (argT [(.pointer a0), (.bool a1)]) (uf1_q1 Q E) E H) (by kernel_rfl) (vc_seq (K := (uf1_48_M Q E)) (conv (B := vc Pr uf1_p36 (argT [(.pointer a0), (.bool a1)]) (uf1_q23 Q E) E H) (by kernel_rfl) h) (uf1_50ok Q E))))

/-! (*jobmux/auto.builder).put -/
@[reducible] noncomputable def ug1_q1 (Q : QT) (E : ET) : Exit → Tau → Heap → Prop := (retQ Pr (Try.f82).results.toList Q)

@[reducible] noncomputable def ug1_p0 : Code := bodyOf Try.f82

def ug1 (Q : QT) (E : ET) (a0 : OA) (a1_0 : Int) (a1_1 : Int) (a1_2 : Int) (a1_3 : Int) (a1_4 : Int) (a1_5 : Int) (a1_6 : Int) (H : Heap) : Prop :=
 nw (.cells #[(.int .i64 a1_0), (.int .i64 a1_1), (.int .i64 a1_2), (.int .u64 a1_3), (.int .u64 a1_4), (.int .u64 a1_5), (.int .u64 a1_6)] 91 (0, 0)) H fun i1 H2 =>
 ptr a0 fun q3 =>
 ldSl (Addr.add q3 1) H2 fun p4 l5 c6 =>
 ∃ n7 n8 n9 n10 n11 n12 n13 : Int, Heap.rd H2 ⟨i1, 0, none⟩ 0 [(.int .i64 n7), (.int .i64 n8), (.int .i64 n9), (.int .u64 n10), (.int .u64 n11), (.int .u64 n12), (.int .u64 n13)] ∧ nw (.cells #[(.int .i64 n7), (.int .i64 n8), (.int .i64 n9), (.int .u64 n10), (.int .u64 n11), (.int .u64 n12), (.int .u64 n13)] 91 (0, 0)) H2 fun i14 H15 =>
 app Pr 50 p4 l5 c6 (.slice (some ⟨i14, 0, none⟩) 1 1) H15 fun p16 l17 c18 H19 =>
 ptr a0 fun q20 =>
 wr (Addr.add q20 1) [(.slice p16 l17 c18)] H19 fun H21 =>
 ptr a0 fun q22 =>
 ldSl (Addr.add q22 1) H21 fun p23 l24 c25 =>
 Q (.int .i64 (IntKind.wrap .i64 (((l24 : Nat) : Int) - 1))) H21

theorem ug1_fn (a0 : OA) (a1_0 : Int) (a1_1 : Int) (a1_2 : Int) (a1_3 : Int) (a1_4 : Int) (a1_5 : Int) (a1_6 : Int) (Q : QT) (E : ET) (H : Heap) (h : ug1 Q E a0 a1_0 a1_1 a1_2 a1_3 a1_4 a1_5 a1_6 H)   : Does Pr 82 #[(.pointer a0), (.agg #[(.int .i64 a1_0), (.int .i64 a1_1), (.int .i64 a1_2), (.int .u64 a1_3), (.int .u64 a1_4), (.int .u64 a1_5), (.int .u64 a1_6)])] H Q E :=
  Fn_of_vc (fn := Try.f82) (c := ug1_p0) (args := [(.pointer a0), (.agg #[(.int .i64 a1_0), (.int .i64 a1_1), (.int .i64 a1_2), (.int .u64 a1_3), (.int .u64 a1_4), (.int .u64 a1_5), (.int .u64 a1_6)])]) mixed (by kernel_rfl) (by kernel_rfl) (by kernel_rfl) (by kernel_rfl) (by kernel_rfl) ((conv (B := vc Pr ug1_p0 (argT [(.pointer a0), (.agg #[(.int .i64 a1_0), (.int .i64 a1_1), (.int .i64 a1_2), (.int .u64 a1_3), (.int .u64 a1_4), (.int .u64 a1_5), (.int .u64 a1_6)])]) (ug1_q1 Q E) E H) (by kernel_rfl) h))

/-! (*jobmux/auto.builder).build -/
@[reducible] noncomputable def uh1_q1 (Q : QT) (E : ET) : Exit → Tau → Heap → Prop := (retQ Pr (Try.f83).results.toList Q)

@[reducible] noncomputable def uh1_p0 : Code := bodyOf Try.f83

@[reducible] noncomputable def uh1_p1 : Code := sB uh1_p0

@[reducible] noncomputable def uh1_p2 : Code := sB uh1_p1

@[reducible] noncomputable def uh1_p3 : Code := sB uh1_p2

def uh1_1 (Q : QT) (E : ET) (x2 : Int) (H : Heap) : Prop :=
 Q (.int .i64 x2) H

def uh1_1_M (Q : QT) (E : ET) (τ : Tau) (H : Heap) : Prop := mI .i64 (τ 2) fun x2 => uh1_1 Q E x2 H

theorem uh1_2ok (Q : QT) (E : ET) (τ : Tau) (H : Heap) (h : uh1_1_M Q E τ H) : vc Pr uh1_p3 τ (uh1_q1 Q E) E H :=
  vI (i := 2) h (fun x2 h => (conv (by kernel_rfl) h))

@[reducible] noncomputable def uh1_q2 (Q : QT) (E : ET) : Exit → Tau → Heap → Prop := (xthen (uh1_1_M Q E) (uh1_q1 Q E))

@[reducible] noncomputable def uh1_p4 : Code := sA uh1_p2

@[reducible] noncomputable def uh1_p5 : Code := sB uh1_p4

@[reducible] noncomputable def uh1_q3 (Q : QT) (E : ET) : Exit → Tau → Heap → Prop := (xblock 0 (uh1_q2 Q E))

@[reducible] noncomputable def uh1_p6 : Code := sI uh1_p5

@[reducible] noncomputable def uh1_p7 : Code := sB uh1_p6

@[reducible] noncomputable def uh1_p8 : Code := sT uh1_p7

def uh1_3 (Q : QT) (E : ET) (x0 : OA) (x2 : Int) (x7 : OA) (H : Heap) : Prop :=
 ptr x7 fun q73 =>
 ∃ n74 n75 n76 n77 : Int, Heap.rd H (Addr.add q73 3) 0 [(.int .u64 n74), (.int .u64 n75), (.int .u64 n76), (.int .u64 n77)] ∧ Does Pr 82 #[(.pointer x0), (.agg #[(.int .i64 1), (.int .i64 x2), (.int .i64 0), (.int .u64 n74), (.int .u64 n75), (.int .u64 n76), (.int .u64 n77)])] H (fun v78 H79 =>
 ∃ n80 : Int, v78 = (.int .i64 n80) ∧ Q (.int .i64 n80) H79) E

def uh1_3_M (Q : QT) (E : ET) (τ : Tau) (H : Heap) : Prop := mP (τ 0) fun x0 => mI .i64 (τ 2) fun x2 => mP (τ 7) fun x7 => uh1_3 Q E x0 x2 x7 H

theorem uh1_4ok (Q : QT) (E : ET) (τ : Tau) (H : Heap) (h : uh1_3_M Q E τ H) : vc Pr uh1_p8 τ (uh1_q3 Q E) E H :=
  vP (i := 0) h (fun x0 h => vI (i := 2) h (fun x2 h => vP (i := 7) h (fun x7 h => (conv (by kernel_rfl) h))))

@[reducible] noncomputable def uh1_p9 : Code := sE uh1_p7

@[reducible] noncomputable def uh1_p10 : Code := sB uh1_p9

@[reducible] noncomputable def uh1_p11 : Code := sT uh1_p10

def uh1_5 (Q : QT) (E : ET) (x0 : OA) (x2 : Int) (H : Heap) : Prop :=
 Does Pr 82 #[(.pointer x0), (.agg #[(.int .i64 3), (.int .i64 x2), (.int .i64 0), (.int .u64 0), (.int .u64 0), (.int .u64 0), (.int .u64 0)])] H (fun v81 H82 =>
 ∃ n83 : Int, v81 = (.int .i64 n83) ∧ Q (.int .i64 n83) H82) E

def uh1_5_M (Q : QT) (E : ET) (τ : Tau) (H : Heap) : Prop := mP (τ 0) fun x0 => mI .i64 (τ 2) fun x2 => uh1_5 Q E x0 x2 H

theorem uh1_6ok (Q : QT) (E : ET) (τ : Tau) (H : Heap) (h : uh1_5_M Q E τ H) : vc Pr uh1_p11 τ (uh1_q3 Q E) E H :=
  vP (i := 0) h (fun x0 h => vI (i := 2) h (fun x2 h => (conv (by kernel_rfl) h)))

@[reducible] noncomputable def uh1_p12 : Code := sE uh1_p10

@[reducible] noncomputable def uh1_p13 : Code := sB uh1_p12

@[reducible] noncomputable def uh1_p14 : Code := sT uh1_p13

def uh1_7 (Q : QT) (E : ET) (x0 : OA) (x2 : Int) (H : Heap) : Prop :=
 Does Pr 82 #[(.pointer x0), (.agg #[(.int .i64 4), (.int .i64 x2), (.int .i64 0), (.int .u64 0), (.int .u64 0), (.int .u64 0), (.int .u64 0)])] H (fun v84 H85 =>
 ∃ n86 : Int, v84 = (.int .i64 n86) ∧ Q (.int .i64 n86) H85) E

def uh1_7_M (Q : QT) (E : ET) (τ : Tau) (H : Heap) : Prop := mP (τ 0) fun x0 => mI .i64 (τ 2) fun x2 => uh1_7 Q E x0 x2 H

theorem uh1_8ok (Q : QT) (E : ET) (τ : Tau) (H : Heap) (h : uh1_7_M Q E τ H) : vc Pr uh1_p14 τ (uh1_q3 Q E) E H :=
  vP (i := 0) h (fun x0 h => vI (i := 2) h (fun x2 h => (conv (by kernel_rfl) h)))

@[reducible] noncomputable def uh1_p15 : Code := sE uh1_p13

@[reducible] noncomputable def uh1_p16 : Code := sB uh1_p15

@[reducible] noncomputable def uh1_p17 : Code := sT uh1_p16

def uh1_9 (Q : QT) (E : ET) (x0 : OA) (x2 : Int) (x7 : OA) (H : Heap) : Prop :=
 ∃ Z87 : Nat → Prop,
 ptr x7 fun q88 =>
 Z87 (Addr.block (Addr.add q88 1)) ∧ ldI .i64 (Addr.add q88 1) H fun n89 =>
 ptr x7 fun q90 =>
 ldI .i64 (Addr.add q90 2) H fun n91 =>
 Does Pr 83 #[(.pointer x0), (.int .i64 n91), (.int .i64 x2)] H (fun v92 H93 =>
 ∃ n94 : Int, v92 = (.int .i64 n94) ∧ (∀ z, Z87 z → H93 z = H z) ∧ Does Pr 83 #[(.pointer x0), (.int .i64 n89), (.int .i64 n94)] H93 (fun v95 H96 =>
 ∃ n97 : Int, v95 = (.int .i64 n97) ∧ Q (.int .i64 n97) H96) (fun _ _ => False)) (fun _ _ => False)

def uh1_9_M (Q : QT) (E : ET) (τ : Tau) (H : Heap) : Prop := mP (τ 0) fun x0 => mI .i64 (τ 2) fun x2 => mP (τ 7) fun x7 => uh1_9 Q E x0 x2 x7 H

theorem uh1_10ok (Q : QT) (E : ET) (τ : Tau) (H : Heap) (h : uh1_9_M Q E τ H) : vc Pr uh1_p17 τ (uh1_q3 Q E) E H :=
  vP (i := 0) h (fun x0 h => vI (i := 2) h (fun x2 h => vP (i := 7) h (fun x7 h => (conv (by kernel_rfl) h))))

@[reducible] noncomputable def uh1_p18 : Code := sE uh1_p16

@[reducible] noncomputable def uh1_p19 : Code := sB uh1_p18

@[reducible] noncomputable def uh1_p20 : Code := sT uh1_p19

def uh1_11 (Q : QT) (E : ET) (x0 : OA) (x2 : Int) (x7 : OA) (H : Heap) : Prop :=
 ∃ Z98 : Nat → Prop,
 ptr x7 fun q99 =>
 ldI .i64 (Addr.add q99 1) H fun n100 =>
 ptr x7 fun q101 =>
 Z98 (Addr.block (Addr.add q101 2)) ∧ ldI .i64 (Addr.add q101 2) H fun n102 =>
 Does Pr 83 #[(.pointer x0), (.int .i64 n100), (.int .i64 x2)] H (fun v103 H104 =>
 ∃ n105 : Int, v103 = (.int .i64 n105) ∧ (∀ z, Z98 z → H104 z = H z) ∧ Does Pr 83 #[(.pointer x0), (.int .i64 n102), (.int .i64 x2)] H104 (fun v106 H107 =>
 ∃ n108 : Int, v106 = (.int .i64 n108) ∧ Does Pr 82 #[(.pointer x0), (.agg #[(.int .i64 2), (.int .i64 n105), (.int .i64 n108), (.int .u64 0), (.int .u64 0), (.int .u64 0), (.int .u64 0)])] H107 (fun v109 H110 =>
 ∃ n111 : Int, v109 = (.int .i64 n111) ∧ Q (.int .i64 n111) H110) (fun _ _ => False)) (fun _ _ => False)) (fun _ _ => False)

def uh1_11_M (Q : QT) (E : ET) (τ : Tau) (H : Heap) : Prop := mP (τ 0) fun x0 => mI .i64 (τ 2) fun x2 => mP (τ 7) fun x7 => uh1_11 Q E x0 x2 x7 H

theorem uh1_12ok (Q : QT) (E : ET) (τ : Tau) (H : Heap) (h : uh1_11_M Q E τ H) : vc Pr uh1_p20 τ (uh1_q3 Q E) E H :=
  vP (i := 0) h (fun x0 h => vI (i := 2) h (fun x2 h => vP (i := 7) h (fun x7 h => (conv (by kernel_rfl) h))))

@[reducible] noncomputable def uh1_p21 : Code := sE uh1_p19

@[reducible] noncomputable def uh1_p22 : Code := sB uh1_p21

@[reducible] noncomputable def uh1_p23 : Code := sT uh1_p22

def uh1_13 (Q : QT) (E : ET) (x0 : OA) (x2 : Int) (x7 : OA) (H : Heap) : Prop :=
 ptr x7 fun q112 =>
 ldI .i64 (Addr.add q112 1) H fun n113 =>
 Does Pr 83 #[(.pointer x0), (.int .i64 n113), (.int .i64 x2)] H (fun v114 H115 =>
 ∃ n116 : Int, v114 = (.int .i64 n116) ∧ Does Pr 82 #[(.pointer x0), (.agg #[(.int .i64 2), (.int .i64 n116), (.int .i64 x2), (.int .u64 0), (.int .u64 0), (.int .u64 0), (.int .u64 0)])] H115 (fun v117 H118 =>
 ∃ n119 : Int, v117 = (.int .i64 n119) ∧ Q (.int .i64 n119) H118) E) E

def uh1_13_M (Q : QT) (E : ET) (τ : Tau) (H : Heap) : Prop := mP (τ 0) fun x0 => mI .i64 (τ 2) fun x2 => mP (τ 7) fun x7 => uh1_13 Q E x0 x2 x7 H

theorem uh1_14ok (Q : QT) (E : ET) (τ : Tau) (H : Heap) (h : uh1_13_M Q E τ H) : vc Pr uh1_p23 τ (uh1_q3 Q E) E H :=
  vP (i := 0) h (fun x0 h => vI (i := 2) h (fun x2 h => vP (i := 7) h (fun x7 h => (conv (by kernel_rfl) h))))

@[reducible] noncomputable def uh1_p24 : Code := sE uh1_p22

@[reducible] noncomputable def uh1_p25 : Code := sB uh1_p24

@[reducible] noncomputable def uh1_p26 : Code := sT uh1_p25

@[reducible] noncomputable def uh1_p27 : Code := sB uh1_p26

@[reducible] noncomputable def uh1_p28 : Code := sB uh1_p27

@[reducible] noncomputable def uh1_p29 : Code := sB uh1_p28

@[reducible] noncomputable def uh1_p30 : Code := sB uh1_p29

def uh1_15 (Q : QT) (E : ET) (x8 : Int) (H : Heap) : Prop :=
 Q (.int .i64 x8) H

def uh1_15_M (Q : QT) (E : ET) (τ : Tau) (H : Heap) : Prop := mI .i64 (τ 8) fun x8 => uh1_15 Q E x8 H

theorem uh1_16ok (Q : QT) (E : ET) (τ : Tau) (H : Heap) (h : uh1_15_M Q E τ H) : vc Pr uh1_p30 τ (uh1_q3 Q E) E H :=
  vI (i := 8) h (fun x8 h => (conv (by kernel_rfl) h))

@[reducible] noncomputable def uh1_q4 (Q : QT) (E : ET) : Exit → Tau → Heap → Prop := (xthen (uh1_15_M Q E) (uh1_q3 Q E))

@[reducible] noncomputable def uh1_p31 : Code := sA uh1_p29

def uh1_17 (Q : QT) (E : ET) (x7 : OA) (x8 : Int) (x9 : Int) (H : Heap) : Prop :=
 ptr x7 fun q134 =>
 ldI .i64 q134 H fun n135 =>
 sel ((n135 : Int) == 6)
 (Q (.int .i64 x9) H)
 (uh1_15 Q E x8 H)

def uh1_17_M (Q : QT) (E : ET) (τ : Tau) (H : Heap) : Prop := mP (τ 7) fun x7 => mI .i64 (τ 8) fun x8 => mI .i64 (τ 9) fun x9 => uh1_17 Q E x7 x8 x9 H

theorem uh1_18ok (Q : QT) (E : ET) (τ : Tau) (H : Heap) (h : uh1_17_M Q E τ H) : vc Pr uh1_p31 τ (uh1_q4 Q E) E H :=
  vP (i := 7) h (fun x7 h => vI (i := 8) h (fun x8 h => vI (i := 9) h (fun x9 h => (conv (by kernel_rfl) h))))

theorem uh1_19ok (Q : QT) (E : ET) (τ : Tau) (H : Heap) (h : uh1_17_M Q E τ H) : vc Pr uh1_p29 τ (uh1_q3 Q E) E H :=
  (conv (B := vc Pr uh1_p29 τ (uh1_q3 Q E) E H) (by kernel_rfl) (vc_seq (K := (uh1_15_M Q E)) (uh1_18ok Q E τ H h) (uh1_16ok Q E)))

@[reducible] noncomputable def uh1_q5 (Q : QT) (E : ET) : Exit → Tau → Heap → Prop := (xthen (uh1_17_M Q E) (uh1_q3 Q E))

@[reducible] noncomputable def uh1_p32 : Code := sA uh1_p28

def uh1_20 (Q : QT) (E : ET) (x0 : OA) (x7 : OA) (x8 : Int) (x9 : Int) (H : Heap) : Prop :=
 ptr x0 fun q136 =>
 ldSl (Addr.add q136 1) H fun p137 l138 c139 =>
 (0 ≤ (x8 : Int) ∧ (x8 : Int) < ((l138 : Nat) : Int)) ∧ ptr p137 fun q140 =>
 wr (Addr.add (Addr.add q140 ((x8 : Int).toNat * 7)) 1) [(.int .i64 x9)] H fun H141 =>
 uh1_17 Q E x7 x8 x9 H141

def uh1_20_M (Q : QT) (E : ET) (τ : Tau) (H : Heap) : Prop := mP (τ 0) fun x0 => mP (τ 7) fun x7 => mI .i64 (τ 8) fun x8 => mI .i64 (τ 9) fun x9 => uh1_20 Q E x0 x7 x8 x9 H

theorem uh1_21ok (Q : QT) (E : ET) (τ : Tau) (H : Heap) (h : uh1_20_M Q E τ H) : vc Pr uh1_p32 τ (uh1_q5 Q E) E H :=
  vP (i := 0) h (fun x0 h => vP (i := 7) h (fun x7 h => vI (i := 8) h (fun x8 h => vI (i := 9) h (fun x9 h => (conv (by kernel_rfl) h)))))

theorem uh1_22ok (Q : QT) (E : ET) (τ : Tau) (H : Heap) (h : uh1_20_M Q E τ H) : vc Pr uh1_p28 τ (uh1_q3 Q E) E H :=
  (conv (B := vc Pr uh1_p28 τ (uh1_q3 Q E) E H) (by kernel_rfl) (vc_seq (K := (uh1_17_M Q E)) (uh1_21ok Q E τ H h) (uh1_19ok Q E)))

@[reducible] noncomputable def uh1_q6 (Q : QT) (E : ET) : Exit → Tau → Heap → Prop := (xthen (uh1_20_M Q E) (uh1_q3 Q E))

@[reducible] noncomputable def uh1_p33 : Code := sA uh1_p27

def uh1_23 (Q : QT) (E : ET) (x0 : OA) (x7 : OA) (x8 : Int) (H : Heap) : Prop :=
 ptr x7 fun q142 =>
 ldI .i64 (Addr.add q142 1) H fun n143 =>
 Does Pr 83 #[(.pointer x0), (.int .i64 n143), (.int .i64 x8)] H (fun v144 H145 =>
 ∃ n146 : Int, v144 = (.int .i64 n146) ∧ uh1_20 Q E x0 x7 x8 n146 H145) E

def uh1_23_M (Q : QT) (E : ET) (τ : Tau) (H : Heap) : Prop := mP (τ 0) fun x0 => mP (τ 7) fun x7 => mI .i64 (τ 8) fun x8 => uh1_23 Q E x0 x7 x8 H

theorem uh1_24ok (Q : QT) (E : ET) (τ : Tau) (H : Heap) (h : uh1_23_M Q E τ H) : vc Pr uh1_p33 τ (uh1_q6 Q E) E H :=
  vP (i := 0) h (fun x0 h => vP (i := 7) h (fun x7 h => vI (i := 8) h (fun x8 h => (conv (by kernel_rfl) h))))

theorem uh1_25ok (Q : QT) (E : ET) (τ : Tau) (H : Heap) (h : uh1_23_M Q E τ H) : vc Pr uh1_p27 τ (uh1_q3 Q E) E H :=
  (conv (B := vc Pr uh1_p27 τ (uh1_q3 Q E) E H) (by kernel_rfl) (vc_seq (K := (uh1_20_M Q E)) (uh1_24ok Q E τ H h) (uh1_22ok Q E)))

@[reducible] noncomputable def uh1_q7 (Q : QT) (E : ET) : Exit → Tau → Heap → Prop := (xthen (uh1_23_M Q E) (uh1_q3 Q E))

@[reducible] noncomputable def uh1_p34 : Code := sA uh1_p26

def uh1_26 (Q : QT) (E : ET) (x0 : OA) (x2 : Int) (x7 : OA) (H : Heap) : Prop :=
 Does Pr 82 #[(.pointer x0), (.agg #[(.int .i64 2), (.int .i64 0), (.int .i64 x2), (.int .u64 0), (.int .u64 0), (.int .u64 0), (.int .u64 0)])] H (fun v147 H148 =>
 ∃ n149 : Int, v147 = (.int .i64 n149) ∧ uh1_23 Q E x0 x7 n149 H148) E

def uh1_26_M (Q : QT) (E : ET) (τ : Tau) (H : Heap) : Prop := mP (τ 0) fun x0 => mI .i64 (τ 2) fun x2 => mP (τ 7) fun x7 => uh1_26 Q E x0 x2 x7 H

theorem uh1_27ok (Q : QT) (E : ET) (τ : Tau) (H : Heap) (h : uh1_26_M Q E τ H) : vc Pr uh1_p34 τ (uh1_q7 Q E) E H :=
  vP (i := 0) h (fun x0 h => vI (i := 2) h (fun x2 h => vP (i := 7) h (fun x7 h => (conv (by kernel_rfl) h))))

theorem uh1_28ok (Q : QT) (E : ET) (τ : Tau) (H : Heap) (h : uh1_26_M Q E τ H) : vc Pr uh1_p26 τ (uh1_q3 Q E) E H :=
  (conv (B := vc Pr uh1_p26 τ (uh1_q3 Q E) E H) (by kernel_rfl) (vc_seq (K := (uh1_23_M Q E)) (uh1_27ok Q E τ H h) (uh1_25ok Q E)))

@[reducible] noncomputable def uh1_p35 : Code := sE uh1_p25

def uh1_29 (Q : QT) (E : ET) (x2 : Int) (H : Heap) : Prop :=
 uh1_1 Q E x2 H

def uh1_29_M (Q : QT) (E : ET) (τ : Tau) (H : Heap) : Prop := mI .i64 (τ 2) fun x2 => uh1_29 Q E x2 H

theorem uh1_30ok (Q : QT) (E : ET) (τ : Tau) (H : Heap) (h : uh1_29_M Q E τ H) : vc Pr uh1_p35 τ (uh1_q3 Q E) E H :=
  vI (i := 2) h (fun x2 h => (conv (by kernel_rfl) h))

def uh1_31 (Q : QT) (E : ET) (x0 : OA) (x2 : Int) (x7 : OA) (x76 : Bool) (H : Heap) : Prop :=
 sel x76
 (uh1_26 Q E x0 x2 x7 H)
 (uh1_29 Q E x2 H)

def uh1_31_M (Q : QT) (E : ET) (τ : Tau) (H : Heap) : Prop := mP (τ 0) fun x0 => mI .i64 (τ 2) fun x2 => mP (τ 7) fun x7 => mB (τ 76) fun x76 => uh1_31 Q E x0 x2 x7 x76 H

theorem uh1_32ok (Q : QT) (E : ET) (τ : Tau) (H : Heap) (h : uh1_31_M Q E τ H) : vc Pr uh1_p25 τ (uh1_q3 Q E) E H :=
  vP (i := 0) h (fun x0 h => vI (i := 2) h (fun x2 h => vP (i := 7) h (fun x7 h => vB (i := 76) h (fun x76 h => (conv (B := vc Pr uh1_p25 (Tau.upd (Tau.upd (Tau.upd (Tau.upd τ 0 (.pointer x0)) 2 (.int .i64 x2)) 7 (.pointer x7)) 76 (.bool x76)) (uh1_q3 Q E) E H) (by kernel_rfl) (sel_map (uh1_28ok Q E (Tau.upd (Tau.upd (Tau.upd (Tau.upd τ 0 (.pointer x0)) 2 (.int .i64 x2)) 7 (.pointer x7)) 76 (.bool x76)) H) (uh1_30ok Q E (Tau.upd (Tau.upd (Tau.upd (Tau.upd τ 0 (.pointer x0)) 2 (.int .i64 x2)) 7 (.pointer x7)) 76 (.bool x76)) H) (conv (B := sel x76 (uh1_26_M Q E (Tau.upd (Tau.upd (Tau.upd (Tau.upd τ 0 (.pointer x0)) 2 (.int .i64 x2)) 7 (.pointer x7)) 76 (.bool x76)) H) (uh1_29_M Q E (Tau.upd (Tau.upd (Tau.upd (Tau.upd τ 0 (.pointer x0)) 2 (.int .i64 x2)) 7 (.pointer x7)) 76 (.bool x76)) H)) (by kernel_rfl) h)))))))

@[reducible] noncomputable def uh1_q8 (Q : QT) (E : ET) : Exit → Tau → Heap → Prop := (xthen (uh1_31_M Q E) (uh1_q3 Q E))

@[reducible] noncomputable def uh1_p36 : Code := sA uh1_p24

def uh1_33 (Q : QT) (E : ET) (x0 : OA) (x2 : Int) (x7 : OA) (x18 : Int) (H : Heap) : Prop :=
 sel ((x18 : Int) == 5)
 (uh1_31 Q E x0 x2 x7 ((x18 : Int) == 5) H)
 (uh1_31 Q E x0 x2 x7 ((x18 : Int) == 6) H)

def uh1_33_M (Q : QT) (E : ET) (τ : Tau) (H : Heap) : Prop := mP (τ 0) fun x0 => mI .i64 (τ 2) fun x2 => mP (τ 7) fun x7 => mI .i64 (τ 18) fun x18 => uh1_33 Q E x0 x2 x7 x18 H

theorem uh1_34ok (Q : QT) (E : ET) (τ : Tau) (H : Heap) (h : uh1_33_M Q E τ H) : vc Pr uh1_p36 τ (uh1_q8 Q E) E H :=
  vP (i := 0) h (fun x0 h => vI (i := 2) h (fun x2 h => vP (i := 7) h (fun x7 h => vI (i := 18) h (fun x18 h => (conv (by kernel_rfl) h)))))

theorem uh1_35ok (Q : QT) (E : ET) (τ : Tau) (H : Heap) (h : uh1_33_M Q E τ H) : vc Pr uh1_p24 τ (uh1_q3 Q E) E H :=
  (conv (B := vc Pr uh1_p24 τ (uh1_q3 Q E) E H) (by kernel_rfl) (vc_seq (K := (uh1_31_M Q E)) (uh1_34ok Q E τ H h) (uh1_32ok Q E)))

def uh1_36 (Q : QT) (E : ET) (x0 : OA) (x2 : Int) (x7 : OA) (x18 : Int) (x65 : Bool) (H : Heap) : Prop :=
 sel x65
 (uh1_13 Q E x0 x2 x7 H)
 (uh1_33 Q E x0 x2 x7 x18 H)

def uh1_36_M (Q : QT) (E : ET) (τ : Tau) (H : Heap) : Prop := mP (τ 0) fun x0 => mI .i64 (τ 2) fun x2 => mP (τ 7) fun x7 => mI .i64 (τ 18) fun x18 => mB (τ 65) fun x65 => uh1_36 Q E x0 x2 x7 x18 x65 H

theorem uh1_37ok (Q : QT) (E : ET) (τ : Tau) (H : Heap) (h : uh1_36_M Q E τ H) : vc Pr uh1_p22 τ (uh1_q3 Q E) E H :=
  vP (i := 0) h (fun x0 h => vI (i := 2) h (fun x2 h => vP (i := 7) h (fun x7 h => vI (i := 18) h (fun x18 h => vB (i := 65) h (fun x65 h => (conv (B := vc Pr uh1_p22 (Tau.upd (Tau.upd (Tau.upd (Tau.upd (Tau.upd τ 0 (.pointer x0)) 2 (.int .i64 x2)) 7 (.pointer x7)) 18 (.int .i64 x18)) 65 (.bool x65)) (uh1_q3 Q E) E H) (by kernel_rfl) (sel_map (uh1_14ok Q E (Tau.upd (Tau.upd (Tau.upd (Tau.upd (Tau.upd τ 0 (.pointer x0)) 2 (.int .i64 x2)) 7 (.pointer x7)) 18 (.int .i64 x18)) 65 (.bool x65)) H) (uh1_35ok Q E (Tau.upd (Tau.upd (Tau.upd (Tau.upd (Tau.upd τ 0 (.pointer x0)) 2 (.int .i64 x2)) 7 (.pointer x7)) 18 (.int .i64 x18)) 65 (.bool x65)) H) (conv (B := sel x65 (uh1_13_M Q E (Tau.upd (Tau.upd (Tau.upd (Tau.upd (Tau.upd τ 0 (.pointer x0)) 2 (.int .i64 x2)) 7 (.pointer x7)) 18 (.int .i64 x18)) 65 (.bool x65)) H) (uh1_33_M Q E (Tau.upd (Tau.upd (Tau.upd (Tau.upd (Tau.upd τ 0 (.pointer x0)) 2 (.int .i64 x2)) 7 (.pointer x7)) 18 (.int .i64 x18)) 65 (.bool x65)) H)) (by kernel_rfl) h))))))))

@[reducible] noncomputable def uh1_q9 (Q : QT) (E : ET) : Exit → Tau → Heap → Prop := (xthen (uh1_36_M Q E) (uh1_q3 Q E))

@[reducible] noncomputable def uh1_p37 : Code := sA uh1_p21

def uh1_38 (Q : QT) (E : ET) (x0 : OA) (x2 : Int) (x7 : OA) (x18 : Int) (H : Heap) : Prop :=
 uh1_36 Q E x0 x2 x7 x18 ((x18 : Int) == 7) H

def uh1_38_M (Q : QT) (E : ET) (τ : Tau) (H : Heap) : Prop := mP (τ 0) fun x0 => mI .i64 (τ 2) fun x2 => mP (τ 7) fun x7 => mI .i64 (τ 18) fun x18 => uh1_38 Q E x0 x2 x7 x18 H

theorem uh1_39ok (Q : QT) (E : ET) (τ : Tau) (H : Heap) (h : uh1_38_M Q E τ H) : vc Pr uh1_p37 τ (uh1_q9 Q E) E H :=
  vP (i := 0) h (fun x0 h => vI (i := 2) h (fun x2 h => vP (i := 7) h (fun x7 h => vI (i := 18) h (fun x18 h => (conv (by kernel_rfl) h)))))

theorem uh1_40ok (Q : QT) (E : ET) (τ : Tau) (H : Heap) (h : uh1_38_M Q E τ H) : vc Pr uh1_p21 τ (uh1_q3 Q E) E H :=
  (conv (B := vc Pr uh1_p21 τ (uh1_q3 Q E) E H) (by kernel_rfl) (vc_seq (K := (uh1_36_M Q E)) (uh1_39ok Q E τ H h) (uh1_37ok Q E)))

def uh1_41 (Q : QT) (E : ET) (x0 : OA) (x2 : Int) (x7 : OA) (x18 : Int) (x50 : Bool) (H : Heap) : Prop :=
 sel x50
 (uh1_11 Q E x0 x2 x7 H)
 (uh1_38 Q E x0 x2 x7 x18 H)

def uh1_41_M (Q : QT) (E : ET) (τ : Tau) (H : Heap) : Prop := mP (τ 0) fun x0 => mI .i64 (τ 2) fun x2 => mP (τ 7) fun x7 => mI .i64 (τ 18) fun x18 => mB (τ 50) fun x50 => uh1_41 Q E x0 x2 x7 x18 x50 H

theorem uh1_42ok (Q : QT) (E : ET) (τ : Tau) (H : Heap) (h : uh1_41_M Q E τ H) : vc Pr uh1_p19 τ (uh1_q3 Q E) E H :=
  vP (i := 0) h (fun x0 h => vI (i := 2) h (fun x2 h => vP (i := 7) h (fun x7 h => vI (i := 18) h (fun x18 h => vB (i := 50) h (fun x50 h => (conv (B := vc Pr uh1_p19 (Tau.upd (Tau.upd (Tau.upd (Tau.upd (Tau.upd τ 0 (.pointer x0)) 2 (.int .i64 x2)) 7 (.pointer x7)) 18 (.int .i64 x18)) 50 (.bool x50)) (uh1_q3 Q E) E H) (by kernel_rfl) (sel_map (uh1_12ok Q E (Tau.upd (Tau.upd (Tau.upd (Tau.upd (Tau.upd τ 0 (.pointer x0)) 2 (.int .i64 x2)) 7 (.pointer x7)) 18 (.int .i64 x18)) 50 (.bool x50)) H) (uh1_40ok Q E (Tau.upd (Tau.upd (Tau.upd (Tau.upd (Tau.upd τ 0 (.pointer x0)) 2 (.int .i64 x2)) 7 (.pointer x7)) 18 (.int .i64 x18)) 50 (.bool x50)) H) (conv (B := sel x50 (uh1_11_M Q E (Tau.upd (Tau.upd (Tau.upd (Tau.upd (Tau.upd τ 0 (.pointer x0)) 2 (.int .i64 x2)) 7 (.pointer x7)) 18 (.int .i64 x18)) 50 (.bool x50)) H) (uh1_38_M Q E (Tau.upd (Tau.upd (Tau.upd (Tau.upd (Tau.upd τ 0 (.pointer x0)) 2 (.int .i64 x2)) 7 (.pointer x7)) 18 (.int .i64 x18)) 50 (.bool x50)) H)) (by kernel_rfl) h))))))))

@[reducible] noncomputable def uh1_q10 (Q : QT) (E : ET) : Exit → Tau → Heap → Prop := (xthen (uh1_41_M Q E) (uh1_q3 Q E))

@[reducible] noncomputable def uh1_p38 : Code := sA uh1_p18

def uh1_43 (Q : QT) (E : ET) (x0 : OA) (x2 : Int) (x7 : OA) (x18 : Int) (H : Heap) : Prop :=
 uh1_41 Q E x0 x2 x7 x18 ((x18 : Int) == 4) H

def uh1_43_M (Q : QT) (E : ET) (τ : Tau) (H : Heap) : Prop := mP (τ 0) fun x0 => mI .i64 (τ 2) fun x2 => mP (τ 7) fun x7 => mI .i64 (τ 18) fun x18 => uh1_43 Q E x0 x2 x7 x18 H

theorem uh1_44ok (Q : QT) (E : ET) (τ : Tau) (H : Heap) (h : uh1_43_M Q E τ H) : vc Pr uh1_p38 τ (uh1_q10 Q E) E H :=
  vP (i := 0) h (fun x0 h => vI (i := 2) h (fun x2 h => vP (i := 7) h (fun x7 h => vI (i := 18) h (fun x18 h => (conv (by kernel_rfl) h)))))

theorem uh1_45ok (Q : QT) (E : ET) (τ : Tau) (H : Heap) (h : uh1_43_M Q E τ H) : vc Pr uh1_p18 τ (uh1_q3 Q E) E H :=
  (conv (B := vc Pr uh1_p18 τ (uh1_q3 Q E) E H) (by kernel_rfl) (vc_seq (K := (uh1_41_M Q E)) (uh1_44ok Q E τ H h) (uh1_42ok Q E)))

def uh1_46 (Q : QT) (E : ET) (x0 : OA) (x2 : Int) (x7 : OA) (x18 : Int) (x39 : Bool) (H : Heap) : Prop :=
 sel x39
 (uh1_9 Q E x0 x2 x7 H)
 (uh1_43 Q E x0 x2 x7 x18 H)

def uh1_46_M (Q : QT) (E : ET) (τ : Tau) (H : Heap) : Prop := mP (τ 0) fun x0 => mI .i64 (τ 2) fun x2 => mP (τ 7) fun x7 => mI .i64 (τ 18) fun x18 => mB (τ 39) fun x39 => uh1_46 Q E x0 x2 x7 x18 x39 H

theorem uh1_47ok (Q : QT) (E : ET) (τ : Tau) (H : Heap) (h : uh1_46_M Q E τ H) : vc Pr uh1_p16 τ (uh1_q3 Q E) E H :=
  vP (i := 0) h (fun x0 h => vI (i := 2) h (fun x2 h => vP (i := 7) h (fun x7 h => vI (i := 18) h (fun x18 h => vB (i := 39) h (fun x39 h => (conv (B := vc Pr uh1_p16 (Tau.upd (Tau.upd (Tau.upd (Tau.upd (Tau.upd τ 0 (.pointer x0)) 2 (.int .i64 x2)) 7 (.pointer x7)) 18 (.int .i64 x18)) 39 (.bool x39)) (uh1_q3 Q E) E H) (by kernel_rfl) (sel_map (uh1_10ok Q E (Tau.upd (Tau.upd (Tau.upd (Tau.upd (Tau.upd τ 0 (.pointer x0)) 2 (.int .i64 x2)) 7 (.pointer x7)) 18 (.int .i64 x18)) 39 (.bool x39)) H) (uh1_45ok Q E (Tau.upd (Tau.upd (Tau.upd (Tau.upd (Tau.upd τ 0 (.pointer x0)) 2 (.int .i64 x2)) 7 (.pointer x7)) 18 (.int .i64 x18)) 39 (.bool x39)) H) (conv (B := sel x39 (uh1_9_M Q E (Tau.upd (Tau.upd (Tau.upd (Tau.upd (Tau.upd τ 0 (.pointer x0)) 2 (.int .i64 x2)) 7 (.pointer x7)) 18 (.int .i64 x18)) 39 (.bool x39)) H) (uh1_43_M Q E (Tau.upd (Tau.upd (Tau.upd (Tau.upd (Tau.upd τ 0 (.pointer x0)) 2 (.int .i64 x2)) 7 (.pointer x7)) 18 (.int .i64 x18)) 39 (.bool x39)) H)) (by kernel_rfl) h))))))))

@[reducible] noncomputable def uh1_q11 (Q : QT) (E : ET) : Exit → Tau → Heap → Prop := (xthen (uh1_46_M Q E) (uh1_q3 Q E))

@[reducible] noncomputable def uh1_p39 : Code := sA uh1_p15

def uh1_48 (Q : QT) (E : ET) (x0 : OA) (x2 : Int) (x7 : OA) (x18 : Int) (H : Heap) : Prop :=
 uh1_46 Q E x0 x2 x7 x18 ((x18 : Int) == 3) H

def uh1_48_M (Q : QT) (E : ET) (τ : Tau) (H : Heap) : Prop := mP (τ 0) fun x0 => mI .i64 (τ 2) fun x2 => mP (τ 7) fun x7 => mI .i64 (τ 18) fun x18 => uh1_48 Q E x0 x2 x7 x18 H

theorem uh1_49ok (Q : QT) (E : ET) (τ : Tau) (H : Heap) (h : uh1_48_M Q E τ H) : vc Pr uh1_p39 τ (uh1_q11 Q E) E H :=
  vP (i := 0) h (fun x0 h => vI (i := 2) h (fun x2 h => vP (i := 7) h (fun x7 h => vI (i := 18) h (fun x18 h => (conv (by kernel_rfl) h)))))

theorem uh1_50ok (Q : QT) (E : ET) (τ : Tau) (H : Heap) (h : uh1_48_M Q E τ H) : vc Pr uh1_p15 τ (uh1_q3 Q E) E H :=
  (conv (B := vc Pr uh1_p15 τ (uh1_q3 Q E) E H) (by kernel_rfl) (vc_seq (K := (uh1_46_M Q E)) (uh1_49ok Q E τ H h) (uh1_47ok Q E)))

def uh1_51 (Q : QT) (E : ET) (x0 : OA) (x2 : Int) (x7 : OA) (x18 : Int) (x33 : Bool) (H : Heap) : Prop :=
 sel x33
 (uh1_7 Q E x0 x2 H)
 (uh1_48 Q E x0 x2 x7 x18 H)

def uh1_51_M (Q : QT) (E : ET) (τ : Tau) (H : Heap) : Prop := mP (τ 0) fun x0 => mI .i64 (τ 2) fun x2 => mP (τ 7) fun x7 => mI .i64 (τ 18) fun x18 => mB (τ 33) fun x33 => uh1_51 Q E x0 x2 x7 x18 x33 H

theorem uh1_52ok (Q : QT) (E : ET) (τ : Tau) (H : Heap) (h : uh1_51_M Q E τ H) : vc Pr uh1_p13 τ (uh1_q3 Q E) E H :=
  vP (i := 0) h (fun x0 h => vI (i := 2) h (fun x2 h => vP (i := 7) h (fun x7 h => vI (i := 18) h (fun x18 h => vB (i := 33) h (fun x33 h => (conv (B := vc Pr uh1_p13 (Tau.upd (Tau.upd (Tau.upd (Tau.upd (Tau.upd τ 0 (.pointer x0)) 2 (.int .i64 x2)) 7 (.pointer x7)) 18 (.int .i64 x18)) 33 (.bool x33)) (uh1_q3 Q E) E H) (by kernel_rfl) (sel_map (uh1_8ok Q E (Tau.upd (Tau.upd (Tau.upd (Tau.upd (Tau.upd τ 0 (.pointer x0)) 2 (.int .i64 x2)) 7 (.pointer x7)) 18 (.int .i64 x18)) 33 (.bool x33)) H) (uh1_50ok Q E (Tau.upd (Tau.upd (Tau.upd (Tau.upd (Tau.upd τ 0 (.pointer x0)) 2 (.int .i64 x2)) 7 (.pointer x7)) 18 (.int .i64 x18)) 33 (.bool x33)) H) (conv (B := sel x33 (uh1_7_M Q E (Tau.upd (Tau.upd (Tau.upd (Tau.upd (Tau.upd τ 0 (.pointer x0)) 2 (.int .i64 x2)) 7 (.pointer x7)) 18 (.int .i64 x18)) 33 (.bool x33)) H) (uh1_48_M Q E (Tau.upd (Tau.upd (Tau.upd (Tau.upd (Tau.upd τ 0 (.pointer x0)) 2 (.int .i64 x2)) 7 (.pointer x7)) 18 (.int .i64 x18)) 33 (.bool x33)) H)) (by kernel_rfl) h))))))))

@[reducible] noncomputable def uh1_q12 (Q : QT) (E : ET) : Exit → Tau → Heap → Prop := (xthen (uh1_51_M Q E) (uh1_q3 Q E))

@[reducible] noncomputable def uh1_p40 : Code := sA uh1_p12

def uh1_53 (Q : QT) (E : ET) (x0 : OA) (x2 : Int) (x7 : OA) (x18 : Int) (H : Heap) : Prop :=
 uh1_51 Q E x0 x2 x7 x18 ((x18 : Int) == 9) H

def uh1_53_M (Q : QT) (E : ET) (τ : Tau) (H : Heap) : Prop := mP (τ 0) fun x0 => mI .i64 (τ 2) fun x2 => mP (τ 7) fun x7 => mI .i64 (τ 18) fun x18 => uh1_53 Q E x0 x2 x7 x18 H

theorem uh1_54ok (Q : QT) (E : ET) (τ : Tau) (H : Heap) (h : uh1_53_M Q E τ H) : vc Pr uh1_p40 τ (uh1_q12 Q E) E H :=
  vP (i := 0) h (fun x0 h => vI (i := 2) h (fun x2 h => vP (i := 7) h (fun x7 h => vI (i := 18) h (fun x18 h => (conv (by kernel_rfl) h)))))

theorem uh1_55ok (Q : QT) (E : ET) (τ : Tau) (H : Heap) (h : uh1_53_M Q E τ H) : vc Pr uh1_p12 τ (uh1_q3 Q E) E H :=
  (conv (B := vc Pr uh1_p12 τ (uh1_q3 Q E) E H) (by kernel_rfl) (vc_seq (K := (uh1_51_M Q E)) (uh1_54ok Q E τ H h) (uh1_52ok Q E)))

def uh1_56 (Q : QT) (E : ET) (x0 : OA) (x2 : Int) (x7 : OA) (x18 : Int) (x27 : Bool) (H : Heap) : Prop :=
 sel x27
 (uh1_5 Q E x0 x2 H)
 (uh1_53 Q E x0 x2 x7 x18 H)

def uh1_56_M (Q : QT) (E : ET) (τ : Tau) (H : Heap) : Prop := mP (τ 0) fun x0 => mI .i64 (τ 2) fun x2 => mP (τ 7) fun x7 => mI .i64 (τ 18) fun x18 => mB (τ 27) fun x27 => uh1_56 Q E x0 x2 x7 x18 x27 H

theorem uh1_57ok (Q : QT) (E : ET) (τ : Tau) (H : Heap) (h : uh1_56_M Q E τ H) : vc Pr uh1_p10 τ (uh1_q3 Q E) E H :=
  vP (i := 0) h (fun x0 h => vI (i := 2) h (fun x2 h => vP (i := 7) h (fun x7 h => vI (i := 18) h (fun x18 h => vB (i := 27) h (fun x27 h => (conv (B := vc Pr uh1_p10 (Tau.upd (Tau.upd (Tau.upd (Tau.upd (Tau.upd τ 0 (.pointer x0)) 2 (.int .i64 x2)) 7 (.pointer x7)) 18 (.int .i64 x18)) 27 (.bool x27)) (uh1_q3 Q E) E H) (by kernel_rfl) (sel_map (uh1_6ok Q E (Tau.upd (Tau.upd (Tau.upd (Tau.upd (Tau.upd τ 0 (.pointer x0)) 2 (.int .i64 x2)) 7 (.pointer x7)) 18 (.int .i64 x18)) 27 (.bool x27)) H) (uh1_55ok Q E (Tau.upd (Tau.upd (Tau.upd (Tau.upd (Tau.upd τ 0 (.pointer x0)) 2 (.int .i64 x2)) 7 (.pointer x7)) 18 (.int .i64 x18)) 27 (.bool x27)) H) (conv (B := sel x27 (uh1_5_M Q E (Tau.upd (Tau.upd (Tau.upd (Tau.upd (Tau.upd τ 0 (.pointer x0)) 2 (.int .i64 x2)) 7 (.pointer x7)) 18 (.int .i64 x18)) 27 (.bool x27)) H) (uh1_53_M Q E (Tau.upd (Tau.upd (Tau.upd (Tau.upd (Tau.upd τ 0 (.pointer x0)) 2 (.int .i64 x2)) 7 (.pointer x7)) 18 (.int .i64 x18)) 27 (.bool x27)) H)) (by kernel_rfl) h))))))))

@[reducible] noncomputable def uh1_q13 (Q : QT) (E : ET) : Exit → Tau → Heap → Prop := (xthen (uh1_56_M Q E) (uh1_q3 Q E))

@[reducible] noncomputable def uh1_p41 : Code := sA uh1_p9

def uh1_58 (Q : QT) (E : ET) (x0 : OA) (x2 : Int) (x7 : OA) (x18 : Int) (H : Heap) : Prop :=
 uh1_56 Q E x0 x2 x7 x18 ((x18 : Int) == 8) H

def uh1_58_M (Q : QT) (E : ET) (τ : Tau) (H : Heap) : Prop := mP (τ 0) fun x0 => mI .i64 (τ 2) fun x2 => mP (τ 7) fun x7 => mI .i64 (τ 18) fun x18 => uh1_58 Q E x0 x2 x7 x18 H

theorem uh1_59ok (Q : QT) (E : ET) (τ : Tau) (H : Heap) (h : uh1_58_M Q E τ H) : vc Pr uh1_p41 τ (uh1_q13 Q E) E H :=
  vP (i := 0) h (fun x0 h => vI (i := 2) h (fun x2 h => vP (i := 7) h (fun x7 h => vI (i := 18) h (fun x18 h => (conv (by kernel_rfl) h)))))

theorem uh1_60ok (Q : QT) (E : ET) (τ : Tau) (H : Heap) (h : uh1_58_M Q E τ H) : vc Pr uh1_p9 τ (uh1_q3 Q E) E H :=
  (conv (B := vc Pr uh1_p9 τ (uh1_q3 Q E) E H) (by kernel_rfl) (vc_seq (K := (uh1_56_M Q E)) (uh1_59ok Q E τ H h) (uh1_57ok Q E)))

def uh1_61 (Q : QT) (E : ET) (x0 : OA) (x2 : Int) (x7 : OA) (x18 : Int) (x19 : Bool) (H : Heap) : Prop :=
 sel x19
 (uh1_3 Q E x0 x2 x7 H)
 (uh1_58 Q E x0 x2 x7 x18 H)

def uh1_61_M (Q : QT) (E : ET) (τ : Tau) (H : Heap) : Prop := mP (τ 0) fun x0 => mI .i64 (τ 2) fun x2 => mP (τ 7) fun x7 => mI .i64 (τ 18) fun x18 => mB (τ 19) fun x19 => uh1_61 Q E x0 x2 x7 x18 x19 H

theorem uh1_62ok (Q : QT) (E : ET) (τ : Tau) (H : Heap) (h : uh1_61_M Q E τ H) : vc Pr uh1_p7 τ (uh1_q3 Q E) E H :=
  vP (i := 0) h (fun x0 h => vI (i := 2) h (fun x2 h => vP (i := 7) h (fun x7 h => vI (i := 18) h (fun x18 h => vB (i := 19) h (fun x19 h => (conv (B := vc Pr uh1_p7 (Tau.upd (Tau.upd (Tau.upd (Tau.upd (Tau.upd τ 0 (.pointer x0)) 2 (.int .i64 x2)) 7 (.pointer x7)) 18 (.int .i64 x18)) 19 (.bool x19)) (uh1_q3 Q E) E H) (by kernel_rfl) (sel_map (uh1_4ok Q E (Tau.upd (Tau.upd (Tau.upd (Tau.upd (Tau.upd τ 0 (.pointer x0)) 2 (.int .i64 x2)) 7 (.pointer x7)) 18 (.int .i64 x18)) 19 (.bool x19)) H) (uh1_60ok Q E (Tau.upd (Tau.upd (Tau.upd (Tau.upd (Tau.upd τ 0 (.pointer x0)) 2 (.int .i64 x2)) 7 (.pointer x7)) 18 (.int .i64 x18)) 19 (.bool x19)) H) (conv (B := sel x19 (uh1_3_M Q E (Tau.upd (Tau.upd (Tau.upd (Tau.upd (Tau.upd τ 0 (.pointer x0)) 2 (.int .i64 x2)) 7 (.pointer x7)) 18 (.int .i64 x18)) 19 (.bool x19)) H) (uh1_58_M Q E (Tau.upd (Tau.upd (Tau.upd (Tau.upd (Tau.upd τ 0 (.pointer x0)) 2 (.int .i64 x2)) 7 (.pointer x7)) 18 (.int .i64 x18)) 19 (.bool x19)) H)) (by kernel_rfl) h))))))))

@[reducible] noncomputable def uh1_q14 (Q : QT) (E : ET) : Exit → Tau → Heap → Prop := (xthen (uh1_61_M Q E) (uh1_q3 Q E))

@[reducible] noncomputable def uh1_p42 : Code := sA uh1_p6

def uh1_63 (Q : QT) (E : ET) (x0 : OA) (x2 : Int) (x7 : OA) (x18 : Int) (H : Heap) : Prop :=
 uh1_61 Q E x0 x2 x7 x18 ((x18 : Int) == 2) H

def uh1_63_M (Q : QT) (E : ET) (τ : Tau) (H : Heap) : Prop := mP (τ 0) fun x0 => mI .i64 (τ 2) fun x2 => mP (τ 7) fun x7 => mI .i64 (τ 18) fun x18 => uh1_63 Q E x0 x2 x7 x18 H

theorem uh1_64ok (Q : QT) (E : ET) (τ : Tau) (H : Heap) (h : uh1_63_M Q E τ H) : vc Pr uh1_p42 τ (uh1_q14 Q E) E H :=
  vP (i := 0) h (fun x0 h => vI (i := 2) h (fun x2 h => vP (i := 7) h (fun x7 h => vI (i := 18) h (fun x18 h => (conv (by kernel_rfl) h)))))

theorem uh1_65ok (Q : QT) (E : ET) (τ : Tau) (H : Heap) (h : uh1_63_M Q E τ H) : vc Pr uh1_p6 τ (uh1_q3 Q E) E H :=
  (conv (B := vc Pr uh1_p6 τ (uh1_q3 Q E) E H) (by kernel_rfl) (vc_seq (K := (uh1_61_M Q E)) (uh1_64ok Q E τ H h) (uh1_62ok Q E)))

theorem uh1_66ok (Q : QT) (E : ET) (τ : Tau) (H : Heap) (h : uh1_63_M Q E τ H) : vc Pr uh1_p5 τ (uh1_q2 Q E) E H :=
  (conv (B := vc Pr uh1_p5 τ (uh1_q2 Q E) E H) (by kernel_rfl) (uh1_65ok Q E τ H h))

@[reducible] noncomputable def uh1_q15 (Q : QT) (E : ET) : Exit → Tau → Heap → Prop := (xthen (uh1_63_M Q E) (uh1_q2 Q E))

@[reducible] noncomputable def uh1_p43 : Code := sA uh1_p4

def uh1_67 (Q : QT) (E : ET) (x0 : OA) (x2 : Int) (x7 : OA) (H : Heap) : Prop :=
 ptr x7 fun q150 =>
 ldI .i64 q150 H fun n151 =>
 uh1_63 Q E x0 x2 x7 n151 H

def uh1_67_M (Q : QT) (E : ET) (τ : Tau) (H : Heap) : Prop := mP (τ 0) fun x0 => mI .i64 (τ 2) fun x2 => mP (τ 7) fun x7 => uh1_67 Q E x0 x2 x7 H

theorem uh1_68ok (Q : QT) (E : ET) (τ : Tau) (H : Heap) (h : uh1_67_M Q E τ H) : vc Pr uh1_p43 τ (uh1_q15 Q E) E H :=
  vP (i := 0) h (fun x0 h => vI (i := 2) h (fun x2 h => vP (i := 7) h (fun x7 h => (conv (by kernel_rfl) h))))

theorem uh1_69ok (Q : QT) (E : ET) (τ : Tau) (H : Heap) (h : uh1_67_M Q E τ H) : vc Pr uh1_p4 τ (uh1_q2 Q E) E H :=
  (conv (B := vc Pr uh1_p4 τ (uh1_q2 Q E) E H) (by kernel_rfl) (vc_seq (K := (uh1_63_M Q E)) (uh1_68ok Q E τ H h) (uh1_66ok Q E)))

theorem uh1_70ok (Q : QT) (E : ET) (τ : Tau) (H : Heap) (h : uh1_67_M Q E τ H) : vc Pr uh1_p2 τ (uh1_q1 Q E) E H :=
  (conv (B := vc Pr uh1_p2 τ (uh1_q1 Q E) E H) (by kernel_rfl) (vc_seq (K := (uh1_1_M Q E)) (uh1_69ok Q E τ H h) (uh1_2ok Q E)))

@[reducible] noncomputable def uh1_q16 (Q : QT) (E : ET) : Exit → Tau → Heap → Prop := (xthen (uh1_67_M Q E) (uh1_q1 Q E))

@[reducible] noncomputable def uh1_p44 : Code := sA uh1_p1

def uh1_71 (Q : QT) (E : ET) (x0 : OA) (x1 : Int) (x2 : Int) (H : Heap) : Prop :=
 ptr x0 fun q152 =>
 ldSl q152 H fun p153 l154 c155 =>
 (0 ≤ (x1 : Int) ∧ (x1 : Int) < ((l154 : Nat) : Int)) ∧ ptr p153 fun q156 =>
 ∃ n157 n158 n159 n160 n161 n162 n163 : Int, Heap.rd H (Addr.add q156 ((x1 : Int).toNat * 7)) 0 [(.int .i64 n157), (.int .i64 n158), (.int .i64 n159), (.int .u64 n160), (.int .u64 n161), (.int .u64 n162), (.int .u64 n163)] ∧ nw (.cells #[(.int .i64 0), (.int .i64 0), (.int .i64 0), (.int .u64 0), (.int .u64 0), (.int .u64 0), (.int .u64 0)] 48 (0, 0)) H fun i164 H165 =>
 wr ⟨i164, 0, none⟩ [(.int .i64 n157), (.int .i64 n158), (.int .i64 n159), (.int .u64 n160), (.int .u64 n161), (.int .u64 n162), (.int .u64 n163)] H165 fun H166 =>
 uh1_67 Q E x0 x2 (some ⟨i164, 0, none⟩) H166

def uh1_71_M (Q : QT) (E : ET) (τ : Tau) (H : Heap) : Prop := mP (τ 0) fun x0 => mI .i64 (τ 1) fun x1 => mI .i64 (τ 2) fun x2 => uh1_71 Q E x0 x1 x2 H

theorem uh1_72ok (Q : QT) (E : ET) (τ : Tau) (H : Heap) (h : uh1_71_M Q E τ H) : vc Pr uh1_p44 τ (uh1_q16 Q E) E H :=
  vP (i := 0) h (fun x0 h => vI (i := 1) h (fun x1 h => vI (i := 2) h (fun x2 h => (conv (by kernel_rfl) h))))

theorem uh1_73ok (Q : QT) (E : ET) (τ : Tau) (H : Heap) (h : uh1_71_M Q E τ H) : vc Pr uh1_p1 τ (uh1_q1 Q E) E H :=
  (conv (B := vc Pr uh1_p1 τ (uh1_q1 Q E) E H) (by kernel_rfl) (vc_seq (K := (uh1_67_M Q E)) (uh1_72ok Q E τ H h) (uh1_70ok Q E)))

@[reducible] noncomputable def uh1_q17 (Q : QT) (E : ET) : Exit → Tau → Heap → Prop := (xthen (uh1_71_M Q E) (uh1_q1 Q E))

@[reducible] noncomputable def uh1_p45 : Code := sA uh1_p0

def uh1 (Q : QT) (E : ET) (a0 : OA) (a1 : Int) (a2 : Int) (H : Heap) : Prop :=
 uh1_71 Q E a0 a1 a2 H

theorem uh1_fn (a0 : OA) (a1 : Int) (a2 : Int) (Q : QT) (E : ET) (H : Heap) (h : uh1 Q E a0 a1 a2 H)   : Does Pr 83 #[(.pointer a0), (.int .i64 a1), (.int .i64 a2)] H Q E :=
  Fn_of_vc (fn := Try.f83) (c := uh1_p0) (args := [(.pointer a0), (.int .i64 a1), (.int .i64 a2)]) mixed (by kernel_rfl) (by kernel_rfl) (by kernel_rfl) (by kernel_rfl) (by kernel_rfl) ((conv (B := vc Pr uh1_p0 (argT [(.pointer a0), (.int .i64 a1), (.int .i64 a2)]) (uh1_q1 Q E) E H) (by kernel_rfl) (vc_seq (K := (uh1_71_M Q E)) (conv (B := vc Pr uh1_p45 (argT [(.pointer a0), (.int .i64 a1), (.int .i64 a2)]) (uh1_q17 Q E) E H) (by kernel_rfl) h) (uh1_73ok Q E))))

/-! (*jobmux/auto.set).clear -/
@[reducible] noncomputable def ui1_q1 (Q : QT) (E : ET) : Exit → Tau → Heap → Prop := (retQ Pr (Try.f92).results.toList Q)

@[reducible] noncomputable def ui1_p0 : Code := bodyOf Try.f92

def ui1 (Q : QT) (E : ET) (a0 : OA) (H : Heap) : Prop :=
 ptr a0 fun q1 =>
 ldSl (Addr.add q1 1) H fun p2 l3 c4 =>
 wrS p2 0 (rep l3 [(.bool false)]) H fun H5 =>
 ptr a0 fun q6 =>
 ldSl q6 H5 fun p7 l8 c9 =>
 (0 ≤ (0 : Int) ∧ (0 : Int) ≤ ((c9 : Nat) : Int)) ∧ ptr a0 fun q10 =>
 wr q10 [(.slice (if c9 = 0 then p7 else Option.map (fun a => Addr.add a (0 * 1)) p7) ((0 : Int).toNat - 0) (c9 - 0))] H5 fun H11 =>
 Q (.tuple #[]) H11

theorem ui1_fn (a0 : OA) (Q : QT) (E : ET) (H : Heap) (h : ui1 Q E a0 H)   : Does Pr 92 #[(.pointer a0)] H Q E :=
  Fn_of_vc (fn := Try.f92) (c := ui1_p0) (args := [(.pointer a0)]) mixed (by kernel_rfl) (by kernel_rfl) (by kernel_rfl) (by kernel_rfl) (by kernel_rfl) ((conv (B := vc Pr ui1_p0 (argT [(.pointer a0)]) (ui1_q1 Q E) E H) (by kernel_rfl) h))

end Go.Proofs.Ytaffcoiomggpfaa
