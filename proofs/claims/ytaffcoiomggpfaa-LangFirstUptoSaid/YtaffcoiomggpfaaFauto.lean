import Derived.Test.YtaffcoiomggpfaaVPr
/- Printed by gen.py: the Go functions of package auto over a heap view, and that the model does so. -/
namespace Go.Proofs.Ytaffcoiomggpfaa
open Go.V
set_option linter.unusedVariables false
set_option maxRecDepth 100000
/-! jobmux/auto.Start -/
@[reducible] noncomputable def zqx_q1 (Q : QT) (E : ET) : Exit → Tau → Heap → Prop := (retQ Pr (Try.f50).results.toList Q)

@[reducible] noncomputable def zqx_p0 : Code := bodyOf Try.f50

def zqx (Q : QT) (E : ET) (a0 : OA) (a0l : Nat) (a0c : Nat) (a1 : Bool) (a2 : Bool) (H : Heap) : Prop :=
 (0 ≤ (((a0l : Nat) : Int) : Int) ∧ (((a0l : Nat) : Int) : Int) ≤ ((a0l : Nat) : Int) ∧ (((a0l : Nat) : Int) : Int) ≤ 281474976710656 ∧ ((1 : Nat) : Int) * ((a0l : Nat) : Int) ≤ 281474976710656) ∧ nw (.cells (rep (((a0l : Nat) : Int) : Int).toNat [(.bool false)]).toArray 4 (0, 0)) H fun i1 H2 =>
 (0 ≤ (((a0l : Nat) : Int) : Int) ∧ (((a0l : Nat) : Int) : Int) ≤ ((a0l : Nat) : Int) ∧ (((a0l : Nat) : Int) : Int) ≤ 281474976710656 ∧ ((1 : Nat) : Int) * ((a0l : Nat) : Int) ≤ 281474976710656) ∧ nw (.cells (rep (((a0l : Nat) : Int) : Int).toNat [(.bool false)]).toArray 4 (0, 0)) H2 fun i3 H4 =>
 nw (.cells #[(.slice a0 a0l a0c), (.slice none 0 0), (.slice (some ⟨i1, 0, none⟩) (((a0l : Nat) : Int) : Int).toNat (((a0l : Nat) : Int) : Int).toNat), (.slice none 0 0), (.slice (some ⟨i3, 0, none⟩) (((a0l : Nat) : Int) : Int).toNat (((a0l : Nat) : Int) : Int).toNat), (.bool a1), (.bool a2), (.int .i64 0), (.int .i64 (-1))] 127 (0, 0)) H4 fun i5 H6 =>
 Does Pr 80 #[(.pointer (some ⟨i5, 1, none⟩)), (.int .i64 0)] H6 (fun v7 H8 =>
 Does Pr 81 #[(.pointer (some ⟨i5, 0, none⟩)), (.bool false)] H8 (fun v9 H10 =>
 ∃ b11 : Bool, v9 = (.bool b11) ∧ Q (.pointer (some ⟨i5, 0, none⟩)) H10) E) E

theorem zqx_fn (a0 : OA) (a0l : Nat) (a0c : Nat) (a1 : Bool) (a2 : Bool) (Q : QT) (E : ET) (H : Heap) (h : zqx Q E a0 a0l a0c a1 a2 H)   : Does Pr 50 #[(.slice a0 a0l a0c), (.bool a1), (.bool a2)] H Q E :=
  Fn_of_vc (fn := Try.f50) (c := zqx_p0) (args := [(.slice a0 a0l a0c), (.bool a1), (.bool a2)]) mixed (by kernel_rfl) (by kernel_rfl) (by kernel_rfl) (by kernel_rfl) (by kernel_rfl) ((conv (B := vc Pr zqx_p0 (argT [(.slice a0 a0l a0c), (.bool a1), (.bool a2)]) (zqx_q1 Q E) E H) (by kernel_rfl) h))

/-! jobmux/auto.Build -/
@[reducible] noncomputable def zqy_q1 (Q : QT) (E : ET) : Exit → Tau → Heap → Prop := (retQ Pr (Try.f51).results.toList Q)

@[reducible] noncomputable def zqy_p0 : Code := bodyOf Try.f51

def zqy (Q : QT) (E : ET) (a0 : OA) (a0l : Nat) (a0c : Nat) (H : Heap) : Prop :=
 nw (.cells #[(.slice a0 a0l a0c), (.slice none 0 0)] 132 (0, 0)) H fun i1 H2 =>
 Does Pr 82 #[(.pointer (some ⟨i1, 0, none⟩)), (.agg #[(.int .i64 2), (.int .i64 0), (.int .i64 0), (.int .u64 0), (.int .u64 0), (.int .u64 0), (.int .u64 0)])] H2 (fun v3 H4 =>
 ∃ n5 : Int, v3 = (.int .i64 n5) ∧ Does Pr 82 #[(.pointer (some ⟨i1, 0, none⟩)), (.agg #[(.int .i64 5), (.int .i64 0), (.int .i64 0), (.int .u64 0), (.int .u64 0), (.int .u64 0), (.int .u64 0)])] H4 (fun v6 H7 =>
 ∃ n8 : Int, v6 = (.int .i64 n8) ∧ Does Pr 83 #[(.pointer (some ⟨i1, 0, none⟩)), (.int .i64 (IntKind.wrap .i64 (((a0l : Nat) : Int) - 1))), (.int .i64 n8)] H7 (fun v9 H10 =>
 ∃ n11 : Int, v9 = (.int .i64 n11) ∧ ldSl ⟨i1, 1, none⟩ H10 fun p12 l13 c14 =>
 ldSl ⟨i1, 1, none⟩ H10 fun p15 l16 c17 =>
 (0 ≤ (0 : Int) ∧ (0 : Int) < ((l13 : Nat) : Int)) ∧ ptr p12 fun q18 =>
 wr (Addr.add q18 1) [(.int .i64 n11)] H10 fun H19 =>
 (0 ≤ (0 : Int) ∧ (0 : Int) < ((l16 : Nat) : Int)) ∧ ptr p15 fun q20 =>
 wr (Addr.add q20 2) [(.int .i64 n11)] H19 fun H21 =>
 ldSl ⟨i1, 1, none⟩ H21 fun p22 l23 c24 =>
 Q (.slice p22 l23 c24) H21) E) E) E

theorem zqy_fn (a0 : OA) (a0l : Nat) (a0c : Nat) (Q : QT) (E : ET) (H : Heap) (h : zqy Q E a0 a0l a0c H)   : Does Pr 51 #[(.slice a0 a0l a0c)] H Q E :=
  Fn_of_vc (fn := Try.f51) (c := zqy_p0) (args := [(.slice a0 a0l a0c)]) mixed (by kernel_rfl) (by kernel_rfl) (by kernel_rfl) (by kernel_rfl) (by kernel_rfl) ((conv (B := vc Pr zqy_p0 (argT [(.slice a0 a0l a0c)]) (zqy_q1 Q E) E H) (by kernel_rfl) h))

/-! (*jobmux/auto.Machine).Feed -/
@[reducible] noncomputable def zqz_q1 (Q : QT) (E : ET) : Exit → Tau → Heap → Prop := (retQ Pr (Try.f52).results.toList Q)

@[reducible] noncomputable def zqz_p0 : Code := bodyOf Try.f52

@[reducible] noncomputable def zqz_p1 : Code := sB zqz_p0

@[reducible] noncomputable def zqz_p2 : Code := sB zqz_p1

def zqz_1 (Q : QT) (E : ET) (x0 : OA) (H : Heap) : Prop :=
 Does Pr 79 #[(.pointer x0)] H (fun v15 H16 =>
 ∃ b17 : Bool, v15 = (.bool b17) ∧ Q (.bool b17) H16) E

def zqz_1_M (Q : QT) (E : ET) (τ : Tau) (H : Heap) : Prop := mP (τ 0) fun x0 => zqz_1 Q E x0 H

theorem zqz_2ok (Q : QT) (E : ET) (τ : Tau) (H : Heap) (h : zqz_1_M Q E τ H) : vc Pr zqz_p2 τ (zqz_q1 Q E) E H :=
  vP (i := 0) h (fun x0 h => (conv (by kernel_rfl) h))

@[reducible] noncomputable def zqz_q2 (Q : QT) (E : ET) : Exit → Tau → Heap → Prop := (xthen (zqz_1_M Q E) (zqz_q1 Q E))

@[reducible] noncomputable def zqz_p3 : Code := sA zqz_p1

@[reducible] noncomputable def zqz_p4 : Code := sB zqz_p3

@[reducible] noncomputable def zqz_q3 (Q : QT) (E : ET) : Exit → Tau → Heap → Prop := (xblock 0 (zqz_q2 Q E))

@[reducible] noncomputable def zqz_p5 : Code := sI zqz_p4

@[reducible] noncomputable def zqz_q4 (nx18 : Int → HP) (Q : QT) (E : ET) : Exit → Tau → Heap → Prop := (xthen (fun τ H => mI .i64 (τ 9) fun x9' => nx18 x9' H) (zqz_q3 Q E))

@[reducible] noncomputable def zqz_p6 : Code := sI zqz_p5

@[reducible] noncomputable def zqz_p7 : Code := sB zqz_p6

@[reducible] noncomputable def zqz_p8 : Code := sB zqz_p7

@[reducible] noncomputable def zqz_p9 : Code := sB zqz_p8

def zqz_3 (nx18 : Int → HP) (Q : QT) (E : ET) (x0 : OA) (x7 : OA) (l7 : Nat) (c7 : Nat) (x8 : Int) (x9 : Int) (H : Heap) : Prop :=
 nx18 (IntKind.wrap .i64 (x9 + 1)) H

def zqz_3_M (nx18 : Int → HP) (Q : QT) (E : ET) (τ : Tau) (H : Heap) : Prop := mP (τ 0) fun x0 => mSl (τ 7) fun x7 l7 c7 => mI .i64 (τ 8) fun x8 => mI .i64 (τ 9) fun x9 => zqz_3 nx18 Q E x0 x7 l7 c7 x8 x9 H

theorem zqz_4ok (nx18 : Int → HP) (Q : QT) (E : ET) (τ : Tau) (H : Heap) (h : zqz_3_M nx18 Q E τ H) : vc Pr zqz_p9 τ (zqz_q4 nx18 Q E) E H :=
  vP (i := 0) h (fun x0 h => vSl (i := 7) h (fun x7 l7 c7 h => vI (i := 8) h (fun x8 h => vI (i := 9) h (fun x9 h => (conv (by kernel_rfl) h)))))

@[reducible] noncomputable def zqz_q5 (nx18 : Int → HP) (Q : QT) (E : ET) : Exit → Tau → Heap → Prop := (xthen (zqz_3_M nx18 Q E) (zqz_q4 nx18 Q E))

@[reducible] noncomputable def zqz_p10 : Code := sA zqz_p8

@[reducible] noncomputable def zqz_q6 (nx18 : Int → HP) (Q : QT) (E : ET) : Exit → Tau → Heap → Prop := (xblock 1 (zqz_q5 nx18 Q E))

@[reducible] noncomputable def zqz_p11 : Code := sI zqz_p10

@[reducible] noncomputable def zqz_p12 : Code := sB zqz_p11

@[reducible] noncomputable def zqz_p13 : Code := sB zqz_p12

@[reducible] noncomputable def zqz_p14 : Code := sB zqz_p13

def zqz_5 (nx18 : Int → HP) (Q : QT) (E : ET) (x0 : OA) (x6 : Int) (x7 : OA) (l7 : Nat) (c7 : Nat) (x8 : Int) (x9 : Int) (H : Heap) : Prop :=
 Does Pr 59 #[(.pointer x0), (.int .u8 x6)] H (fun v45 H46 =>
 zqz_3 nx18 Q E x0 x7 l7 c7 x8 x9 H46) E

def zqz_5_M (nx18 : Int → HP) (Q : QT) (E : ET) (τ : Tau) (H : Heap) : Prop := mP (τ 0) fun x0 => mI .u8 (τ 6) fun x6 => mSl (τ 7) fun x7 l7 c7 => mI .i64 (τ 8) fun x8 => mI .i64 (τ 9) fun x9 => zqz_5 nx18 Q E x0 x6 x7 l7 c7 x8 x9 H

theorem zqz_6ok (nx18 : Int → HP) (Q : QT) (E : ET) (τ : Tau) (H : Heap) (h : zqz_5_M nx18 Q E τ H) : vc Pr zqz_p14 τ (zqz_q6 nx18 Q E) E H :=
  vP (i := 0) h (fun x0 h => vI (i := 6) h (fun x6 h => vSl (i := 7) h (fun x7 l7 c7 h => vI (i := 8) h (fun x8 h => vI (i := 9) h (fun x9 h => (conv (by kernel_rfl) h))))))

@[reducible] noncomputable def zqz_q7 (nx18 : Int → HP) (Q : QT) (E : ET) : Exit → Tau → Heap → Prop := (xthen (zqz_5_M nx18 Q E) (zqz_q6 nx18 Q E))

@[reducible] noncomputable def zqz_p15 : Code := sA zqz_p13

@[reducible] noncomputable def zqz_p16 : Code := sB zqz_p15

def zqz_7 (nx18 : Int → HP) (Q : QT) (E : ET) (x0 : OA) (x6 : Int) (x7 : OA) (l7 : Nat) (c7 : Nat) (x8 : Int) (x9 : Int) (x20 : Bool) (H : Heap) : Prop :=
 sel x20
 (ptr x0 fun q50 =>
 ldI .i64 (Addr.add q50 7) H fun n51 =>
 ptr x0 fun q52 =>
 wr (Addr.add q52 8) [(.int .i64 (IntKind.wrap .i64 (n51 + 1)))] H fun H53 =>
 zqz_1 Q E x0 H53)
 (zqz_5 nx18 Q E x0 x6 x7 l7 c7 x8 x9 H)

def zqz_7_M (nx18 : Int → HP) (Q : QT) (E : ET) (τ : Tau) (H : Heap) : Prop := mP (τ 0) fun x0 => mI .u8 (τ 6) fun x6 => mSl (τ 7) fun x7 l7 c7 => mI .i64 (τ 8) fun x8 => mI .i64 (τ 9) fun x9 => mB (τ 20) fun x20 => zqz_7 nx18 Q E x0 x6 x7 l7 c7 x8 x9 x20 H

theorem zqz_8ok (nx18 : Int → HP) (Q : QT) (E : ET) (τ : Tau) (H : Heap) (h : zqz_7_M nx18 Q E τ H) : vc Pr zqz_p16 τ (zqz_q7 nx18 Q E) E H :=
  vP (i := 0) h (fun x0 h => vI (i := 6) h (fun x6 h => vSl (i := 7) h (fun x7 l7 c7 h => vI (i := 8) h (fun x8 h => vI (i := 9) h (fun x9 h => vB (i := 20) h (fun x20 h => (conv (by kernel_rfl) h)))))))

@[reducible] noncomputable def zqz_q8 (nx18 : Int → HP) (Q : QT) (E : ET) : Exit → Tau → Heap → Prop := (xthen (zqz_7_M nx18 Q E) (zqz_q7 nx18 Q E))

@[reducible] noncomputable def zqz_p17 : Code := sA zqz_p15

def zqz_9 (nx18 : Int → HP) (Q : QT) (E : ET) (x0 : OA) (x6 : Int) (x7 : OA) (l7 : Nat) (c7 : Nat) (x8 : Int) (x9 : Int) (H : Heap) : Prop :=
 sel ((x6 : Int) == 10)
 (Does Pr 81 #[(.pointer x0), (.bool true)] H (fun v54 H55 =>
 ∃ b56 : Bool, v54 = (.bool b56) ∧ zqz_7 nx18 Q E x0 x6 x7 l7 c7 x8 x9 b56 H55) E)
 (zqz_7 nx18 Q E x0 x6 x7 l7 c7 x8 x9 false H)

def zqz_9_M (nx18 : Int → HP) (Q : QT) (E : ET) (τ : Tau) (H : Heap) : Prop := mP (τ 0) fun x0 => mI .u8 (τ 6) fun x6 => mSl (τ 7) fun x7 l7 c7 => mI .i64 (τ 8) fun x8 => mI .i64 (τ 9) fun x9 => zqz_9 nx18 Q E x0 x6 x7 l7 c7 x8 x9 H

theorem zqz_10ok (nx18 : Int → HP) (Q : QT) (E : ET) (τ : Tau) (H : Heap) (h : zqz_9_M nx18 Q E τ H) : vc Pr zqz_p17 τ (zqz_q8 nx18 Q E) E H :=
  vP (i := 0) h (fun x0 h => vI (i := 6) h (fun x6 h => vSl (i := 7) h (fun x7 l7 c7 h => vI (i := 8) h (fun x8 h => vI (i := 9) h (fun x9 h => (conv (by kernel_rfl) h))))))

theorem zqz_11ok (nx18 : Int → HP) (Q : QT) (E : ET) (τ : Tau) (H : Heap) (h : zqz_9_M nx18 Q E τ H) : vc Pr zqz_p15 τ (zqz_q7 nx18 Q E) E H :=
  (conv (B := vc Pr zqz_p15 τ (zqz_q7 nx18 Q E) E H) (by kernel_rfl) (vc_seq (K := (zqz_7_M nx18 Q E)) (zqz_10ok nx18 Q E τ H h) (zqz_8ok nx18 Q E)))

theorem zqz_12ok (nx18 : Int → HP) (Q : QT) (E : ET) (τ : Tau) (H : Heap) (h : zqz_9_M nx18 Q E τ H) : vc Pr zqz_p13 τ (zqz_q6 nx18 Q E) E H :=
  (conv (B := vc Pr zqz_p13 τ (zqz_q6 nx18 Q E) E H) (by kernel_rfl) (vc_seq (K := (zqz_5_M nx18 Q E)) (zqz_11ok nx18 Q E τ H h) (zqz_6ok nx18 Q E)))

@[reducible] noncomputable def zqz_q9 (nx18 : Int → HP) (Q : QT) (E : ET) : Exit → Tau → Heap → Prop := (xthen (zqz_9_M nx18 Q E) (zqz_q6 nx18 Q E))

@[reducible] noncomputable def zqz_p18 : Code := sA zqz_p12

def zqz_13 (nx18 : Int → HP) (Q : QT) (E : ET) (x0 : OA) (x6 : Int) (x7 : OA) (l7 : Nat) (c7 : Nat) (x8 : Int) (x9 : Int) (H : Heap) : Prop :=
 Does Pr 79 #[(.pointer x0)] H (fun v57 H58 =>
 ∃ b59 : Bool, v57 = (.bool b59) ∧ sel b59
 (zqz_1 Q E x0 H58)
 (zqz_9 nx18 Q E x0 x6 x7 l7 c7 x8 x9 H58)) E

def zqz_13_M (nx18 : Int → HP) (Q : QT) (E : ET) (τ : Tau) (H : Heap) : Prop := mP (τ 0) fun x0 => mI .u8 (τ 6) fun x6 => mSl (τ 7) fun x7 l7 c7 => mI .i64 (τ 8) fun x8 => mI .i64 (τ 9) fun x9 => zqz_13 nx18 Q E x0 x6 x7 l7 c7 x8 x9 H

theorem zqz_14ok (nx18 : Int → HP) (Q : QT) (E : ET) (τ : Tau) (H : Heap) (h : zqz_13_M nx18 Q E τ H) : vc Pr zqz_p18 τ (zqz_q9 nx18 Q E) E H :=
  vP (i := 0) h (fun x0 h => vI (i := 6) h (fun x6 h => vSl (i := 7) h (fun x7 l7 c7 h => vI (i := 8) h (fun x8 h => vI (i := 9) h (fun x9 h => (conv (by kernel_rfl) h))))))

theorem zqz_15ok (nx18 : Int → HP) (Q : QT) (E : ET) (τ : Tau) (H : Heap) (h : zqz_13_M nx18 Q E τ H) : vc Pr zqz_p12 τ (zqz_q6 nx18 Q E) E H :=
  (conv (B := vc Pr zqz_p12 τ (zqz_q6 nx18 Q E) E H) (by kernel_rfl) (vc_seq (K := (zqz_9_M nx18 Q E)) (zqz_14ok nx18 Q E τ H h) (zqz_12ok nx18 Q E)))

@[reducible] noncomputable def zqz_q10 (nx18 : Int → HP) (Q : QT) (E : ET) : Exit → Tau → Heap → Prop := (xthen (zqz_13_M nx18 Q E) (zqz_q6 nx18 Q E))

@[reducible] noncomputable def zqz_p19 : Code := sA zqz_p11

def zqz_16 (nx18 : Int → HP) (Q : QT) (E : ET) (x0 : OA) (x7 : OA) (l7 : Nat) (c7 : Nat) (x8 : Int) (x9 : Int) (H : Heap) : Prop :=
 (0 ≤ (x9 : Int) ∧ (x9 : Int) < ((l7 : Nat) : Int)) ∧ ptr x7 fun q60 =>
 ldI .u8 (Addr.add q60 ((x9 : Int).toNat * 1)) H fun n61 =>
 zqz_13 nx18 Q E x0 n61 x7 l7 c7 x8 x9 H

def zqz_16_M (nx18 : Int → HP) (Q : QT) (E : ET) (τ : Tau) (H : Heap) : Prop := mP (τ 0) fun x0 => mSl (τ 7) fun x7 l7 c7 => mI .i64 (τ 8) fun x8 => mI .i64 (τ 9) fun x9 => zqz_16 nx18 Q E x0 x7 l7 c7 x8 x9 H

theorem zqz_17ok (nx18 : Int → HP) (Q : QT) (E : ET) (τ : Tau) (H : Heap) (h : zqz_16_M nx18 Q E τ H) : vc Pr zqz_p19 τ (zqz_q10 nx18 Q E) E H :=
  vP (i := 0) h (fun x0 h => vSl (i := 7) h (fun x7 l7 c7 h => vI (i := 8) h (fun x8 h => vI (i := 9) h (fun x9 h => (conv (by kernel_rfl) h)))))

theorem zqz_18ok (nx18 : Int → HP) (Q : QT) (E : ET) (τ : Tau) (H : Heap) (h : zqz_16_M nx18 Q E τ H) : vc Pr zqz_p11 τ (zqz_q6 nx18 Q E) E H :=
  (conv (B := vc Pr zqz_p11 τ (zqz_q6 nx18 Q E) E H) (by kernel_rfl) (vc_seq (K := (zqz_13_M nx18 Q E)) (zqz_17ok nx18 Q E τ H h) (zqz_15ok nx18 Q E)))

theorem zqz_19ok (nx18 : Int → HP) (Q : QT) (E : ET) (τ : Tau) (H : Heap) (h : zqz_16_M nx18 Q E τ H) : vc Pr zqz_p10 τ (zqz_q5 nx18 Q E) E H :=
  (conv (B := vc Pr zqz_p10 τ (zqz_q5 nx18 Q E) E H) (by kernel_rfl) (zqz_18ok nx18 Q E τ H h))

theorem zqz_20ok (nx18 : Int → HP) (Q : QT) (E : ET) (τ : Tau) (H : Heap) (h : zqz_16_M nx18 Q E τ H) : vc Pr zqz_p8 τ (zqz_q4 nx18 Q E) E H :=
  (conv (B := vc Pr zqz_p8 τ (zqz_q4 nx18 Q E) E H) (by kernel_rfl) (vc_seq (K := (zqz_3_M nx18 Q E)) (zqz_19ok nx18 Q E τ H h) (zqz_4ok nx18 Q E)))

@[reducible] noncomputable def zqz_q11 (nx18 : Int → HP) (Q : QT) (E : ET) : Exit → Tau → Heap → Prop := (xthen (zqz_16_M nx18 Q E) (zqz_q4 nx18 Q E))

@[reducible] noncomputable def zqz_p20 : Code := sA zqz_p7

def zqz_21 (nx18 : Int → HP) (Q : QT) (E : ET) (x0 : OA) (x7 : OA) (l7 : Nat) (c7 : Nat) (x8 : Int) (x9 : Int) (x10 : Bool) (H : Heap) : Prop :=
 sel x10
 (zqz_16 nx18 Q E x0 x7 l7 c7 x8 x9 H)
 (zqz_1 Q E x0 H)

def zqz_21_M (nx18 : Int → HP) (Q : QT) (E : ET) (τ : Tau) (H : Heap) : Prop := mP (τ 0) fun x0 => mSl (τ 7) fun x7 l7 c7 => mI .i64 (τ 8) fun x8 => mI .i64 (τ 9) fun x9 => mB (τ 10) fun x10 => zqz_21 nx18 Q E x0 x7 l7 c7 x8 x9 x10 H

theorem zqz_22ok (nx18 : Int → HP) (Q : QT) (E : ET) (τ : Tau) (H : Heap) (h : zqz_21_M nx18 Q E τ H) : vc Pr zqz_p20 τ (zqz_q11 nx18 Q E) E H :=
  vP (i := 0) h (fun x0 h => vSl (i := 7) h (fun x7 l7 c7 h => vI (i := 8) h (fun x8 h => vI (i := 9) h (fun x9 h => vB (i := 10) h (fun x10 h => (conv (by kernel_rfl) h))))))

theorem zqz_23ok (nx18 : Int → HP) (Q : QT) (E : ET) (τ : Tau) (H : Heap) (h : zqz_21_M nx18 Q E τ H) : vc Pr zqz_p7 τ (zqz_q4 nx18 Q E) E H :=
  (conv (B := vc Pr zqz_p7 τ (zqz_q4 nx18 Q E) E H) (by kernel_rfl) (vc_seq (K := (zqz_16_M nx18 Q E)) (zqz_22ok nx18 Q E τ H h) (zqz_20ok nx18 Q E)))

@[reducible] noncomputable def zqz_q12 (nx18 : Int → HP) (Q : QT) (E : ET) : Exit → Tau → Heap → Prop := (xthen (zqz_21_M nx18 Q E) (zqz_q4 nx18 Q E))

@[reducible] noncomputable def zqz_p21 : Code := sA zqz_p6

def zqz_24 (nx18 : Int → HP) (Q : QT) (E : ET) (x0 : OA) (x7 : OA) (l7 : Nat) (c7 : Nat) (x8 : Int) (x9 : Int) (H : Heap) : Prop :=
 zqz_21 nx18 Q E x0 x7 l7 c7 x8 x9 (decide ((x9 : Int) < x8)) H

def zqz_24_M (nx18 : Int → HP) (Q : QT) (E : ET) (τ : Tau) (H : Heap) : Prop := mP (τ 0) fun x0 => mSl (τ 7) fun x7 l7 c7 => mI .i64 (τ 8) fun x8 => mI .i64 (τ 9) fun x9 => zqz_24 nx18 Q E x0 x7 l7 c7 x8 x9 H

theorem zqz_25ok (nx18 : Int → HP) (Q : QT) (E : ET) (τ : Tau) (H : Heap) (h : zqz_24_M nx18 Q E τ H) : vc Pr zqz_p21 τ (zqz_q12 nx18 Q E) E H :=
  vP (i := 0) h (fun x0 h => vSl (i := 7) h (fun x7 l7 c7 h => vI (i := 8) h (fun x8 h => vI (i := 9) h (fun x9 h => (conv (by kernel_rfl) h)))))

theorem zqz_26ok (nx18 : Int → HP) (Q : QT) (E : ET) (τ : Tau) (H : Heap) (h : zqz_24_M nx18 Q E τ H) : vc Pr zqz_p6 τ (zqz_q4 nx18 Q E) E H :=
  (conv (B := vc Pr zqz_p6 τ (zqz_q4 nx18 Q E) E H) (by kernel_rfl) (vc_seq (K := (zqz_21_M nx18 Q E)) (zqz_25ok nx18 Q E τ H h) (zqz_23ok nx18 Q E)))

def zqz_27 (Q : QT) (E : ET) (x0 : OA) (x7 : OA) (l7 : Nat) (c7 : Nat) (x8 : Int) (x9 : Int) (H : Heap) : Prop :=
 ∃ (I : Int → HP) (μ : Int → Heap → Nat), I x9 H ∧ ∀ (x9 : Int) (H : Heap), I x9 H →
 zqz_24 (fun x9' H1 => I x9' H1 ∧ μ x9' H1 < μ x9 H) Q E x0 x7 l7 c7 x8 x9 H

def zqz_27_M (Q : QT) (E : ET) (τ : Tau) (H : Heap) : Prop := mP (τ 0) fun x0 => mSl (τ 7) fun x7 l7 c7 => mI .i64 (τ 8) fun x8 => mI .i64 (τ 9) fun x9 => zqz_27 Q E x0 x7 l7 c7 x8 x9 H

theorem zqz_28ok (Q : QT) (E : ET) (τ : Tau) (H : Heap) (h : zqz_27_M Q E τ H) : vc Pr zqz_p5 τ (zqz_q3 Q E) E H :=
  vP (i := 0) h (fun x0 h => vSl (i := 7) h (fun x7 l7 c7 h => vI (i := 8) h (fun x8 h => vI (i := 9) h (fun x9 h => match h with | ⟨I, μ, h0, hr⟩ => (conv (B := vc Pr zqz_p5 (Tau.upd (Tau.upd (Tau.upd (Tau.upd τ 0 (.pointer x0)) 7 (.slice x7 l7 c7)) 8 (.int .i64 x8)) 9 (.int .i64 x9)) (zqz_q3 Q E) E H) (by kernel_rfl) (vc_loop (c := sI zqz_p5) (τ := (Tau.upd (Tau.upd (Tau.upd (Tau.upd τ 0 (.pointer x0)) 7 (.slice x7 l7 c7)) 8 (.int .i64 x8)) 9 (.int .i64 x9))) [0, 7, 8] (fun τ H => mI .i64 (τ 9) fun x9' => I x9' H) (fun τ H => μ (gI (τ 9)) H) (by kernel_rfl) h0 (fun τ1 H1 hf hI => fix_elim (τ := τ1) (i := 0) (v := (.pointer x0)) (G := fun τ => vc Pr (sI zqz_p5) τ (xthen (fun τ2 H2 => (mI .i64 (τ2 9) fun x9' => I x9' H2) ∧ μ (gI (τ2 9)) H2 < μ (gI (τ 9)) H1) (zqz_q3 Q E)) E H1) (hf 0 (by simp)) (fix_elim (τ := (Tau.upd τ1 0 (.pointer x0))) (i := 7) (v := (.slice x7 l7 c7)) (G := fun τ => vc Pr (sI zqz_p5) τ (xthen (fun τ2 H2 => (mI .i64 (τ2 9) fun x9' => I x9' H2) ∧ μ (gI (τ2 9)) H2 < μ (gI (τ 9)) H1) (zqz_q3 Q E)) E H1) (hf 7 (by simp)) (fix_elim (τ := (Tau.upd (Tau.upd τ1 0 (.pointer x0)) 7 (.slice x7 l7 c7))) (i := 8) (v := (.int .i64 x8)) (G := fun τ => vc Pr (sI zqz_p5) τ (xthen (fun τ2 H2 => (mI .i64 (τ2 9) fun x9' => I x9' H2) ∧ μ (gI (τ2 9)) H2 < μ (gI (τ 9)) H1) (zqz_q3 Q E)) E H1) (hf 8 (by simp)) (mI_elim (i := 9) (G := fun τ => vc Pr (sI zqz_p5) τ (xthen (fun τ2 H2 => (mI .i64 (τ2 9) fun x9' => I x9' H2) ∧ μ (gI (τ2 9)) H2 < μ (gI (τ 9)) H1) (zqz_q3 Q E)) E H1) hI (fun x9r h => (conv (B := vc Pr (sI zqz_p5) (Tau.upd (Tau.upd (Tau.upd (Tau.upd τ1 0 (.pointer x0)) 7 (.slice x7 l7 c7)) 8 (.int .i64 x8)) 9 (.int .i64 x9r)) (xthen (fun τ2 H2 => (mI .i64 (τ2 9) fun x9' => I x9' H2) ∧ μ (gI (τ2 9)) H2 < μ (gI ((Tau.upd (Tau.upd (Tau.upd (Tau.upd τ1 0 (.pointer x0)) 7 (.slice x7 l7 c7)) 8 (.int .i64 x8)) 9 (.int .i64 x9r)) 9)) H1) (zqz_q3 Q E)) E H1) (by kernel_rfl) (vc_xthen (zqz_26ok (fun x9' H2 => I x9' H2 ∧ μ x9' H2 < μ x9r H1) Q E (Tau.upd (Tau.upd (Tau.upd (Tau.upd τ1 0 (.pointer x0)) 7 (.slice x7 l7 c7)) 8 (.int .i64 x8)) 9 (.int .i64 x9r)) H1 (conv (B := zqz_24_M (fun x9' H2 => I x9' H2 ∧ μ x9' H2 < μ x9r H1) Q E (Tau.upd (Tau.upd (Tau.upd (Tau.upd τ1 0 (.pointer x0)) 7 (.slice x7 l7 c7)) 8 (.int .i64 x8)) 9 (.int .i64 x9r)) H1) (by kernel_rfl) (hr x9r H1 h))) (fun τ2 H2 hk => mI_elim (i := 9) (G := fun τ => (mI .i64 (τ 9) fun x9' => I x9' H2) ∧ μ (gI (τ 9)) H2 < μ x9r H1) hk (fun x9' h => h)))))))))))))))

theorem zqz_29ok (Q : QT) (E : ET) (τ : Tau) (H : Heap) (h : zqz_27_M Q E τ H) : vc Pr zqz_p4 τ (zqz_q2 Q E) E H :=
  (conv (B := vc Pr zqz_p4 τ (zqz_q2 Q E) E H) (by kernel_rfl) (zqz_28ok Q E τ H h))

@[reducible] noncomputable def zqz_q13 (Q : QT) (E : ET) : Exit → Tau → Heap → Prop := (xthen (zqz_27_M Q E) (zqz_q2 Q E))

@[reducible] noncomputable def zqz_p22 : Code := sA zqz_p3

def zqz_30 (Q : QT) (E : ET) (x0 : OA) (x1 : OA) (l1 : Nat) (c1 : Nat) (H : Heap) : Prop :=
 zqz_27 Q E x0 x1 l1 c1 ((l1 : Nat) : Int) 0 H

def zqz_30_M (Q : QT) (E : ET) (τ : Tau) (H : Heap) : Prop := mP (τ 0) fun x0 => mSl (τ 1) fun x1 l1 c1 => zqz_30 Q E x0 x1 l1 c1 H

theorem zqz_31ok (Q : QT) (E : ET) (τ : Tau) (H : Heap) (h : zqz_30_M Q E τ H) : vc Pr zqz_p22 τ (zqz_q13 Q E) E H :=
  vP (i := 0) h (fun x0 h => vSl (i := 1) h (fun x1 l1 c1 h => (conv (by kernel_rfl) h)))

theorem zqz_32ok (Q : QT) (E : ET) (τ : Tau) (H : Heap) (h : zqz_30_M Q E τ H) : vc Pr zqz_p3 τ (zqz_q2 Q E) E H :=
  (conv (B := vc Pr zqz_p3 τ (zqz_q2 Q E) E H) (by kernel_rfl) (vc_seq (K := (zqz_27_M Q E)) (zqz_31ok Q E τ H h) (zqz_29ok Q E)))

theorem zqz_33ok (Q : QT) (E : ET) (τ : Tau) (H : Heap) (h : zqz_30_M Q E τ H) : vc Pr zqz_p1 τ (zqz_q1 Q E) E H :=
  (conv (B := vc Pr zqz_p1 τ (zqz_q1 Q E) E H) (by kernel_rfl) (vc_seq (K := (zqz_1_M Q E)) (zqz_32ok Q E τ H h) (zqz_2ok Q E)))

@[reducible] noncomputable def zqz_q14 (Q : QT) (E : ET) : Exit → Tau → Heap → Prop := (xthen (zqz_30_M Q E) (zqz_q1 Q E))

@[reducible] noncomputable def zqz_p23 : Code := sA zqz_p0

def zqz (Q : QT) (E : ET) (a0 : OA) (a1 : OA) (a1l : Nat) (a1c : Nat) (H : Heap) : Prop :=
 zqz_30 Q E a0 a1 a1l a1c H

theorem zqz_fn (a0 : OA) (a1 : OA) (a1l : Nat) (a1c : Nat) (Q : QT) (E : ET) (H : Heap) (h : zqz Q E a0 a1 a1l a1c H)   : Does Pr 52 #[(.pointer a0), (.slice a1 a1l a1c)] H Q E :=
  Fn_of_vc (fn := Try.f52) (c := zqz_p0) (args := [(.pointer a0), (.slice a1 a1l a1c)]) mixed (by kernel_rfl) (by kernel_rfl) (by kernel_rfl) (by kernel_rfl) (by kernel_rfl) ((conv (B := vc Pr zqz_p0 (argT [(.pointer a0), (.slice a1 a1l a1c)]) (zqz_q1 Q E) E H) (by kernel_rfl) (vc_seq (K := (zqz_30_M Q E)) (conv (B := vc Pr zqz_p23 (argT [(.pointer a0), (.slice a1 a1l a1c)]) (zqz_q14 Q E) E H) (by kernel_rfl) h) (zqz_33ok Q E))))

/-! (*jobmux/auto.Machine).Found -/
@[reducible] noncomputable def zqa1_q1 (Q : QT) (E : ET) : Exit → Tau → Heap → Prop := (retQ Pr (Try.f53).results.toList Q)

@[reducible] noncomputable def zqa1_p0 : Code := bodyOf Try.f53

def zqa1 (Q : QT) (E : ET) (a0 : OA) (H : Heap) : Prop :=
 Does Pr 79 #[(.pointer a0)] H (fun v1 H2 =>
 ∃ b3 : Bool, v1 = (.bool b3) ∧ ptr a0 fun q4 =>
 ldI .i64 (Addr.add q4 8) H2 fun n5 =>
 Q (.int .i64 n5) H2) E

theorem zqa1_fn (a0 : OA) (Q : QT) (E : ET) (H : Heap) (h : zqa1 Q E a0 H)   : Does Pr 53 #[(.pointer a0)] H Q E :=
  Fn_of_vc (fn := Try.f53) (c := zqa1_p0) (args := [(.pointer a0)]) mixed (by kernel_rfl) (by kernel_rfl) (by kernel_rfl) (by kernel_rfl) (by kernel_rfl) ((conv (B := vc Pr zqa1_p0 (argT [(.pointer a0)]) (zqa1_q1 Q E) E H) (by kernel_rfl) h))

/-! (*jobmux/auto.Machine).Here -/
@[reducible] noncomputable def zqb1_q1 (Q : QT) (E : ET) : Exit → Tau → Heap → Prop := (retQ Pr (Try.f58).results.toList Q)

@[reducible] noncomputable def zqb1_p0 : Code := bodyOf Try.f58

def zqb1 (Q : QT) (E : ET) (a0 : OA) (a1 : OA) (a1l : Nat) (a1c : Nat) (H : Heap) : Prop :=
 sel (decide ((((a1l : Nat) : Int) : Int) > 0))
 ((0 ≤ (0 : Int) ∧ (0 : Int) < ((a1l : Nat) : Int)) ∧ ptr a1 fun q1 =>
 ldI .u8 q1 H fun n2 =>
 Does Pr 81 #[(.pointer a0), (.bool ((n2 : Int) == 10))] H (fun v3 H4 =>
 ∃ b5 : Bool, v3 = (.bool b5) ∧ Q (.bool b5) H4) E)
 (Does Pr 81 #[(.pointer a0), (.bool false)] H (fun v6 H7 =>
 ∃ b8 : Bool, v6 = (.bool b8) ∧ Q (.bool b8) H7) E)

theorem zqb1_fn (a0 : OA) (a1 : OA) (a1l : Nat) (a1c : Nat) (Q : QT) (E : ET) (H : Heap) (h : zqb1 Q E a0 a1 a1l a1c H)   : Does Pr 58 #[(.pointer a0), (.slice a1 a1l a1c)] H Q E :=
  Fn_of_vc (fn := Try.f58) (c := zqb1_p0) (args := [(.pointer a0), (.slice a1 a1l a1c)]) mixed (by kernel_rfl) (by kernel_rfl) (by kernel_rfl) (by kernel_rfl) (by kernel_rfl) ((conv (B := vc Pr zqb1_p0 (argT [(.pointer a0), (.slice a1 a1l a1c)]) (zqb1_q1 Q E) E H) (by kernel_rfl) h))

/-! (*jobmux/auto.Machine).Read -/
@[reducible] noncomputable def zqc1_q1 (Q : QT) (E : ET) : Exit → Tau → Heap → Prop := (retQ Pr (Try.f59).results.toList Q)

@[reducible] noncomputable def zqc1_p0 : Code := bodyOf Try.f59

@[reducible] noncomputable def zqc1_p1 : Code := sB zqc1_p0

@[reducible] noncomputable def zqc1_p2 : Code := sB zqc1_p1

@[reducible] noncomputable def zqc1_p3 : Code := sB zqc1_p2

@[reducible] noncomputable def zqc1_p4 : Code := sB zqc1_p3

@[reducible] noncomputable def zqc1_p5 : Code := sB zqc1_p4

@[reducible] noncomputable def zqc1_p6 : Code := sB zqc1_p5

def zqc1_1 (Q : QT) (E : ET) (x0 : OA) (H : Heap) : Prop :=
 Does Pr 81 #[(.pointer x0), (.bool false)] H (fun v60 H61 =>
 ∃ b62 : Bool, v60 = (.bool b62) ∧ Q (.tuple #[]) H61) E

def zqc1_1_M (Q : QT) (E : ET) (τ : Tau) (H : Heap) : Prop := mP (τ 0) fun x0 => zqc1_1 Q E x0 H

theorem zqc1_2ok (Q : QT) (E : ET) (τ : Tau) (H : Heap) (h : zqc1_1_M Q E τ H) : vc Pr zqc1_p6 τ (zqc1_q1 Q E) E H :=
  vP (i := 0) h (fun x0 h => (conv (by kernel_rfl) h))

@[reducible] noncomputable def zqc1_q2 (Q : QT) (E : ET) : Exit → Tau → Heap → Prop := (xthen (zqc1_1_M Q E) (zqc1_q1 Q E))

@[reducible] noncomputable def zqc1_p7 : Code := sA zqc1_p5

def zqc1_3 (Q : QT) (E : ET) (x0 : OA) (H : Heap) : Prop :=
 ptr x0 fun q63 =>
 ldB (Addr.add q63 5) H fun b64 =>
 sel (!b64)
 (ptr x0 fun q65 =>
 Does Pr 80 #[(.pointer (some (Addr.add q65 1))), (.int .i64 0)] H (fun v66 H67 =>
 zqc1_1 Q E x0 H67) E)
 (zqc1_1 Q E x0 H)

def zqc1_3_M (Q : QT) (E : ET) (τ : Tau) (H : Heap) : Prop := mP (τ 0) fun x0 => zqc1_3 Q E x0 H

theorem zqc1_4ok (Q : QT) (E : ET) (τ : Tau) (H : Heap) (h : zqc1_3_M Q E τ H) : vc Pr zqc1_p7 τ (zqc1_q2 Q E) E H :=
  vP (i := 0) h (fun x0 h => (conv (by kernel_rfl) h))

theorem zqc1_5ok (Q : QT) (E : ET) (τ : Tau) (H : Heap) (h : zqc1_3_M Q E τ H) : vc Pr zqc1_p5 τ (zqc1_q1 Q E) E H :=
  (conv (B := vc Pr zqc1_p5 τ (zqc1_q1 Q E) E H) (by kernel_rfl) (vc_seq (K := (zqc1_1_M Q E)) (zqc1_4ok Q E τ H h) (zqc1_2ok Q E)))

@[reducible] noncomputable def zqc1_q3 (Q : QT) (E : ET) : Exit → Tau → Heap → Prop := (xthen (zqc1_3_M Q E) (zqc1_q1 Q E))

@[reducible] noncomputable def zqc1_p8 : Code := sA zqc1_p4

def zqc1_6 (Q : QT) (E : ET) (x0 : OA) (x1 : Int) (H : Heap) : Prop :=
 ptr x0 fun q68 =>
 wr (Addr.add q68 6) [(.bool ((x1 : Int) == 10))] H fun H69 =>
 zqc1_3 Q E x0 H69

def zqc1_6_M (Q : QT) (E : ET) (τ : Tau) (H : Heap) : Prop := mP (τ 0) fun x0 => mI .u8 (τ 1) fun x1 => zqc1_6 Q E x0 x1 H

theorem zqc1_7ok (Q : QT) (E : ET) (τ : Tau) (H : Heap) (h : zqc1_6_M Q E τ H) : vc Pr zqc1_p8 τ (zqc1_q3 Q E) E H :=
  vP (i := 0) h (fun x0 h => vI (i := 1) h (fun x1 h => (conv (by kernel_rfl) h)))

theorem zqc1_8ok (Q : QT) (E : ET) (τ : Tau) (H : Heap) (h : zqc1_6_M Q E τ H) : vc Pr zqc1_p4 τ (zqc1_q1 Q E) E H :=
  (conv (B := vc Pr zqc1_p4 τ (zqc1_q1 Q E) E H) (by kernel_rfl) (vc_seq (K := (zqc1_3_M Q E)) (zqc1_7ok Q E τ H h) (zqc1_5ok Q E)))

@[reducible] noncomputable def zqc1_q4 (Q : QT) (E : ET) : Exit → Tau → Heap → Prop := (xthen (zqc1_6_M Q E) (zqc1_q1 Q E))

@[reducible] noncomputable def zqc1_p9 : Code := sA zqc1_p3

def zqc1_9 (Q : QT) (E : ET) (x0 : OA) (x1 : Int) (H : Heap) : Prop :=
 ptr x0 fun q70 =>
 ldI .i64 (Addr.add q70 7) H fun n71 =>
 ptr x0 fun q72 =>
 wr (Addr.add q72 7) [(.int .i64 (IntKind.wrap .i64 (n71 + 1)))] H fun H73 =>
 zqc1_6 Q E x0 x1 H73

def zqc1_9_M (Q : QT) (E : ET) (τ : Tau) (H : Heap) : Prop := mP (τ 0) fun x0 => mI .u8 (τ 1) fun x1 => zqc1_9 Q E x0 x1 H

theorem zqc1_10ok (Q : QT) (E : ET) (τ : Tau) (H : Heap) (h : zqc1_9_M Q E τ H) : vc Pr zqc1_p9 τ (zqc1_q4 Q E) E H :=
  vP (i := 0) h (fun x0 h => vI (i := 1) h (fun x1 h => (conv (by kernel_rfl) h)))

theorem zqc1_11ok (Q : QT) (E : ET) (τ : Tau) (H : Heap) (h : zqc1_9_M Q E τ H) : vc Pr zqc1_p3 τ (zqc1_q1 Q E) E H :=
  (conv (B := vc Pr zqc1_p3 τ (zqc1_q1 Q E) E H) (by kernel_rfl) (vc_seq (K := (zqc1_6_M Q E)) (zqc1_10ok Q E τ H h) (zqc1_8ok Q E)))

@[reducible] noncomputable def zqc1_q5 (Q : QT) (E : ET) : Exit → Tau → Heap → Prop := (xthen (zqc1_9_M Q E) (zqc1_q1 Q E))

@[reducible] noncomputable def zqc1_p10 : Code := sA zqc1_p2

def zqc1_12 (Q : QT) (E : ET) (x0 : OA) (x1 : Int) (H : Heap) : Prop :=
 ptr x0 fun q74 =>
 ∃ (p75 : OA) (l76 c77 : Nat), ∃ (p78 : OA) (l79 c80 : Nat), Heap.rd H (Addr.add q74 3) 0 [(.slice p75 l76 c77), (.slice p78 l79 c80)] ∧ ptr x0 fun q81 =>
 ∃ (p82 : OA) (l83 c84 : Nat), ∃ (p85 : OA) (l86 c87 : Nat), Heap.rd H (Addr.add q81 1) 0 [(.slice p82 l83 c84), (.slice p85 l86 c87)] ∧ ptr x0 fun q88 =>
 wr (Addr.add q88 1) [(.slice p75 l76 c77), (.slice p78 l79 c80)] H fun H89 =>
 ptr x0 fun q90 =>
 wr (Addr.add q90 3) [(.slice p82 l83 c84), (.slice p85 l86 c87)] H89 fun H91 =>
 zqc1_9 Q E x0 x1 H91

def zqc1_12_M (Q : QT) (E : ET) (τ : Tau) (H : Heap) : Prop := mP (τ 0) fun x0 => mI .u8 (τ 1) fun x1 => zqc1_12 Q E x0 x1 H

theorem zqc1_13ok (Q : QT) (E : ET) (τ : Tau) (H : Heap) (h : zqc1_12_M Q E τ H) : vc Pr zqc1_p10 τ (zqc1_q5 Q E) E H :=
  vP (i := 0) h (fun x0 h => vI (i := 1) h (fun x1 h => (conv (by kernel_rfl) h)))

theorem zqc1_14ok (Q : QT) (E : ET) (τ : Tau) (H : Heap) (h : zqc1_12_M Q E τ H) : vc Pr zqc1_p2 τ (zqc1_q1 Q E) E H :=
  (conv (B := vc Pr zqc1_p2 τ (zqc1_q1 Q E) E H) (by kernel_rfl) (vc_seq (K := (zqc1_9_M Q E)) (zqc1_13ok Q E τ H h) (zqc1_11ok Q E)))

@[reducible] noncomputable def zqc1_q6 (Q : QT) (E : ET) : Exit → Tau → Heap → Prop := (xthen (zqc1_12_M Q E) (zqc1_q1 Q E))

@[reducible] noncomputable def zqc1_p11 : Code := sA zqc1_p1

@[reducible] noncomputable def zqc1_p12 : Code := sB zqc1_p11

@[reducible] noncomputable def zqc1_q7 (Q : QT) (E : ET) : Exit → Tau → Heap → Prop := (xblock 0 (zqc1_q6 Q E))

@[reducible] noncomputable def zqc1_p13 : Code := sI zqc1_p12

@[reducible] noncomputable def zqc1_q8 (nx96 : Int → HP) (Q : QT) (E : ET) : Exit → Tau → Heap → Prop := (xthen (fun τ H => mI .i64 (τ 17) fun x17' => nx96 x17' H) (zqc1_q7 Q E))

@[reducible] noncomputable def zqc1_p14 : Code := sI zqc1_p13

@[reducible] noncomputable def zqc1_p15 : Code := sB zqc1_p14

@[reducible] noncomputable def zqc1_p16 : Code := sB zqc1_p15

@[reducible] noncomputable def zqc1_p17 : Code := sB zqc1_p16

def zqc1_15 (nx96 : Int → HP) (Q : QT) (E : ET) (x0 : OA) (x1 : Int) (x15 : OA) (l15 : Nat) (c15 : Nat) (x16 : Int) (x17 : Int) (H : Heap) : Prop :=
 nx96 (IntKind.wrap .i64 (x17 + 1)) H

def zqc1_15_M (nx96 : Int → HP) (Q : QT) (E : ET) (τ : Tau) (H : Heap) : Prop := mP (τ 0) fun x0 => mI .u8 (τ 1) fun x1 => mSl (τ 15) fun x15 l15 c15 => mI .i64 (τ 16) fun x16 => mI .i64 (τ 17) fun x17 => zqc1_15 nx96 Q E x0 x1 x15 l15 c15 x16 x17 H

theorem zqc1_16ok (nx96 : Int → HP) (Q : QT) (E : ET) (τ : Tau) (H : Heap) (h : zqc1_15_M nx96 Q E τ H) : vc Pr zqc1_p17 τ (zqc1_q8 nx96 Q E) E H :=
  vP (i := 0) h (fun x0 h => vI (i := 1) h (fun x1 h => vSl (i := 15) h (fun x15 l15 c15 h => vI (i := 16) h (fun x16 h => vI (i := 17) h (fun x17 h => (conv (by kernel_rfl) h))))))

@[reducible] noncomputable def zqc1_q9 (nx96 : Int → HP) (Q : QT) (E : ET) : Exit → Tau → Heap → Prop := (xthen (zqc1_15_M nx96 Q E) (zqc1_q8 nx96 Q E))

@[reducible] noncomputable def zqc1_p18 : Code := sA zqc1_p16

@[reducible] noncomputable def zqc1_q10 (nx96 : Int → HP) (Q : QT) (E : ET) : Exit → Tau → Heap → Prop := (xblock 1 (zqc1_q9 nx96 Q E))

@[reducible] noncomputable def zqc1_p19 : Code := sI zqc1_p18

@[reducible] noncomputable def zqc1_p20 : Code := sB zqc1_p19

@[reducible] noncomputable def zqc1_p21 : Code := sB zqc1_p20

@[reducible] noncomputable def zqc1_p22 : Code := sB zqc1_p21

def zqc1_17 (nx96 : Int → HP) (Q : QT) (E : ET) (x0 : OA) (x1 : Int) (x6 : OA) (x15 : OA) (l15 : Nat) (c15 : Nat) (x16 : Int) (x17 : Int) (x42 : Bool) (H : Heap) : Prop :=
 sel x42
 (ptr x0 fun q139 =>
 ptr x6 fun q140 =>
 ldI .i64 (Addr.add q140 1) H fun n141 =>
 Does Pr 80 #[(.pointer (some (Addr.add q139 3))), (.int .i64 n141)] H (fun v142 H143 =>
 zqc1_15 nx96 Q E x0 x1 x15 l15 c15 x16 x17 H143) (fun _ _ => False))
 (zqc1_15 nx96 Q E x0 x1 x15 l15 c15 x16 x17 H)

def zqc1_17_M (nx96 : Int → HP) (Q : QT) (E : ET) (τ : Tau) (H : Heap) : Prop := mP (τ 0) fun x0 => mI .u8 (τ 1) fun x1 => mP (τ 6) fun x6 => mSl (τ 15) fun x15 l15 c15 => mI .i64 (τ 16) fun x16 => mI .i64 (τ 17) fun x17 => mB (τ 42) fun x42 => zqc1_17 nx96 Q E x0 x1 x6 x15 l15 c15 x16 x17 x42 H

theorem zqc1_18ok (nx96 : Int → HP) (Q : QT) (E : ET) (τ : Tau) (H : Heap) (h : zqc1_17_M nx96 Q E τ H) : vc Pr zqc1_p22 τ (zqc1_q10 nx96 Q E) E H :=
  vP (i := 0) h (fun x0 h => vI (i := 1) h (fun x1 h => vP (i := 6) h (fun x6 h => vSl (i := 15) h (fun x15 l15 c15 h => vI (i := 16) h (fun x16 h => vI (i := 17) h (fun x17 h => vB (i := 42) h (fun x42 h => (conv (by kernel_rfl) h))))))))

@[reducible] noncomputable def zqc1_q11 (nx96 : Int → HP) (Q : QT) (E : ET) : Exit → Tau → Heap → Prop := (xthen (zqc1_17_M nx96 Q E) (zqc1_q10 nx96 Q E))

@[reducible] noncomputable def zqc1_p23 : Code := sA zqc1_p21

def zqc1_19 (nx96 : Int → HP) (Q : QT) (E : ET) (x0 : OA) (x1 : Int) (x6 : OA) (x15 : OA) (l15 : Nat) (c15 : Nat) (x16 : Int) (x17 : Int) (H : Heap) : Prop :=
 ptr x6 fun q144 =>
 ldI .i64 q144 H fun n145 =>
 sel ((n145 : Int) == 1)
 ((64 : Int) ≠ 0 ∧ ptr x6 fun q146 =>
 (0 ≤ ((IntKind.wrap .u8 (Int.tdiv x1 64)) : Int) ∧ ((IntKind.wrap .u8 (Int.tdiv x1 64)) : Int) < ((4 : Nat) : Int)) ∧ ldI .u64 (Addr.add (Addr.add q146 3) (((IntKind.wrap .u8 (Int.tdiv x1 64)) : Int).toNat * 1)) H fun n147 =>
 (64 : Int) ≠ 0 ∧ 0 ≤ ((Int.tmod x1 64) : Int) ∧ zqc1_17 nx96 Q E x0 x1 x6 x15 l15 c15 x16 x17 (((IntKind.wrap .u64 (BitVec.ofInt (IntKind.bits .u64) (Int.fdiv n147 (2 ^ min ((Int.tmod x1 64) : Int).toNat (IntKind.bits .u64))) &&& BitVec.ofInt (IntKind.bits .u64) 1).toNat) : Int) == 1) H)
 (zqc1_17 nx96 Q E x0 x1 x6 x15 l15 c15 x16 x17 false H)

def zqc1_19_M (nx96 : Int → HP) (Q : QT) (E : ET) (τ : Tau) (H : Heap) : Prop := mP (τ 0) fun x0 => mI .u8 (τ 1) fun x1 => mP (τ 6) fun x6 => mSl (τ 15) fun x15 l15 c15 => mI .i64 (τ 16) fun x16 => mI .i64 (τ 17) fun x17 => zqc1_19 nx96 Q E x0 x1 x6 x15 l15 c15 x16 x17 H

theorem zqc1_20ok (nx96 : Int → HP) (Q : QT) (E : ET) (τ : Tau) (H : Heap) (h : zqc1_19_M nx96 Q E τ H) : vc Pr zqc1_p23 τ (zqc1_q11 nx96 Q E) E H :=
  vP (i := 0) h (fun x0 h => vI (i := 1) h (fun x1 h => vP (i := 6) h (fun x6 h => vSl (i := 15) h (fun x15 l15 c15 h => vI (i := 16) h (fun x16 h => vI (i := 17) h (fun x17 h => (conv (by kernel_rfl) h)))))))

theorem zqc1_21ok (nx96 : Int → HP) (Q : QT) (E : ET) (τ : Tau) (H : Heap) (h : zqc1_19_M nx96 Q E τ H) : vc Pr zqc1_p21 τ (zqc1_q10 nx96 Q E) E H :=
  (conv (B := vc Pr zqc1_p21 τ (zqc1_q10 nx96 Q E) E H) (by kernel_rfl) (vc_seq (K := (zqc1_17_M nx96 Q E)) (zqc1_20ok nx96 Q E τ H h) (zqc1_18ok nx96 Q E)))

@[reducible] noncomputable def zqc1_q12 (nx96 : Int → HP) (Q : QT) (E : ET) : Exit → Tau → Heap → Prop := (xthen (zqc1_19_M nx96 Q E) (zqc1_q10 nx96 Q E))

@[reducible] noncomputable def zqc1_p24 : Code := sA zqc1_p20

def zqc1_22 (nx96 : Int → HP) (Q : QT) (E : ET) (x0 : OA) (x1 : Int) (x5 : Int) (x15 : OA) (l15 : Nat) (c15 : Nat) (x16 : Int) (x17 : Int) (H : Heap) : Prop :=
 ptr x0 fun q148 =>
 ldSl q148 H fun p149 l150 c151 =>
 (0 ≤ (x5 : Int) ∧ (x5 : Int) < ((l150 : Nat) : Int)) ∧ ptr p149 fun q152 =>
 ∃ n153 n154 n155 n156 n157 n158 n159 : Int, Heap.rd H (Addr.add q152 ((x5 : Int).toNat * 7)) 0 [(.int .i64 n153), (.int .i64 n154), (.int .i64 n155), (.int .u64 n156), (.int .u64 n157), (.int .u64 n158), (.int .u64 n159)] ∧ nw (.cells #[(.int .i64 0), (.int .i64 0), (.int .i64 0), (.int .u64 0), (.int .u64 0), (.int .u64 0), (.int .u64 0)] 91 (0, 0)) H fun i160 H161 =>
 wr ⟨i160, 0, none⟩ [(.int .i64 n153), (.int .i64 n154), (.int .i64 n155), (.int .u64 n156), (.int .u64 n157), (.int .u64 n158), (.int .u64 n159)] H161 fun H162 =>
 zqc1_19 nx96 Q E x0 x1 (some ⟨i160, 0, none⟩) x15 l15 c15 x16 x17 H162

def zqc1_22_M (nx96 : Int → HP) (Q : QT) (E : ET) (τ : Tau) (H : Heap) : Prop := mP (τ 0) fun x0 => mI .u8 (τ 1) fun x1 => mI .i64 (τ 5) fun x5 => mSl (τ 15) fun x15 l15 c15 => mI .i64 (τ 16) fun x16 => mI .i64 (τ 17) fun x17 => zqc1_22 nx96 Q E x0 x1 x5 x15 l15 c15 x16 x17 H

theorem zqc1_23ok (nx96 : Int → HP) (Q : QT) (E : ET) (τ : Tau) (H : Heap) (h : zqc1_22_M nx96 Q E τ H) : vc Pr zqc1_p24 τ (zqc1_q12 nx96 Q E) E H :=
  vP (i := 0) h (fun x0 h => vI (i := 1) h (fun x1 h => vI (i := 5) h (fun x5 h => vSl (i := 15) h (fun x15 l15 c15 h => vI (i := 16) h (fun x16 h => vI (i := 17) h (fun x17 h => (conv (by kernel_rfl) h)))))))

theorem zqc1_24ok (nx96 : Int → HP) (Q : QT) (E : ET) (τ : Tau) (H : Heap) (h : zqc1_22_M nx96 Q E τ H) : vc Pr zqc1_p20 τ (zqc1_q10 nx96 Q E) E H :=
  (conv (B := vc Pr zqc1_p20 τ (zqc1_q10 nx96 Q E) E H) (by kernel_rfl) (vc_seq (K := (zqc1_19_M nx96 Q E)) (zqc1_23ok nx96 Q E τ H h) (zqc1_21ok nx96 Q E)))

@[reducible] noncomputable def zqc1_q13 (nx96 : Int → HP) (Q : QT) (E : ET) : Exit → Tau → Heap → Prop := (xthen (zqc1_22_M nx96 Q E) (zqc1_q10 nx96 Q E))

@[reducible] noncomputable def zqc1_p25 : Code := sA zqc1_p19

def zqc1_25 (nx96 : Int → HP) (Q : QT) (E : ET) (x0 : OA) (x1 : Int) (x15 : OA) (l15 : Nat) (c15 : Nat) (x16 : Int) (x17 : Int) (H : Heap) : Prop :=
 (0 ≤ (x17 : Int) ∧ (x17 : Int) < ((l15 : Nat) : Int)) ∧ ptr x15 fun q163 =>
 ldI .i64 (Addr.add q163 ((x17 : Int).toNat * 1)) H fun n164 =>
 zqc1_22 nx96 Q E x0 x1 n164 x15 l15 c15 x16 x17 H

def zqc1_25_M (nx96 : Int → HP) (Q : QT) (E : ET) (τ : Tau) (H : Heap) : Prop := mP (τ 0) fun x0 => mI .u8 (τ 1) fun x1 => mSl (τ 15) fun x15 l15 c15 => mI .i64 (τ 16) fun x16 => mI .i64 (τ 17) fun x17 => zqc1_25 nx96 Q E x0 x1 x15 l15 c15 x16 x17 H

theorem zqc1_26ok (nx96 : Int → HP) (Q : QT) (E : ET) (τ : Tau) (H : Heap) (h : zqc1_25_M nx96 Q E τ H) : vc Pr zqc1_p25 τ (zqc1_q13 nx96 Q E) E H :=
  vP (i := 0) h (fun x0 h => vI (i := 1) h (fun x1 h => vSl (i := 15) h (fun x15 l15 c15 h => vI (i := 16) h (fun x16 h => vI (i := 17) h (fun x17 h => (conv (by kernel_rfl) h))))))

theorem zqc1_27ok (nx96 : Int → HP) (Q : QT) (E : ET) (τ : Tau) (H : Heap) (h : zqc1_25_M nx96 Q E τ H) : vc Pr zqc1_p19 τ (zqc1_q10 nx96 Q E) E H :=
  (conv (B := vc Pr zqc1_p19 τ (zqc1_q10 nx96 Q E) E H) (by kernel_rfl) (vc_seq (K := (zqc1_22_M nx96 Q E)) (zqc1_26ok nx96 Q E τ H h) (zqc1_24ok nx96 Q E)))

theorem zqc1_28ok (nx96 : Int → HP) (Q : QT) (E : ET) (τ : Tau) (H : Heap) (h : zqc1_25_M nx96 Q E τ H) : vc Pr zqc1_p18 τ (zqc1_q9 nx96 Q E) E H :=
  (conv (B := vc Pr zqc1_p18 τ (zqc1_q9 nx96 Q E) E H) (by kernel_rfl) (zqc1_27ok nx96 Q E τ H h))

theorem zqc1_29ok (nx96 : Int → HP) (Q : QT) (E : ET) (τ : Tau) (H : Heap) (h : zqc1_25_M nx96 Q E τ H) : vc Pr zqc1_p16 τ (zqc1_q8 nx96 Q E) E H :=
  (conv (B := vc Pr zqc1_p16 τ (zqc1_q8 nx96 Q E) E H) (by kernel_rfl) (vc_seq (K := (zqc1_15_M nx96 Q E)) (zqc1_28ok nx96 Q E τ H h) (zqc1_16ok nx96 Q E)))

@[reducible] noncomputable def zqc1_q14 (nx96 : Int → HP) (Q : QT) (E : ET) : Exit → Tau → Heap → Prop := (xthen (zqc1_25_M nx96 Q E) (zqc1_q8 nx96 Q E))

@[reducible] noncomputable def zqc1_p26 : Code := sA zqc1_p15

def zqc1_30 (nx96 : Int → HP) (Q : QT) (E : ET) (x0 : OA) (x1 : Int) (x15 : OA) (l15 : Nat) (c15 : Nat) (x16 : Int) (x17 : Int) (x18 : Bool) (H : Heap) : Prop :=
 sel x18
 (zqc1_25 nx96 Q E x0 x1 x15 l15 c15 x16 x17 H)
 (zqc1_12 Q E x0 x1 H)

def zqc1_30_M (nx96 : Int → HP) (Q : QT) (E : ET) (τ : Tau) (H : Heap) : Prop := mP (τ 0) fun x0 => mI .u8 (τ 1) fun x1 => mSl (τ 15) fun x15 l15 c15 => mI .i64 (τ 16) fun x16 => mI .i64 (τ 17) fun x17 => mB (τ 18) fun x18 => zqc1_30 nx96 Q E x0 x1 x15 l15 c15 x16 x17 x18 H

theorem zqc1_31ok (nx96 : Int → HP) (Q : QT) (E : ET) (τ : Tau) (H : Heap) (h : zqc1_30_M nx96 Q E τ H) : vc Pr zqc1_p26 τ (zqc1_q14 nx96 Q E) E H :=
  vP (i := 0) h (fun x0 h => vI (i := 1) h (fun x1 h => vSl (i := 15) h (fun x15 l15 c15 h => vI (i := 16) h (fun x16 h => vI (i := 17) h (fun x17 h => vB (i := 18) h (fun x18 h => (conv (by kernel_rfl) h)))))))

theorem zqc1_32ok (nx96 : Int → HP) (Q : QT) (E : ET) (τ : Tau) (H : Heap) (h : zqc1_30_M nx96 Q E τ H) : vc Pr zqc1_p15 τ (zqc1_q8 nx96 Q E) E H :=
  (conv (B := vc Pr zqc1_p15 τ (zqc1_q8 nx96 Q E) E H) (by kernel_rfl) (vc_seq (K := (zqc1_25_M nx96 Q E)) (zqc1_31ok nx96 Q E τ H h) (zqc1_29ok nx96 Q E)))

@[reducible] noncomputable def zqc1_q15 (nx96 : Int → HP) (Q : QT) (E : ET) : Exit → Tau → Heap → Prop := (xthen (zqc1_30_M nx96 Q E) (zqc1_q8 nx96 Q E))

@[reducible] noncomputable def zqc1_p27 : Code := sA zqc1_p14

def zqc1_33 (nx96 : Int → HP) (Q : QT) (E : ET) (x0 : OA) (x1 : Int) (x15 : OA) (l15 : Nat) (c15 : Nat) (x16 : Int) (x17 : Int) (H : Heap) : Prop :=
 zqc1_30 nx96 Q E x0 x1 x15 l15 c15 x16 x17 (decide ((x17 : Int) < x16)) H

def zqc1_33_M (nx96 : Int → HP) (Q : QT) (E : ET) (τ : Tau) (H : Heap) : Prop := mP (τ 0) fun x0 => mI .u8 (τ 1) fun x1 => mSl (τ 15) fun x15 l15 c15 => mI .i64 (τ 16) fun x16 => mI .i64 (τ 17) fun x17 => zqc1_33 nx96 Q E x0 x1 x15 l15 c15 x16 x17 H

theorem zqc1_34ok (nx96 : Int → HP) (Q : QT) (E : ET) (τ : Tau) (H : Heap) (h : zqc1_33_M nx96 Q E τ H) : vc Pr zqc1_p27 τ (zqc1_q15 nx96 Q E) E H :=
  vP (i := 0) h (fun x0 h => vI (i := 1) h (fun x1 h => vSl (i := 15) h (fun x15 l15 c15 h => vI (i := 16) h (fun x16 h => vI (i := 17) h (fun x17 h => (conv (by kernel_rfl) h))))))

theorem zqc1_35ok (nx96 : Int → HP) (Q : QT) (E : ET) (τ : Tau) (H : Heap) (h : zqc1_33_M nx96 Q E τ H) : vc Pr zqc1_p14 τ (zqc1_q8 nx96 Q E) E H :=
  (conv (B := vc Pr zqc1_p14 τ (zqc1_q8 nx96 Q E) E H) (by kernel_rfl) (vc_seq (K := (zqc1_30_M nx96 Q E)) (zqc1_34ok nx96 Q E τ H h) (zqc1_32ok nx96 Q E)))

def zqc1_36 (Q : QT) (E : ET) (x0 : OA) (x1 : Int) (x15 : OA) (l15 : Nat) (c15 : Nat) (x16 : Int) (x17 : Int) (H : Heap) : Prop :=
 ∃ (I : Int → HP) (μ : Int → Heap → Nat), I x17 H ∧ ∀ (x17 : Int) (H : Heap), I x17 H →
 zqc1_33 (fun x17' H1 => I x17' H1 ∧ μ x17' H1 < μ x17 H) Q E x0 x1 x15 l15 c15 x16 x17 H

def zqc1_36_M (Q : QT) (E : ET) (τ : Tau) (H : Heap) : Prop := mP (τ 0) fun x0 => mI .u8 (τ 1) fun x1 => mSl (τ 15) fun x15 l15 c15 => mI .i64 (τ 16) fun x16 => mI .i64 (τ 17) fun x17 => zqc1_36 Q E x0 x1 x15 l15 c15 x16 x17 H

theorem zqc1_37ok (Q : QT) (E : ET) (τ : Tau) (H : Heap) (h : zqc1_36_M Q E τ H) : vc Pr zqc1_p13 τ (zqc1_q7 Q E) E H :=
  vP (i := 0) h (fun x0 h => vI (i := 1) h (fun x1 h => vSl (i := 15) h (fun x15 l15 c15 h => vI (i := 16) h (fun x16 h => vI (i := 17) h (fun x17 h => match h with | ⟨I, μ, h0, hr⟩ => (conv (B := vc Pr zqc1_p13 (Tau.upd (Tau.upd (Tau.upd (Tau.upd (Tau.upd τ 0 (.pointer x0)) 1 (.int .u8 x1)) 15 (.slice x15 l15 c15)) 16 (.int .i64 x16)) 17 (.int .i64 x17)) (zqc1_q7 Q E) E H) (by kernel_rfl) (vc_loop (c := sI zqc1_p13) (τ := (Tau.upd (Tau.upd (Tau.upd (Tau.upd (Tau.upd τ 0 (.pointer x0)) 1 (.int .u8 x1)) 15 (.slice x15 l15 c15)) 16 (.int .i64 x16)) 17 (.int .i64 x17))) [0, 1, 15, 16] (fun τ H => mI .i64 (τ 17) fun x17' => I x17' H) (fun τ H => μ (gI (τ 17)) H) (by kernel_rfl) h0 (fun τ1 H1 hf hI => fix_elim (τ := τ1) (i := 0) (v := (.pointer x0)) (G := fun τ => vc Pr (sI zqc1_p13) τ (xthen (fun τ2 H2 => (mI .i64 (τ2 17) fun x17' => I x17' H2) ∧ μ (gI (τ2 17)) H2 < μ (gI (τ 17)) H1) (zqc1_q7 Q E)) E H1) (hf 0 (by simp)) (fix_elim (τ := (Tau.upd τ1 0 (.pointer x0))) (i := 1) (v := (.int .u8 x1)) (G := fun τ => vc Pr (sI zqc1_p13) τ (xthen (fun τ2 H2 => (mI .i64 (τ2 17) fun x17' => I x17' H2) ∧ μ (gI (τ2 17)) H2 < μ (gI (τ 17)) H1) (zqc1_q7 Q E)) E H1) (hf 1 (by simp)) (fix_elim (τ := (Tau.upd (Tau.upd τ1 0 (.pointer x0)) 1 (.int .u8 x1))) (i := 15) (v := (.slice x15 l15 c15)) (G := fun τ => vc Pr (sI zqc1_p13) τ (xthen (fun τ2 H2 => (mI .i64 (τ2 17) fun x17' => I x17' H2) ∧ μ (gI (τ2 17)) H2 < μ (gI (τ 17)) H1) (zqc1_q7 Q E)) E H1) (hf 15 (by simp)) (fix_elim (τ := (Tau.upd (Tau.upd (Tau.upd τ1 0 (.pointer x0)) 1 (.int .u8 x1)) 15 (.slice x15 l15 c15))) (i := 16) (v := (.int .i64 x16)) (G := fun τ => vc Pr (sI zqc1_p13) τ (xthen (fun τ2 H2 => (mI .i64 (τ2 17) fun x17' => I x17' H2) ∧ μ (gI (τ2 17)) H2 < μ (gI (τ 17)) H1) (zqc1_q7 Q E)) E H1) (hf 16 (by simp)) (mI_elim (i := 17) (G := fun τ => vc Pr (sI zqc1_p13) τ (xthen (fun τ2 H2 => (mI .i64 (τ2 17) fun x17' => I x17' H2) ∧ μ (gI (τ2 17)) H2 < μ (gI (τ 17)) H1) (zqc1_q7 Q E)) E H1) hI (fun x17r h => (conv (B := vc Pr (sI zqc1_p13) (Tau.upd (Tau.upd (Tau.upd (Tau.upd (Tau.upd τ1 0 (.pointer x0)) 1 (.int .u8 x1)) 15 (.slice x15 l15 c15)) 16 (.int .i64 x16)) 17 (.int .i64 x17r)) (xthen (fun τ2 H2 => (mI .i64 (τ2 17) fun x17' => I x17' H2) ∧ μ (gI (τ2 17)) H2 < μ (gI ((Tau.upd (Tau.upd (Tau.upd (Tau.upd (Tau.upd τ1 0 (.pointer x0)) 1 (.int .u8 x1)) 15 (.slice x15 l15 c15)) 16 (.int .i64 x16)) 17 (.int .i64 x17r)) 17)) H1) (zqc1_q7 Q E)) E H1) (by kernel_rfl) (vc_xthen (zqc1_35ok (fun x17' H2 => I x17' H2 ∧ μ x17' H2 < μ x17r H1) Q E (Tau.upd (Tau.upd (Tau.upd (Tau.upd (Tau.upd τ1 0 (.pointer x0)) 1 (.int .u8 x1)) 15 (.slice x15 l15 c15)) 16 (.int .i64 x16)) 17 (.int .i64 x17r)) H1 (conv (B := zqc1_33_M (fun x17' H2 => I x17' H2 ∧ μ x17' H2 < μ x17r H1) Q E (Tau.upd (Tau.upd (Tau.upd (Tau.upd (Tau.upd τ1 0 (.pointer x0)) 1 (.int .u8 x1)) 15 (.slice x15 l15 c15)) 16 (.int .i64 x16)) 17 (.int .i64 x17r)) H1) (by kernel_rfl) (hr x17r H1 h))) (fun τ2 H2 hk => mI_elim (i := 17) (G := fun τ => (mI .i64 (τ 17) fun x17' => I x17' H2) ∧ μ (gI (τ 17)) H2 < μ x17r H1) hk (fun x17' h => h)))))))))))))))))

theorem zqc1_38ok (Q : QT) (E : ET) (τ : Tau) (H : Heap) (h : zqc1_36_M Q E τ H) : vc Pr zqc1_p12 τ (zqc1_q6 Q E) E H :=
  (conv (B := vc Pr zqc1_p12 τ (zqc1_q6 Q E) E H) (by kernel_rfl) (zqc1_37ok Q E τ H h))

@[reducible] noncomputable def zqc1_q16 (Q : QT) (E : ET) : Exit → Tau → Heap → Prop := (xthen (zqc1_36_M Q E) (zqc1_q6 Q E))

@[reducible] noncomputable def zqc1_p28 : Code := sA zqc1_p11

def zqc1_39 (Q : QT) (E : ET) (x0 : OA) (x1 : Int) (H : Heap) : Prop :=
 ptr x0 fun q165 =>
 ldSl (Addr.add q165 1) H fun p166 l167 c168 =>
 zqc1_36 Q E x0 x1 p166 l167 c168 ((l167 : Nat) : Int) 0 H

def zqc1_39_M (Q : QT) (E : ET) (τ : Tau) (H : Heap) : Prop := mP (τ 0) fun x0 => mI .u8 (τ 1) fun x1 => zqc1_39 Q E x0 x1 H

theorem zqc1_40ok (Q : QT) (E : ET) (τ : Tau) (H : Heap) (h : zqc1_39_M Q E τ H) : vc Pr zqc1_p28 τ (zqc1_q16 Q E) E H :=
  vP (i := 0) h (fun x0 h => vI (i := 1) h (fun x1 h => (conv (by kernel_rfl) h)))

theorem zqc1_41ok (Q : QT) (E : ET) (τ : Tau) (H : Heap) (h : zqc1_39_M Q E τ H) : vc Pr zqc1_p11 τ (zqc1_q6 Q E) E H :=
  (conv (B := vc Pr zqc1_p11 τ (zqc1_q6 Q E) E H) (by kernel_rfl) (vc_seq (K := (zqc1_36_M Q E)) (zqc1_40ok Q E τ H h) (zqc1_38ok Q E)))

theorem zqc1_42ok (Q : QT) (E : ET) (τ : Tau) (H : Heap) (h : zqc1_39_M Q E τ H) : vc Pr zqc1_p1 τ (zqc1_q1 Q E) E H :=
  (conv (B := vc Pr zqc1_p1 τ (zqc1_q1 Q E) E H) (by kernel_rfl) (vc_seq (K := (zqc1_12_M Q E)) (zqc1_41ok Q E τ H h) (zqc1_14ok Q E)))

@[reducible] noncomputable def zqc1_q17 (Q : QT) (E : ET) : Exit → Tau → Heap → Prop := (xthen (zqc1_39_M Q E) (zqc1_q1 Q E))

@[reducible] noncomputable def zqc1_p29 : Code := sA zqc1_p0

def zqc1 (Q : QT) (E : ET) (a0 : OA) (a1 : Int) (H : Heap) : Prop :=
 ptr a0 fun q169 =>
 Does Pr 92 #[(.pointer (some (Addr.add q169 3)))] H (fun v170 H171 =>
 zqc1_39 Q E a0 a1 H171) E

theorem zqc1_fn (a0 : OA) (a1 : Int) (Q : QT) (E : ET) (H : Heap) (h : zqc1 Q E a0 a1 H)   : Does Pr 59 #[(.pointer a0), (.int .u8 a1)] H Q E :=
  Fn_of_vc (fn := Try.f59) (c := zqc1_p0) (args := [(.pointer a0), (.int .u8 a1)]) mixed (by kernel_rfl) (by kernel_rfl) (by kernel_rfl) (by kernel_rfl) (by kernel_rfl) ((conv (B := vc Pr zqc1_p0 (argT [(.pointer a0), (.int .u8 a1)]) (zqc1_q1 Q E) E H) (by kernel_rfl) (vc_seq (K := (zqc1_39_M Q E)) (conv (B := vc Pr zqc1_p29 (argT [(.pointer a0), (.int .u8 a1)]) (zqc1_q17 Q E) E H) (by kernel_rfl) h) (zqc1_42ok Q E))))

/-! (*jobmux/auto.Machine).Matched -/
@[reducible] noncomputable def zqd1_q1 (Q : QT) (E : ET) : Exit → Tau → Heap → Prop := (retQ Pr (Try.f79).results.toList Q)

@[reducible] noncomputable def zqd1_p0 : Code := bodyOf Try.f79

@[reducible] noncomputable def zqd1_p1 : Code := sB zqd1_p0

@[reducible] noncomputable def zqd1_p2 : Code := sB zqd1_p1

def zqd1_1 (Q : QT) (E : ET) (x0 : OA) (H : Heap) : Prop :=
 ptr x0 fun q10 =>
 ldI .i64 (Addr.add q10 8) H fun n11 =>
 Q (.bool (decide ((n11 : Int) ≥ 0))) H

def zqd1_1_M (Q : QT) (E : ET) (τ : Tau) (H : Heap) : Prop := mP (τ 0) fun x0 => zqd1_1 Q E x0 H

theorem zqd1_2ok (Q : QT) (E : ET) (τ : Tau) (H : Heap) (h : zqd1_1_M Q E τ H) : vc Pr zqd1_p2 τ (zqd1_q1 Q E) E H :=
  vP (i := 0) h (fun x0 h => (conv (by kernel_rfl) h))

@[reducible] noncomputable def zqd1_q2 (Q : QT) (E : ET) : Exit → Tau → Heap → Prop := (xthen (zqd1_1_M Q E) (zqd1_q1 Q E))

@[reducible] noncomputable def zqd1_p3 : Code := sA zqd1_p1

@[reducible] noncomputable def zqd1_p4 : Code := sB zqd1_p3

def zqd1_3 (Q : QT) (E : ET) (x0 : OA) (x11 : Bool) (H : Heap) : Prop :=
 sel x11
 (ptr x0 fun q17 =>
 ldI .i64 (Addr.add q17 7) H fun n18 =>
 ptr x0 fun q19 =>
 wr (Addr.add q19 8) [(.int .i64 n18)] H fun H20 =>
 zqd1_1 Q E x0 H20)
 (zqd1_1 Q E x0 H)

def zqd1_3_M (Q : QT) (E : ET) (τ : Tau) (H : Heap) : Prop := mP (τ 0) fun x0 => mB (τ 11) fun x11 => zqd1_3 Q E x0 x11 H

theorem zqd1_4ok (Q : QT) (E : ET) (τ : Tau) (H : Heap) (h : zqd1_3_M Q E τ H) : vc Pr zqd1_p4 τ (zqd1_q2 Q E) E H :=
  vP (i := 0) h (fun x0 h => vB (i := 11) h (fun x11 h => (conv (by kernel_rfl) h)))

@[reducible] noncomputable def zqd1_q3 (Q : QT) (E : ET) : Exit → Tau → Heap → Prop := (xthen (zqd1_3_M Q E) (zqd1_q2 Q E))

@[reducible] noncomputable def zqd1_p5 : Code := sA zqd1_p3

def zqd1_5 (Q : QT) (E : ET) (x0 : OA) (H : Heap) : Prop :=
 ptr x0 fun q21 =>
 ldI .i64 (Addr.add q21 8) H fun n22 =>
 sel (decide ((n22 : Int) < 0))
 (Does Pr 81 #[(.pointer x0), (.bool false)] H (fun v23 H24 =>
 ∃ b25 : Bool, v23 = (.bool b25) ∧ zqd1_3 Q E x0 b25 H24) E)
 (zqd1_3 Q E x0 false H)

def zqd1_5_M (Q : QT) (E : ET) (τ : Tau) (H : Heap) : Prop := mP (τ 0) fun x0 => zqd1_5 Q E x0 H

theorem zqd1_6ok (Q : QT) (E : ET) (τ : Tau) (H : Heap) (h : zqd1_5_M Q E τ H) : vc Pr zqd1_p5 τ (zqd1_q3 Q E) E H :=
  vP (i := 0) h (fun x0 h => (conv (by kernel_rfl) h))

theorem zqd1_7ok (Q : QT) (E : ET) (τ : Tau) (H : Heap) (h : zqd1_5_M Q E τ H) : vc Pr zqd1_p3 τ (zqd1_q2 Q E) E H :=
  (conv (B := vc Pr zqd1_p3 τ (zqd1_q2 Q E) E H) (by kernel_rfl) (vc_seq (K := (zqd1_3_M Q E)) (zqd1_6ok Q E τ H h) (zqd1_4ok Q E)))

theorem zqd1_8ok (Q : QT) (E : ET) (τ : Tau) (H : Heap) (h : zqd1_5_M Q E τ H) : vc Pr zqd1_p1 τ (zqd1_q1 Q E) E H :=
  (conv (B := vc Pr zqd1_p1 τ (zqd1_q1 Q E) E H) (by kernel_rfl) (vc_seq (K := (zqd1_1_M Q E)) (zqd1_7ok Q E τ H h) (zqd1_2ok Q E)))

@[reducible] noncomputable def zqd1_q4 (Q : QT) (E : ET) : Exit → Tau → Heap → Prop := (xthen (zqd1_5_M Q E) (zqd1_q1 Q E))

@[reducible] noncomputable def zqd1_p6 : Code := sA zqd1_p0

def zqd1 (Q : QT) (E : ET) (a0 : OA) (H : Heap) : Prop :=
 zqd1_5 Q E a0 H

theorem zqd1_fn (a0 : OA) (Q : QT) (E : ET) (H : Heap) (h : zqd1 Q E a0 H)   : Does Pr 79 #[(.pointer a0)] H Q E :=
  Fn_of_vc (fn := Try.f79) (c := zqd1_p0) (args := [(.pointer a0)]) mixed (by kernel_rfl) (by kernel_rfl) (by kernel_rfl) (by kernel_rfl) (by kernel_rfl) ((conv (B := vc Pr zqd1_p0 (argT [(.pointer a0)]) (zqd1_q1 Q E) E H) (by kernel_rfl) (vc_seq (K := (zqd1_5_M Q E)) (conv (B := vc Pr zqd1_p6 (argT [(.pointer a0)]) (zqd1_q4 Q E) E H) (by kernel_rfl) h) (zqd1_8ok Q E))))

/-! (*jobmux/auto.set).add -/
@[reducible] noncomputable def zqe1_q1 (Q : QT) (E : ET) : Exit → Tau → Heap → Prop := (retQ Pr (Try.f80).results.toList Q)

@[reducible] noncomputable def zqe1_p0 : Code := bodyOf Try.f80

def zqe1 (Q : QT) (E : ET) (a0 : OA) (a1 : Int) (H : Heap) : Prop :=
 ptr a0 fun q1 =>
 ldSl (Addr.add q1 1) H fun p2 l3 c4 =>
 (0 ≤ (a1 : Int) ∧ (a1 : Int) < ((l3 : Nat) : Int)) ∧ ptr p2 fun q5 =>
 ldB (Addr.add q5 ((a1 : Int).toNat * 1)) H fun b6 =>
 sel (!b6)
 (ptr a0 fun q7 =>
 ldSl (Addr.add q7 1) H fun p8 l9 c10 =>
 (0 ≤ (a1 : Int) ∧ (a1 : Int) < ((l9 : Nat) : Int)) ∧ ptr p8 fun q11 =>
 wr (Addr.add q11 ((a1 : Int).toNat * 1)) [(.bool true)] H fun H12 =>
 ptr a0 fun q13 =>
 ldSl q13 H12 fun p14 l15 c16 =>
 nw (.cells #[(.int .i64 a1)] 3 (0, 0)) H12 fun i17 H18 =>
 app Pr 22 p14 l15 c16 (.slice (some ⟨i17, 0, none⟩) 1 1) H18 fun p19 l20 c21 H22 =>
 ptr a0 fun q23 =>
 wr q23 [(.slice p19 l20 c21)] H22 fun H24 =>
 Q (.tuple #[]) H24)
 (Q (.tuple #[]) H)

theorem zqe1_fn (a0 : OA) (a1 : Int) (Q : QT) (E : ET) (H : Heap) (h : zqe1 Q E a0 a1 H)   : Does Pr 80 #[(.pointer a0), (.int .i64 a1)] H Q E :=
  Fn_of_vc (fn := Try.f80) (c := zqe1_p0) (args := [(.pointer a0), (.int .i64 a1)]) mixed (by kernel_rfl) (by kernel_rfl) (by kernel_rfl) (by kernel_rfl) (by kernel_rfl) ((conv (B := vc Pr zqe1_p0 (argT [(.pointer a0), (.int .i64 a1)]) (zqe1_q1 Q E) E H) (by kernel_rfl) h))

/-! (*jobmux/auto.Machine).spread -/
@[reducible] noncomputable def zqf1_q1 (Q : QT) (E : ET) : Exit → Tau → Heap → Prop := (retQ Pr (Try.f81).results.toList Q)

@[reducible] noncomputable def zqf1_p0 : Code := bodyOf Try.f81

@[reducible] noncomputable def zqf1_p1 : Code := sB zqf1_p0

@[reducible] noncomputable def zqf1_p2 : Code := sB zqf1_p1

@[reducible] noncomputable def zqf1_p3 : Code := sB zqf1_p2

def zqf1_1 (Q : QT) (E : ET) (x5 : Bool) (H : Heap) : Prop :=
 Q (.bool x5) H

def zqf1_1_M (Q : QT) (E : ET) (τ : Tau) (H : Heap) : Prop := mB (τ 5) fun x5 => zqf1_1 Q E x5 H

theorem zqf1_2ok (Q : QT) (E : ET) (τ : Tau) (H : Heap) (h : zqf1_1_M Q E τ H) : vc Pr zqf1_p3 τ (zqf1_q1 Q E) E H :=
  vB (i := 5) h (fun x5 h => (conv (by kernel_rfl) h))

@[reducible] noncomputable def zqf1_q2 (Q : QT) (E : ET) : Exit → Tau → Heap → Prop := (xthen (zqf1_1_M Q E) (zqf1_q1 Q E))

@[reducible] noncomputable def zqf1_p4 : Code := sA zqf1_p2

@[reducible] noncomputable def zqf1_p5 : Code := sB zqf1_p4

@[reducible] noncomputable def zqf1_q3 (Q : QT) (E : ET) : Exit → Tau → Heap → Prop := (xblock 0 (zqf1_q2 Q E))

@[reducible] noncomputable def zqf1_p6 : Code := sI zqf1_p5

@[reducible] noncomputable def zqf1_q4 (nx40 : Bool → Int → HP) (Q : QT) (E : ET) : Exit → Tau → Heap → Prop := (xthen (fun τ H => mB (τ 5) fun x5' => mI .i64 (τ 6) fun x6' => nx40 x5' x6' H) (zqf1_q3 Q E))

@[reducible] noncomputable def zqf1_p7 : Code := sI zqf1_p6

@[reducible] noncomputable def zqf1_p8 : Code := sB zqf1_p7

@[reducible] noncomputable def zqf1_p9 : Code := sB zqf1_p8

def zqf1_3 (nx40 : Bool → Int → HP) (Q : QT) (E : ET) (x0 : OA) (x1 : Bool) (x5 : Bool) (x6 : Int) (H : Heap) : Prop :=
 nx40 x5 (IntKind.wrap .i64 (x6 + 1)) H

def zqf1_3_M (nx40 : Bool → Int → HP) (Q : QT) (E : ET) (τ : Tau) (H : Heap) : Prop := mP (τ 0) fun x0 => mB (τ 1) fun x1 => mB (τ 5) fun x5 => mI .i64 (τ 6) fun x6 => zqf1_3 nx40 Q E x0 x1 x5 x6 H

theorem zqf1_4ok (nx40 : Bool → Int → HP) (Q : QT) (E : ET) (τ : Tau) (H : Heap) (h : zqf1_3_M nx40 Q E τ H) : vc Pr zqf1_p9 τ (zqf1_q4 nx40 Q E) E H :=
  vP (i := 0) h (fun x0 h => vB (i := 1) h (fun x1 h => vB (i := 5) h (fun x5 h => vI (i := 6) h (fun x6 h => (conv (by kernel_rfl) h)))))

@[reducible] noncomputable def zqf1_q5 (nx40 : Bool → Int → HP) (Q : QT) (E : ET) : Exit → Tau → Heap → Prop := (xthen (zqf1_3_M nx40 Q E) (zqf1_q4 nx40 Q E))

@[reducible] noncomputable def zqf1_p10 : Code := sA zqf1_p8

@[reducible] noncomputable def zqf1_q6 (nx40 : Bool → Int → HP) (Q : QT) (E : ET) : Exit → Tau → Heap → Prop := (xblock 1 (zqf1_q5 nx40 Q E))

@[reducible] noncomputable def zqf1_p11 : Code := sI zqf1_p10

@[reducible] noncomputable def zqf1_p12 : Code := sB zqf1_p11

@[reducible] noncomputable def zqf1_q7 (nx40 : Bool → Int → HP) (Q : QT) (E : ET) : Exit → Tau → Heap → Prop := (xblock 2 (zqf1_q6 nx40 Q E))

@[reducible] noncomputable def zqf1_p13 : Code := sI zqf1_p12

@[reducible] noncomputable def zqf1_p14 : Code := sB zqf1_p13

def zqf1_5 (nx40 : Bool → Int → HP) (Q : QT) (E : ET) (x0 : OA) (x1 : Bool) (x6 : Int) (H : Heap) : Prop :=
 zqf1_3 nx40 Q E x0 x1 true x6 H

def zqf1_5_M (nx40 : Bool → Int → HP) (Q : QT) (E : ET) (τ : Tau) (H : Heap) : Prop := mP (τ 0) fun x0 => mB (τ 1) fun x1 => mI .i64 (τ 6) fun x6 => zqf1_5 nx40 Q E x0 x1 x6 H

theorem zqf1_6ok (nx40 : Bool → Int → HP) (Q : QT) (E : ET) (τ : Tau) (H : Heap) (h : zqf1_5_M nx40 Q E τ H) : vc Pr zqf1_p14 τ (zqf1_q7 nx40 Q E) E H :=
  vP (i := 0) h (fun x0 h => vB (i := 1) h (fun x1 h => vI (i := 6) h (fun x6 h => (conv (by kernel_rfl) h))))

@[reducible] noncomputable def zqf1_q8 (nx40 : Bool → Int → HP) (Q : QT) (E : ET) : Exit → Tau → Heap → Prop := (xthen (zqf1_5_M nx40 Q E) (zqf1_q7 nx40 Q E))

@[reducible] noncomputable def zqf1_p15 : Code := sA zqf1_p13

@[reducible] noncomputable def zqf1_q9 (nx40 : Bool → Int → HP) (Q : QT) (E : ET) : Exit → Tau → Heap → Prop := (xblock 5 (zqf1_q8 nx40 Q E))

@[reducible] noncomputable def zqf1_p16 : Code := sI zqf1_p15

@[reducible] noncomputable def zqf1_p17 : Code := sB zqf1_p16

def zqf1_7 (nx40 : Bool → Int → HP) (Q : QT) (E : ET) (x0 : OA) (x1 : Bool) (x5 : Bool) (x6 : Int) (x7 : OA) (H : Heap) : Prop :=
 ptr x0 fun q125 =>
 ptr x7 fun q126 =>
 ldI .i64 (Addr.add q126 1) H fun n127 =>
 Does Pr 80 #[(.pointer (some (Addr.add q125 1))), (.int .i64 n127)] H (fun v128 H129 =>
 zqf1_3 nx40 Q E x0 x1 x5 x6 H129) (fun _ _ => False)

def zqf1_7_M (nx40 : Bool → Int → HP) (Q : QT) (E : ET) (τ : Tau) (H : Heap) : Prop := mP (τ 0) fun x0 => mB (τ 1) fun x1 => mB (τ 5) fun x5 => mI .i64 (τ 6) fun x6 => mP (τ 7) fun x7 => zqf1_7 nx40 Q E x0 x1 x5 x6 x7 H

theorem zqf1_8ok (nx40 : Bool → Int → HP) (Q : QT) (E : ET) (τ : Tau) (H : Heap) (h : zqf1_7_M nx40 Q E τ H) : vc Pr zqf1_p17 τ (zqf1_q9 nx40 Q E) E H :=
  vP (i := 0) h (fun x0 h => vB (i := 1) h (fun x1 h => vB (i := 5) h (fun x5 h => vI (i := 6) h (fun x6 h => vP (i := 7) h (fun x7 h => (conv (by kernel_rfl) h))))))

@[reducible] noncomputable def zqf1_q10 (nx40 : Bool → Int → HP) (Q : QT) (E : ET) : Exit → Tau → Heap → Prop := (xthen (zqf1_7_M nx40 Q E) (zqf1_q9 nx40 Q E))

@[reducible] noncomputable def zqf1_p18 : Code := sA zqf1_p16

@[reducible] noncomputable def zqf1_q11 (nx40 : Bool → Int → HP) (Q : QT) (E : ET) : Exit → Tau → Heap → Prop := (xblock 4 (zqf1_q10 nx40 Q E))

@[reducible] noncomputable def zqf1_p19 : Code := sI zqf1_p18

@[reducible] noncomputable def zqf1_p20 : Code := sB zqf1_p19

def zqf1_9 (nx40 : Bool → Int → HP) (Q : QT) (E : ET) (x0 : OA) (x1 : Bool) (x5 : Bool) (x6 : Int) (x7 : OA) (H : Heap) : Prop :=
 ptr x0 fun q136 =>
 ptr x7 fun q137 =>
 ldI .i64 (Addr.add q137 2) H fun n138 =>
 Does Pr 80 #[(.pointer (some (Addr.add q136 1))), (.int .i64 n138)] H (fun v139 H140 =>
 zqf1_7 nx40 Q E x0 x1 x5 x6 x7 H140) (fun _ _ => False)

def zqf1_9_M (nx40 : Bool → Int → HP) (Q : QT) (E : ET) (τ : Tau) (H : Heap) : Prop := mP (τ 0) fun x0 => mB (τ 1) fun x1 => mB (τ 5) fun x5 => mI .i64 (τ 6) fun x6 => mP (τ 7) fun x7 => zqf1_9 nx40 Q E x0 x1 x5 x6 x7 H

theorem zqf1_10ok (nx40 : Bool → Int → HP) (Q : QT) (E : ET) (τ : Tau) (H : Heap) (h : zqf1_9_M nx40 Q E τ H) : vc Pr zqf1_p20 τ (zqf1_q11 nx40 Q E) E H :=
  vP (i := 0) h (fun x0 h => vB (i := 1) h (fun x1 h => vB (i := 5) h (fun x5 h => vI (i := 6) h (fun x6 h => vP (i := 7) h (fun x7 h => (conv (by kernel_rfl) h))))))

@[reducible] noncomputable def zqf1_q12 (nx40 : Bool → Int → HP) (Q : QT) (E : ET) : Exit → Tau → Heap → Prop := (xthen (zqf1_9_M nx40 Q E) (zqf1_q11 nx40 Q E))

@[reducible] noncomputable def zqf1_p21 : Code := sA zqf1_p19

@[reducible] noncomputable def zqf1_q13 (nx40 : Bool → Int → HP) (Q : QT) (E : ET) : Exit → Tau → Heap → Prop := (xblock 3 (zqf1_q12 nx40 Q E))

@[reducible] noncomputable def zqf1_p22 : Code := sI zqf1_p21

@[reducible] noncomputable def zqf1_q14 (nx40 : Bool → Int → HP) (Q : QT) (E : ET) : Exit → Tau → Heap → Prop := (xthen (fun τ H => vc Pr (sB zqf1_p22) τ (zqf1_q13 nx40 Q E) E H) (zqf1_q13 nx40 Q E))

@[reducible] noncomputable def zqf1_p23 : Code := sA zqf1_p22

@[reducible] noncomputable def zqf1_p24 : Code := sB zqf1_p23

@[reducible] noncomputable def zqf1_p25 : Code := sB zqf1_p24

def zqf1_11 (nx40 : Bool → Int → HP) (Q : QT) (E : ET) (x0 : OA) (x1 : Bool) (x5 : Bool) (x6 : Int) (x7 : OA) (H : Heap) : Prop :=
 ptr x7 fun q152 =>
 ldI .i64 q152 H fun n153 =>
 sel ((n153 : Int) == 5)
 (zqf1_5 nx40 Q E x0 x1 x6 H)
 (zqf1_3 nx40 Q E x0 x1 x5 x6 H)

def zqf1_11_M (nx40 : Bool → Int → HP) (Q : QT) (E : ET) (τ : Tau) (H : Heap) : Prop := mP (τ 0) fun x0 => mB (τ 1) fun x1 => mB (τ 5) fun x5 => mI .i64 (τ 6) fun x6 => mP (τ 7) fun x7 => zqf1_11 nx40 Q E x0 x1 x5 x6 x7 H

theorem zqf1_12ok (nx40 : Bool → Int → HP) (Q : QT) (E : ET) (τ : Tau) (H : Heap) (h : zqf1_11_M nx40 Q E τ H) : vc Pr zqf1_p25 τ (zqf1_q14 nx40 Q E) E H :=
  vP (i := 0) h (fun x0 h => vB (i := 1) h (fun x1 h => vB (i := 5) h (fun x5 h => vI (i := 6) h (fun x6 h => vP (i := 7) h (fun x7 h => (conv (by kernel_rfl) h))))))

@[reducible] noncomputable def zqf1_q15 (nx40 : Bool → Int → HP) (Q : QT) (E : ET) : Exit → Tau → Heap → Prop := (xthen (zqf1_11_M nx40 Q E) (zqf1_q14 nx40 Q E))

@[reducible] noncomputable def zqf1_p26 : Code := sA zqf1_p24

@[reducible] noncomputable def zqf1_p27 : Code := sB zqf1_p26

def zqf1_13 (nx40 : Bool → Int → HP) (Q : QT) (E : ET) (x0 : OA) (x1 : Bool) (x5 : Bool) (x6 : Int) (x7 : OA) (x36 : Bool) (H : Heap) : Prop :=
 sel x36
 (zqf1_7 nx40 Q E x0 x1 x5 x6 x7 H)
 (zqf1_11 nx40 Q E x0 x1 x5 x6 x7 H)

def zqf1_13_M (nx40 : Bool → Int → HP) (Q : QT) (E : ET) (τ : Tau) (H : Heap) : Prop := mP (τ 0) fun x0 => mB (τ 1) fun x1 => mB (τ 5) fun x5 => mI .i64 (τ 6) fun x6 => mP (τ 7) fun x7 => mB (τ 36) fun x36 => zqf1_13 nx40 Q E x0 x1 x5 x6 x7 x36 H

theorem zqf1_14ok (nx40 : Bool → Int → HP) (Q : QT) (E : ET) (τ : Tau) (H : Heap) (h : zqf1_13_M nx40 Q E τ H) : vc Pr zqf1_p27 τ (zqf1_q15 nx40 Q E) E H :=
  vP (i := 0) h (fun x0 h => vB (i := 1) h (fun x1 h => vB (i := 5) h (fun x5 h => vI (i := 6) h (fun x6 h => vP (i := 7) h (fun x7 h => vB (i := 36) h (fun x36 h => (conv (by kernel_rfl) h)))))))

@[reducible] noncomputable def zqf1_q16 (nx40 : Bool → Int → HP) (Q : QT) (E : ET) : Exit → Tau → Heap → Prop := (xthen (zqf1_13_M nx40 Q E) (zqf1_q15 nx40 Q E))

@[reducible] noncomputable def zqf1_p28 : Code := sA zqf1_p26

@[reducible] noncomputable def zqf1_p29 : Code := sB zqf1_p28

def zqf1_15 (nx40 : Bool → Int → HP) (Q : QT) (E : ET) (x0 : OA) (x1 : Bool) (x5 : Bool) (x6 : Int) (x7 : OA) (x36 : Bool) (H : Heap) : Prop :=
 sel x36
 (zqf1_13 nx40 Q E x0 x1 x5 x6 x7 x36 H)
 (ptr x7 fun q161 =>
 ldI .i64 q161 H fun n162 =>
 sel ((n162 : Int) == 4)
 (zqf1_13 nx40 Q E x0 x1 x5 x6 x7 x1 H)
 (zqf1_13 nx40 Q E x0 x1 x5 x6 x7 false H))

def zqf1_15_M (nx40 : Bool → Int → HP) (Q : QT) (E : ET) (τ : Tau) (H : Heap) : Prop := mP (τ 0) fun x0 => mB (τ 1) fun x1 => mB (τ 5) fun x5 => mI .i64 (τ 6) fun x6 => mP (τ 7) fun x7 => mB (τ 36) fun x36 => zqf1_15 nx40 Q E x0 x1 x5 x6 x7 x36 H

theorem zqf1_16ok (nx40 : Bool → Int → HP) (Q : QT) (E : ET) (τ : Tau) (H : Heap) (h : zqf1_15_M nx40 Q E τ H) : vc Pr zqf1_p29 τ (zqf1_q16 nx40 Q E) E H :=
  vP (i := 0) h (fun x0 h => vB (i := 1) h (fun x1 h => vB (i := 5) h (fun x5 h => vI (i := 6) h (fun x6 h => vP (i := 7) h (fun x7 h => vB (i := 36) h (fun x36 h => (conv (by kernel_rfl) h)))))))

@[reducible] noncomputable def zqf1_q17 (nx40 : Bool → Int → HP) (Q : QT) (E : ET) : Exit → Tau → Heap → Prop := (xthen (zqf1_15_M nx40 Q E) (zqf1_q16 nx40 Q E))

@[reducible] noncomputable def zqf1_p30 : Code := sA zqf1_p28

def zqf1_17 (nx40 : Bool → Int → HP) (Q : QT) (E : ET) (x0 : OA) (x1 : Bool) (x5 : Bool) (x6 : Int) (x7 : OA) (H : Heap) : Prop :=
 ptr x7 fun q163 =>
 ldI .i64 q163 H fun n164 =>
 sel ((n164 : Int) == 3)
 (ptr x0 fun q165 =>
 ldB (Addr.add q165 6) H fun b166 =>
 zqf1_15 nx40 Q E x0 x1 x5 x6 x7 b166 H)
 (zqf1_15 nx40 Q E x0 x1 x5 x6 x7 false H)

def zqf1_17_M (nx40 : Bool → Int → HP) (Q : QT) (E : ET) (τ : Tau) (H : Heap) : Prop := mP (τ 0) fun x0 => mB (τ 1) fun x1 => mB (τ 5) fun x5 => mI .i64 (τ 6) fun x6 => mP (τ 7) fun x7 => zqf1_17 nx40 Q E x0 x1 x5 x6 x7 H

theorem zqf1_18ok (nx40 : Bool → Int → HP) (Q : QT) (E : ET) (τ : Tau) (H : Heap) (h : zqf1_17_M nx40 Q E τ H) : vc Pr zqf1_p30 τ (zqf1_q17 nx40 Q E) E H :=
  vP (i := 0) h (fun x0 h => vB (i := 1) h (fun x1 h => vB (i := 5) h (fun x5 h => vI (i := 6) h (fun x6 h => vP (i := 7) h (fun x7 h => (conv (by kernel_rfl) h))))))

theorem zqf1_19ok (nx40 : Bool → Int → HP) (Q : QT) (E : ET) (τ : Tau) (H : Heap) (h : zqf1_17_M nx40 Q E τ H) : vc Pr zqf1_p28 τ (zqf1_q16 nx40 Q E) E H :=
  (conv (B := vc Pr zqf1_p28 τ (zqf1_q16 nx40 Q E) E H) (by kernel_rfl) (vc_seq (K := (zqf1_15_M nx40 Q E)) (zqf1_18ok nx40 Q E τ H h) (zqf1_16ok nx40 Q E)))

theorem zqf1_20ok (nx40 : Bool → Int → HP) (Q : QT) (E : ET) (τ : Tau) (H : Heap) (h : zqf1_17_M nx40 Q E τ H) : vc Pr zqf1_p26 τ (zqf1_q15 nx40 Q E) E H :=
  (conv (B := vc Pr zqf1_p26 τ (zqf1_q15 nx40 Q E) E H) (by kernel_rfl) (vc_seq (K := (zqf1_13_M nx40 Q E)) (zqf1_19ok nx40 Q E τ H h) (zqf1_14ok nx40 Q E)))

theorem zqf1_21ok (nx40 : Bool → Int → HP) (Q : QT) (E : ET) (τ : Tau) (H : Heap) (h : zqf1_17_M nx40 Q E τ H) : vc Pr zqf1_p24 τ (zqf1_q14 nx40 Q E) E H :=
  (conv (B := vc Pr zqf1_p24 τ (zqf1_q14 nx40 Q E) E H) (by kernel_rfl) (vc_seq (K := (zqf1_11_M nx40 Q E)) (zqf1_20ok nx40 Q E τ H h) (zqf1_12ok nx40 Q E)))

@[reducible] noncomputable def zqf1_q18 (nx40 : Bool → Int → HP) (Q : QT) (E : ET) : Exit → Tau → Heap → Prop := (xthen (zqf1_17_M nx40 Q E) (zqf1_q14 nx40 Q E))

@[reducible] noncomputable def zqf1_p31 : Code := sA zqf1_p23

def zqf1_22 (nx40 : Bool → Int → HP) (Q : QT) (E : ET) (x0 : OA) (x1 : Bool) (x5 : Bool) (x6 : Int) (x7 : OA) (H : Heap) : Prop :=
 ptr x7 fun q167 =>
 ldI .i64 q167 H fun n168 =>
 sel ((n168 : Int) == 2)
 (zqf1_9 nx40 Q E x0 x1 x5 x6 x7 H)
 (zqf1_17 nx40 Q E x0 x1 x5 x6 x7 H)

def zqf1_22_M (nx40 : Bool → Int → HP) (Q : QT) (E : ET) (τ : Tau) (H : Heap) : Prop := mP (τ 0) fun x0 => mB (τ 1) fun x1 => mB (τ 5) fun x5 => mI .i64 (τ 6) fun x6 => mP (τ 7) fun x7 => zqf1_22 nx40 Q E x0 x1 x5 x6 x7 H

theorem zqf1_23ok (nx40 : Bool → Int → HP) (Q : QT) (E : ET) (τ : Tau) (H : Heap) (h : zqf1_22_M nx40 Q E τ H) : vc Pr zqf1_p31 τ (zqf1_q18 nx40 Q E) E H :=
  vP (i := 0) h (fun x0 h => vB (i := 1) h (fun x1 h => vB (i := 5) h (fun x5 h => vI (i := 6) h (fun x6 h => vP (i := 7) h (fun x7 h => (conv (by kernel_rfl) h))))))

theorem zqf1_24ok (nx40 : Bool → Int → HP) (Q : QT) (E : ET) (τ : Tau) (H : Heap) (h : zqf1_22_M nx40 Q E τ H) : vc Pr zqf1_p23 τ (zqf1_q14 nx40 Q E) E H :=
  (conv (B := vc Pr zqf1_p23 τ (zqf1_q14 nx40 Q E) E H) (by kernel_rfl) (vc_seq (K := (zqf1_17_M nx40 Q E)) (zqf1_23ok nx40 Q E τ H h) (zqf1_21ok nx40 Q E)))

theorem zqf1_25ok (nx40 : Bool → Int → HP) (Q : QT) (E : ET) (τ : Tau) (H : Heap) (h : zqf1_22_M nx40 Q E τ H) : vc Pr zqf1_p22 τ (zqf1_q13 nx40 Q E) E H :=
  (conv (B := vc Pr zqf1_p22 τ (zqf1_q13 nx40 Q E) E H) (by kernel_rfl) (zqf1_24ok nx40 Q E τ H h))

theorem zqf1_26ok (nx40 : Bool → Int → HP) (Q : QT) (E : ET) (τ : Tau) (H : Heap) (h : zqf1_22_M nx40 Q E τ H) : vc Pr zqf1_p21 τ (zqf1_q12 nx40 Q E) E H :=
  (conv (B := vc Pr zqf1_p21 τ (zqf1_q12 nx40 Q E) E H) (by kernel_rfl) (zqf1_25ok nx40 Q E τ H h))

theorem zqf1_27ok (nx40 : Bool → Int → HP) (Q : QT) (E : ET) (τ : Tau) (H : Heap) (h : zqf1_22_M nx40 Q E τ H) : vc Pr zqf1_p19 τ (zqf1_q11 nx40 Q E) E H :=
  (conv (B := vc Pr zqf1_p19 τ (zqf1_q11 nx40 Q E) E H) (by kernel_rfl) (vc_seq (K := (zqf1_9_M nx40 Q E)) (zqf1_26ok nx40 Q E τ H h) (zqf1_10ok nx40 Q E)))

theorem zqf1_28ok (nx40 : Bool → Int → HP) (Q : QT) (E : ET) (τ : Tau) (H : Heap) (h : zqf1_22_M nx40 Q E τ H) : vc Pr zqf1_p18 τ (zqf1_q10 nx40 Q E) E H :=
  (conv (B := vc Pr zqf1_p18 τ (zqf1_q10 nx40 Q E) E H) (by kernel_rfl) (zqf1_27ok nx40 Q E τ H h))

theorem zqf1_29ok (nx40 : Bool → Int → HP) (Q : QT) (E : ET) (τ : Tau) (H : Heap) (h : zqf1_22_M nx40 Q E τ H) : vc Pr zqf1_p16 τ (zqf1_q9 nx40 Q E) E H :=
  (conv (B := vc Pr zqf1_p16 τ (zqf1_q9 nx40 Q E) E H) (by kernel_rfl) (vc_seq (K := (zqf1_7_M nx40 Q E)) (zqf1_28ok nx40 Q E τ H h) (zqf1_8ok nx40 Q E)))

theorem zqf1_30ok (nx40 : Bool → Int → HP) (Q : QT) (E : ET) (τ : Tau) (H : Heap) (h : zqf1_22_M nx40 Q E τ H) : vc Pr zqf1_p15 τ (zqf1_q8 nx40 Q E) E H :=
  (conv (B := vc Pr zqf1_p15 τ (zqf1_q8 nx40 Q E) E H) (by kernel_rfl) (zqf1_29ok nx40 Q E τ H h))

theorem zqf1_31ok (nx40 : Bool → Int → HP) (Q : QT) (E : ET) (τ : Tau) (H : Heap) (h : zqf1_22_M nx40 Q E τ H) : vc Pr zqf1_p13 τ (zqf1_q7 nx40 Q E) E H :=
  (conv (B := vc Pr zqf1_p13 τ (zqf1_q7 nx40 Q E) E H) (by kernel_rfl) (vc_seq (K := (zqf1_5_M nx40 Q E)) (zqf1_30ok nx40 Q E τ H h) (zqf1_6ok nx40 Q E)))

theorem zqf1_32ok (nx40 : Bool → Int → HP) (Q : QT) (E : ET) (τ : Tau) (H : Heap) (h : zqf1_22_M nx40 Q E τ H) : vc Pr zqf1_p12 τ (zqf1_q6 nx40 Q E) E H :=
  (conv (B := vc Pr zqf1_p12 τ (zqf1_q6 nx40 Q E) E H) (by kernel_rfl) (zqf1_31ok nx40 Q E τ H h))

@[reducible] noncomputable def zqf1_q19 (nx40 : Bool → Int → HP) (Q : QT) (E : ET) : Exit → Tau → Heap → Prop := (xthen (zqf1_22_M nx40 Q E) (zqf1_q6 nx40 Q E))

@[reducible] noncomputable def zqf1_p32 : Code := sA zqf1_p11

def zqf1_33 (nx40 : Bool → Int → HP) (Q : QT) (E : ET) (x0 : OA) (x1 : Bool) (x5 : Bool) (x6 : Int) (H : Heap) : Prop :=
 ptr x0 fun q169 =>
 ldSl q169 H fun p170 l171 c172 =>
 ptr x0 fun q173 =>
 ldSl (Addr.add q173 1) H fun p174 l175 c176 =>
 (0 ≤ (x6 : Int) ∧ (x6 : Int) < ((l175 : Nat) : Int)) ∧ ptr p174 fun q177 =>
 ldI .i64 (Addr.add q177 ((x6 : Int).toNat * 1)) H fun n178 =>
 (0 ≤ (n178 : Int) ∧ (n178 : Int) < ((l171 : Nat) : Int)) ∧ ptr p170 fun q179 =>
 ∃ n180 n181 n182 n183 n184 n185 n186 : Int, Heap.rd H (Addr.add q179 ((n178 : Int).toNat * 7)) 0 [(.int .i64 n180), (.int .i64 n181), (.int .i64 n182), (.int .u64 n183), (.int .u64 n184), (.int .u64 n185), (.int .u64 n186)] ∧ nw (.cells #[(.int .i64 0), (.int .i64 0), (.int .i64 0), (.int .u64 0), (.int .u64 0), (.int .u64 0), (.int .u64 0)] 91 (0, 0)) H fun i187 H188 =>
 wr ⟨i187, 0, none⟩ [(.int .i64 n180), (.int .i64 n181), (.int .i64 n182), (.int .u64 n183), (.int .u64 n184), (.int .u64 n185), (.int .u64 n186)] H188 fun H189 =>
 zqf1_22 nx40 Q E x0 x1 x5 x6 (some ⟨i187, 0, none⟩) H189

def zqf1_33_M (nx40 : Bool → Int → HP) (Q : QT) (E : ET) (τ : Tau) (H : Heap) : Prop := mP (τ 0) fun x0 => mB (τ 1) fun x1 => mB (τ 5) fun x5 => mI .i64 (τ 6) fun x6 => zqf1_33 nx40 Q E x0 x1 x5 x6 H

theorem zqf1_34ok (nx40 : Bool → Int → HP) (Q : QT) (E : ET) (τ : Tau) (H : Heap) (h : zqf1_33_M nx40 Q E τ H) : vc Pr zqf1_p32 τ (zqf1_q19 nx40 Q E) E H :=
  vP (i := 0) h (fun x0 h => vB (i := 1) h (fun x1 h => vB (i := 5) h (fun x5 h => vI (i := 6) h (fun x6 h => (conv (by kernel_rfl) h)))))

theorem zqf1_35ok (nx40 : Bool → Int → HP) (Q : QT) (E : ET) (τ : Tau) (H : Heap) (h : zqf1_33_M nx40 Q E τ H) : vc Pr zqf1_p11 τ (zqf1_q6 nx40 Q E) E H :=
  (conv (B := vc Pr zqf1_p11 τ (zqf1_q6 nx40 Q E) E H) (by kernel_rfl) (vc_seq (K := (zqf1_22_M nx40 Q E)) (zqf1_34ok nx40 Q E τ H h) (zqf1_32ok nx40 Q E)))

theorem zqf1_36ok (nx40 : Bool → Int → HP) (Q : QT) (E : ET) (τ : Tau) (H : Heap) (h : zqf1_33_M nx40 Q E τ H) : vc Pr zqf1_p10 τ (zqf1_q5 nx40 Q E) E H :=
  (conv (B := vc Pr zqf1_p10 τ (zqf1_q5 nx40 Q E) E H) (by kernel_rfl) (zqf1_35ok nx40 Q E τ H h))

theorem zqf1_37ok (nx40 : Bool → Int → HP) (Q : QT) (E : ET) (τ : Tau) (H : Heap) (h : zqf1_33_M nx40 Q E τ H) : vc Pr zqf1_p8 τ (zqf1_q4 nx40 Q E) E H :=
  (conv (B := vc Pr zqf1_p8 τ (zqf1_q4 nx40 Q E) E H) (by kernel_rfl) (vc_seq (K := (zqf1_3_M nx40 Q E)) (zqf1_36ok nx40 Q E τ H h) (zqf1_4ok nx40 Q E)))

@[reducible] noncomputable def zqf1_q20 (nx40 : Bool → Int → HP) (Q : QT) (E : ET) : Exit → Tau → Heap → Prop := (xthen (zqf1_33_M nx40 Q E) (zqf1_q4 nx40 Q E))

@[reducible] noncomputable def zqf1_p33 : Code := sA zqf1_p7

def zqf1_38 (nx40 : Bool → Int → HP) (Q : QT) (E : ET) (x0 : OA) (x1 : Bool) (x5 : Bool) (x6 : Int) (H : Heap) : Prop :=
 ptr x0 fun q190 =>
 ldSl (Addr.add q190 1) H fun p191 l192 c193 =>
 sel (decide ((x6 : Int) < ((l192 : Nat) : Int)))
 (zqf1_33 nx40 Q E x0 x1 x5 x6 H)
 (zqf1_1 Q E x5 H)

def zqf1_38_M (nx40 : Bool → Int → HP) (Q : QT) (E : ET) (τ : Tau) (H : Heap) : Prop := mP (τ 0) fun x0 => mB (τ 1) fun x1 => mB (τ 5) fun x5 => mI .i64 (τ 6) fun x6 => zqf1_38 nx40 Q E x0 x1 x5 x6 H

theorem zqf1_39ok (nx40 : Bool → Int → HP) (Q : QT) (E : ET) (τ : Tau) (H : Heap) (h : zqf1_38_M nx40 Q E τ H) : vc Pr zqf1_p33 τ (zqf1_q20 nx40 Q E) E H :=
  vP (i := 0) h (fun x0 h => vB (i := 1) h (fun x1 h => vB (i := 5) h (fun x5 h => vI (i := 6) h (fun x6 h => (conv (by kernel_rfl) h)))))

theorem zqf1_40ok (nx40 : Bool → Int → HP) (Q : QT) (E : ET) (τ : Tau) (H : Heap) (h : zqf1_38_M nx40 Q E τ H) : vc Pr zqf1_p7 τ (zqf1_q4 nx40 Q E) E H :=
  (conv (B := vc Pr zqf1_p7 τ (zqf1_q4 nx40 Q E) E H) (by kernel_rfl) (vc_seq (K := (zqf1_33_M nx40 Q E)) (zqf1_39ok nx40 Q E τ H h) (zqf1_37ok nx40 Q E)))

def zqf1_41 (Q : QT) (E : ET) (x0 : OA) (x1 : Bool) (x5 : Bool) (x6 : Int) (H : Heap) : Prop :=
 ∃ (I : Bool → Int → HP) (μ : Bool → Int → Heap → Nat), I x5 x6 H ∧ ∀ (x5 : Bool) (x6 : Int) (H : Heap), I x5 x6 H →
 zqf1_38 (fun x5' x6' H1 => I x5' x6' H1 ∧ μ x5' x6' H1 < μ x5 x6 H) Q E x0 x1 x5 x6 H

def zqf1_41_M (Q : QT) (E : ET) (τ : Tau) (H : Heap) : Prop := mP (τ 0) fun x0 => mB (τ 1) fun x1 => mB (τ 5) fun x5 => mI .i64 (τ 6) fun x6 => zqf1_41 Q E x0 x1 x5 x6 H

theorem zqf1_42ok (Q : QT) (E : ET) (τ : Tau) (H : Heap) (h : zqf1_41_M Q E τ H) : vc Pr zqf1_p6 τ (zqf1_q3 Q E) E H :=
  vP (i := 0) h (fun x0 h => vB (i := 1) h (fun x1 h => vB (i := 5) h (fun x5 h => vI (i := 6) h (fun x6 h => match h with | ⟨I, μ, h0, hr⟩ => (conv (B := vc Pr zqf1_p6 (Tau.upd (Tau.upd (Tau.upd (Tau.upd τ 0 (.pointer x0)) 1 (.bool x1)) 5 (.bool x5)) 6 (.int .i64 x6)) (zqf1_q3 Q E) E H) (by kernel_rfl) (vc_loop (c := sI zqf1_p6) (τ := (Tau.upd (Tau.upd (Tau.upd (Tau.upd τ 0 (.pointer x0)) 1 (.bool x1)) 5 (.bool x5)) 6 (.int .i64 x6))) [0, 1] (fun τ H => mB (τ 5) fun x5' => mI .i64 (τ 6) fun x6' => I x5' x6' H) (fun τ H => μ (gB (τ 5)) (gI (τ 6)) H) (by kernel_rfl) h0 (fun τ1 H1 hf hI => fix_elim (τ := τ1) (i := 0) (v := (.pointer x0)) (G := fun τ => vc Pr (sI zqf1_p6) τ (xthen (fun τ2 H2 => (mB (τ2 5) fun x5' => mI .i64 (τ2 6) fun x6' => I x5' x6' H2) ∧ μ (gB (τ2 5)) (gI (τ2 6)) H2 < μ (gB (τ 5)) (gI (τ 6)) H1) (zqf1_q3 Q E)) E H1) (hf 0 (by simp)) (fix_elim (τ := (Tau.upd τ1 0 (.pointer x0))) (i := 1) (v := (.bool x1)) (G := fun τ => vc Pr (sI zqf1_p6) τ (xthen (fun τ2 H2 => (mB (τ2 5) fun x5' => mI .i64 (τ2 6) fun x6' => I x5' x6' H2) ∧ μ (gB (τ2 5)) (gI (τ2 6)) H2 < μ (gB (τ 5)) (gI (τ 6)) H1) (zqf1_q3 Q E)) E H1) (hf 1 (by simp)) (mB_elim (i := 5) (G := fun τ => vc Pr (sI zqf1_p6) τ (xthen (fun τ2 H2 => (mB (τ2 5) fun x5' => mI .i64 (τ2 6) fun x6' => I x5' x6' H2) ∧ μ (gB (τ2 5)) (gI (τ2 6)) H2 < μ (gB (τ 5)) (gI (τ 6)) H1) (zqf1_q3 Q E)) E H1) hI (fun x5r h => mI_elim (i := 6) (G := fun τ => vc Pr (sI zqf1_p6) τ (xthen (fun τ2 H2 => (mB (τ2 5) fun x5' => mI .i64 (τ2 6) fun x6' => I x5' x6' H2) ∧ μ (gB (τ2 5)) (gI (τ2 6)) H2 < μ (gB (τ 5)) (gI (τ 6)) H1) (zqf1_q3 Q E)) E H1) h (fun x6r h => (conv (B := vc Pr (sI zqf1_p6) (Tau.upd (Tau.upd (Tau.upd (Tau.upd τ1 0 (.pointer x0)) 1 (.bool x1)) 5 (.bool x5r)) 6 (.int .i64 x6r)) (xthen (fun τ2 H2 => (mB (τ2 5) fun x5' => mI .i64 (τ2 6) fun x6' => I x5' x6' H2) ∧ μ (gB (τ2 5)) (gI (τ2 6)) H2 < μ (gB ((Tau.upd (Tau.upd (Tau.upd (Tau.upd τ1 0 (.pointer x0)) 1 (.bool x1)) 5 (.bool x5r)) 6 (.int .i64 x6r)) 5)) (gI ((Tau.upd (Tau.upd (Tau.upd (Tau.upd τ1 0 (.pointer x0)) 1 (.bool x1)) 5 (.bool x5r)) 6 (.int .i64 x6r)) 6)) H1) (zqf1_q3 Q E)) E H1) (by kernel_rfl) (vc_xthen (zqf1_40ok (fun x5' x6' H2 => I x5' x6' H2 ∧ μ x5' x6' H2 < μ x5r x6r H1) Q E (Tau.upd (Tau.upd (Tau.upd (Tau.upd τ1 0 (.pointer x0)) 1 (.bool x1)) 5 (.bool x5r)) 6 (.int .i64 x6r)) H1 (conv (B := zqf1_38_M (fun x5' x6' H2 => I x5' x6' H2 ∧ μ x5' x6' H2 < μ x5r x6r H1) Q E (Tau.upd (Tau.upd (Tau.upd (Tau.upd τ1 0 (.pointer x0)) 1 (.bool x1)) 5 (.bool x5r)) 6 (.int .i64 x6r)) H1) (by kernel_rfl) (hr x5r x6r H1 h))) (fun τ2 H2 hk => mB_elim (i := 5) (G := fun τ => (mB (τ 5) fun x5' => mI .i64 (τ 6) fun x6' => I x5' x6' H2) ∧ μ (gB (τ 5)) (gI (τ 6)) H2 < μ x5r x6r H1) hk (fun x5' h => mI_elim (i := 6) (G := fun τ => (mB (τ 5) fun x5' => mI .i64 (τ 6) fun x6' => I x5' x6' H2) ∧ μ (gB (τ 5)) (gI (τ 6)) H2 < μ x5r x6r H1) h (fun x6' h => h))))))))))))))))

theorem zqf1_43ok (Q : QT) (E : ET) (τ : Tau) (H : Heap) (h : zqf1_41_M Q E τ H) : vc Pr zqf1_p5 τ (zqf1_q2 Q E) E H :=
  (conv (B := vc Pr zqf1_p5 τ (zqf1_q2 Q E) E H) (by kernel_rfl) (zqf1_42ok Q E τ H h))

@[reducible] noncomputable def zqf1_q21 (Q : QT) (E : ET) : Exit → Tau → Heap → Prop := (xthen (zqf1_41_M Q E) (zqf1_q2 Q E))

@[reducible] noncomputable def zqf1_p34 : Code := sA zqf1_p4

def zqf1_44 (Q : QT) (E : ET) (x0 : OA) (x1 : Bool) (x5 : Bool) (H : Heap) : Prop :=
 zqf1_41 Q E x0 x1 x5 0 H

def zqf1_44_M (Q : QT) (E : ET) (τ : Tau) (H : Heap) : Prop := mP (τ 0) fun x0 => mB (τ 1) fun x1 => mB (τ 5) fun x5 => zqf1_44 Q E x0 x1 x5 H

theorem zqf1_45ok (Q : QT) (E : ET) (τ : Tau) (H : Heap) (h : zqf1_44_M Q E τ H) : vc Pr zqf1_p34 τ (zqf1_q21 Q E) E H :=
  vP (i := 0) h (fun x0 h => vB (i := 1) h (fun x1 h => vB (i := 5) h (fun x5 h => (conv (by kernel_rfl) h))))

theorem zqf1_46ok (Q : QT) (E : ET) (τ : Tau) (H : Heap) (h : zqf1_44_M Q E τ H) : vc Pr zqf1_p4 τ (zqf1_q2 Q E) E H :=
  (conv (B := vc Pr zqf1_p4 τ (zqf1_q2 Q E) E H) (by kernel_rfl) (vc_seq (K := (zqf1_41_M Q E)) (zqf1_45ok Q E τ H h) (zqf1_43ok Q E)))

theorem zqf1_47ok (Q : QT) (E : ET) (τ : Tau) (H : Heap) (h : zqf1_44_M Q E τ H) : vc Pr zqf1_p2 τ (zqf1_q1 Q E) E H :=
  (conv (B := vc Pr zqf1_p2 τ (zqf1_q1 Q E) E H) (by kernel_rfl) (vc_seq (K := (zqf1_1_M Q E)) (zqf1_46ok Q E τ H h) (zqf1_2ok Q E)))

@[reducible] noncomputable def zqf1_q22 (Q : QT) (E : ET) : Exit → Tau → Heap → Prop := (xthen (zqf1_44_M Q E) (zqf1_q1 Q E))

@[reducible] noncomputable def zqf1_p35 : Code := sA zqf1_p1

def zqf1_48 (Q : QT) (E : ET) (x0 : OA) (x1 : Bool) (H : Heap) : Prop :=
 zqf1_44 Q E x0 x1 false H

def zqf1_48_M (Q : QT) (E : ET) (τ : Tau) (H : Heap) : Prop := mP (τ 0) fun x0 => mB (τ 1) fun x1 => zqf1_48 Q E x0 x1 H

theorem zqf1_49ok (Q : QT) (E : ET) (τ : Tau) (H : Heap) (h : zqf1_48_M Q E τ H) : vc Pr zqf1_p35 τ (zqf1_q22 Q E) E H :=
  vP (i := 0) h (fun x0 h => vB (i := 1) h (fun x1 h => (conv (by kernel_rfl) h)))

theorem zqf1_50ok (Q : QT) (E : ET) (τ : Tau) (H : Heap) (h : zqf1_48_M Q E τ H) : vc Pr zqf1_p1 τ (zqf1_q1 Q E) E H :=
  (conv (B := vc Pr zqf1_p1 τ (zqf1_q1 Q E) E H) (by kernel_rfl) (vc_seq (K := (zqf1_44_M Q E)) (zqf1_49ok Q E τ H h) (zqf1_47ok Q E)))

@[reducible] noncomputable def zqf1_q23 (Q : QT) (E : ET) : Exit → Tau → Heap → Prop := (xthen (zqf1_48_M Q E) (zqf1_q1 Q E))

@[reducible] noncomputable def zqf1_p36 : Code := sA zqf1_p0

def zqf1 (Q : QT) (E : ET) (a0 : OA) (a1 : Bool) (H : Heap) : Prop :=
 zqf1_48 Q E a0 a1 H

theorem zqf1_fn (a0 : OA) (a1 : Bool) (Q : QT) (E : ET) (H : Heap) (h : zqf1 Q E a0 a1 H)   : Does Pr 81 #[(.pointer a0), (.bool a1)] H Q E :=
  Fn_of_vc (fn := Try.f81) (c := zqf1_p0) (args := [(.pointer a0), (.bool a1)]) mixed (by kernel_rfl) (by kernel_rfl) (by kernel_rfl) (by kernel_rfl) (by kernel_rfl) ((conv (B := vc Pr zqf1_p0 (argT [(.pointer a0), (.bool a1)]) (zqf1_q1 Q E) E H) (by kernel_rfl) (vc_seq (K := (zqf1_48_M Q E)) (conv (B := vc Pr zqf1_p36 (argT [(.pointer a0), (.bool a1)]) (zqf1_q23 Q E) E H) (by kernel_rfl) h) (zqf1_50ok Q E))))

/-! (*jobmux/auto.builder).put -/
@[reducible] noncomputable def zqg1_q1 (Q : QT) (E : ET) : Exit → Tau → Heap → Prop := (retQ Pr (Try.f82).results.toList Q)

@[reducible] noncomputable def zqg1_p0 : Code := bodyOf Try.f82

def zqg1 (Q : QT) (E : ET) (a0 : OA) (a1_0 : Int) (a1_1 : Int) (a1_2 : Int) (a1_3 : Int) (a1_4 : Int) (a1_5 : Int) (a1_6 : Int) (H : Heap) : Prop :=
 nw (.cells #[(.int .i64 a1_0), (.int .i64 a1_1), (.int .i64 a1_2), (.int .u64 a1_3), (.int .u64 a1_4), (.int .u64 a1_5), (.int .u64 a1_6)] 91 (0, 0)) H fun i1 H2 =>
 ptr a0 fun q3 =>
 ldSl (Addr.add q3 1) H2 fun p4 l5 c6 =>
 ∃ n7 n8 n9 n10 n11 n12 n13 : Int, Heap.rd H2 ⟨i1, 0, none⟩ 0 [(.int .i64 n7), (.int .i64 n8), (.int .i64 n9), (.int .u64 n10), (.int .u64 n11), (.int .u64 n12), (.int .u64 n13)] ∧ nw (.cells #[(.int .i64 n7), (.int .i64 n8), (.int .i64 n9), (.int .u64 n10), (.int .u64 n11), (.int .u64 n12), (.int .u64 n13)] 91 (0, 0)) H2 fun i14 H15 =>
 app Pr 50 p4 l5 c6 (.slice (some ⟨i14, 0, none⟩) 1 1) H15 fun p16 l17 c18 H19 =>
 ptr a0 fun q20 =>
 wr (Addr.add q20 1) [(.slice p16 l17 c18)] H19 fun H21 =>
 ptr a0 fun q22 =>
 ldSl (Addr.add q22 1) H21 fun p23 l24 c25 =>
 Q (.int .i64 (IntKind.wrap .i64 (((l24 : Nat) : Int) - 1))) H21

theorem zqg1_fn (a0 : OA) (a1_0 : Int) (a1_1 : Int) (a1_2 : Int) (a1_3 : Int) (a1_4 : Int) (a1_5 : Int) (a1_6 : Int) (Q : QT) (E : ET) (H : Heap) (h : zqg1 Q E a0 a1_0 a1_1 a1_2 a1_3 a1_4 a1_5 a1_6 H)   : Does Pr 82 #[(.pointer a0), (.agg #[(.int .i64 a1_0), (.int .i64 a1_1), (.int .i64 a1_2), (.int .u64 a1_3), (.int .u64 a1_4), (.int .u64 a1_5), (.int .u64 a1_6)])] H Q E :=
  Fn_of_vc (fn := Try.f82) (c := zqg1_p0) (args := [(.pointer a0), (.agg #[(.int .i64 a1_0), (.int .i64 a1_1), (.int .i64 a1_2), (.int .u64 a1_3), (.int .u64 a1_4), (.int .u64 a1_5), (.int .u64 a1_6)])]) mixed (by kernel_rfl) (by kernel_rfl) (by kernel_rfl) (by kernel_rfl) (by kernel_rfl) ((conv (B := vc Pr zqg1_p0 (argT [(.pointer a0), (.agg #[(.int .i64 a1_0), (.int .i64 a1_1), (.int .i64 a1_2), (.int .u64 a1_3), (.int .u64 a1_4), (.int .u64 a1_5), (.int .u64 a1_6)])]) (zqg1_q1 Q E) E H) (by kernel_rfl) h))

/-! (*jobmux/auto.builder).build -/
@[reducible] noncomputable def zqh1_q1 (Q : QT) (E : ET) : Exit → Tau → Heap → Prop := (retQ Pr (Try.f83).results.toList Q)

@[reducible] noncomputable def zqh1_p0 : Code := bodyOf Try.f83

@[reducible] noncomputable def zqh1_p1 : Code := sB zqh1_p0

@[reducible] noncomputable def zqh1_p2 : Code := sB zqh1_p1

@[reducible] noncomputable def zqh1_p3 : Code := sB zqh1_p2

def zqh1_1 (Q : QT) (E : ET) (x2 : Int) (H : Heap) : Prop :=
 Q (.int .i64 x2) H

def zqh1_1_M (Q : QT) (E : ET) (τ : Tau) (H : Heap) : Prop := mI .i64 (τ 2) fun x2 => zqh1_1 Q E x2 H

theorem zqh1_2ok (Q : QT) (E : ET) (τ : Tau) (H : Heap) (h : zqh1_1_M Q E τ H) : vc Pr zqh1_p3 τ (zqh1_q1 Q E) E H :=
  vI (i := 2) h (fun x2 h => (conv (by kernel_rfl) h))

@[reducible] noncomputable def zqh1_q2 (Q : QT) (E : ET) : Exit → Tau → Heap → Prop := (xthen (zqh1_1_M Q E) (zqh1_q1 Q E))

@[reducible] noncomputable def zqh1_p4 : Code := sA zqh1_p2

@[reducible] noncomputable def zqh1_p5 : Code := sB zqh1_p4

@[reducible] noncomputable def zqh1_q3 (Q : QT) (E : ET) : Exit → Tau → Heap → Prop := (xblock 0 (zqh1_q2 Q E))

@[reducible] noncomputable def zqh1_p6 : Code := sI zqh1_p5

@[reducible] noncomputable def zqh1_p7 : Code := sB zqh1_p6

@[reducible] noncomputable def zqh1_p8 : Code := sT zqh1_p7

def zqh1_3 (Q : QT) (E : ET) (x0 : OA) (x2 : Int) (x7 : OA) (H : Heap) : Prop :=
 ptr x7 fun q73 =>
 ∃ n74 n75 n76 n77 : Int, Heap.rd H (Addr.add q73 3) 0 [(.int .u64 n74), (.int .u64 n75), (.int .u64 n76), (.int .u64 n77)] ∧ Does Pr 82 #[(.pointer x0), (.agg #[(.int .i64 1), (.int .i64 x2), (.int .i64 0), (.int .u64 n74), (.int .u64 n75), (.int .u64 n76), (.int .u64 n77)])] H (fun v78 H79 =>
 ∃ n80 : Int, v78 = (.int .i64 n80) ∧ Q (.int .i64 n80) H79) E

def zqh1_3_M (Q : QT) (E : ET) (τ : Tau) (H : Heap) : Prop := mP (τ 0) fun x0 => mI .i64 (τ 2) fun x2 => mP (τ 7) fun x7 => zqh1_3 Q E x0 x2 x7 H

theorem zqh1_4ok (Q : QT) (E : ET) (τ : Tau) (H : Heap) (h : zqh1_3_M Q E τ H) : vc Pr zqh1_p8 τ (zqh1_q3 Q E) E H :=
  vP (i := 0) h (fun x0 h => vI (i := 2) h (fun x2 h => vP (i := 7) h (fun x7 h => (conv (by kernel_rfl) h))))

@[reducible] noncomputable def zqh1_p9 : Code := sE zqh1_p7

@[reducible] noncomputable def zqh1_p10 : Code := sB zqh1_p9

@[reducible] noncomputable def zqh1_p11 : Code := sT zqh1_p10

def zqh1_5 (Q : QT) (E : ET) (x0 : OA) (x2 : Int) (H : Heap) : Prop :=
 Does Pr 82 #[(.pointer x0), (.agg #[(.int .i64 3), (.int .i64 x2), (.int .i64 0), (.int .u64 0), (.int .u64 0), (.int .u64 0), (.int .u64 0)])] H (fun v81 H82 =>
 ∃ n83 : Int, v81 = (.int .i64 n83) ∧ Q (.int .i64 n83) H82) E

def zqh1_5_M (Q : QT) (E : ET) (τ : Tau) (H : Heap) : Prop := mP (τ 0) fun x0 => mI .i64 (τ 2) fun x2 => zqh1_5 Q E x0 x2 H

theorem zqh1_6ok (Q : QT) (E : ET) (τ : Tau) (H : Heap) (h : zqh1_5_M Q E τ H) : vc Pr zqh1_p11 τ (zqh1_q3 Q E) E H :=
  vP (i := 0) h (fun x0 h => vI (i := 2) h (fun x2 h => (conv (by kernel_rfl) h)))

@[reducible] noncomputable def zqh1_p12 : Code := sE zqh1_p10

@[reducible] noncomputable def zqh1_p13 : Code := sB zqh1_p12

@[reducible] noncomputable def zqh1_p14 : Code := sT zqh1_p13

def zqh1_7 (Q : QT) (E : ET) (x0 : OA) (x2 : Int) (H : Heap) : Prop :=
 Does Pr 82 #[(.pointer x0), (.agg #[(.int .i64 4), (.int .i64 x2), (.int .i64 0), (.int .u64 0), (.int .u64 0), (.int .u64 0), (.int .u64 0)])] H (fun v84 H85 =>
 ∃ n86 : Int, v84 = (.int .i64 n86) ∧ Q (.int .i64 n86) H85) E

def zqh1_7_M (Q : QT) (E : ET) (τ : Tau) (H : Heap) : Prop := mP (τ 0) fun x0 => mI .i64 (τ 2) fun x2 => zqh1_7 Q E x0 x2 H

theorem zqh1_8ok (Q : QT) (E : ET) (τ : Tau) (H : Heap) (h : zqh1_7_M Q E τ H) : vc Pr zqh1_p14 τ (zqh1_q3 Q E) E H :=
  vP (i := 0) h (fun x0 h => vI (i := 2) h (fun x2 h => (conv (by kernel_rfl) h)))

@[reducible] noncomputable def zqh1_p15 : Code := sE zqh1_p13

@[reducible] noncomputable def zqh1_p16 : Code := sB zqh1_p15

@[reducible] noncomputable def zqh1_p17 : Code := sT zqh1_p16

def zqh1_9 (Q : QT) (E : ET) (x0 : OA) (x2 : Int) (x7 : OA) (H : Heap) : Prop :=
 ∃ Z87 : Nat → Prop,
 ptr x7 fun q88 =>
 Z87 (Addr.block (Addr.add q88 1)) ∧ ldI .i64 (Addr.add q88 1) H fun n89 =>
 ptr x7 fun q90 =>
 ldI .i64 (Addr.add q90 2) H fun n91 =>
 Does Pr 83 #[(.pointer x0), (.int .i64 n91), (.int .i64 x2)] H (fun v92 H93 =>
 ∃ n94 : Int, v92 = (.int .i64 n94) ∧ (∀ z, Z87 z → H z ≠ none → H93 z = H z) ∧ Does Pr 83 #[(.pointer x0), (.int .i64 n89), (.int .i64 n94)] H93 (fun v95 H96 =>
 ∃ n97 : Int, v95 = (.int .i64 n97) ∧ Q (.int .i64 n97) H96) (fun _ _ => False)) (fun _ _ => False)

def zqh1_9_M (Q : QT) (E : ET) (τ : Tau) (H : Heap) : Prop := mP (τ 0) fun x0 => mI .i64 (τ 2) fun x2 => mP (τ 7) fun x7 => zqh1_9 Q E x0 x2 x7 H

theorem zqh1_10ok (Q : QT) (E : ET) (τ : Tau) (H : Heap) (h : zqh1_9_M Q E τ H) : vc Pr zqh1_p17 τ (zqh1_q3 Q E) E H :=
  vP (i := 0) h (fun x0 h => vI (i := 2) h (fun x2 h => vP (i := 7) h (fun x7 h => (conv (by kernel_rfl) h))))

@[reducible] noncomputable def zqh1_p18 : Code := sE zqh1_p16

@[reducible] noncomputable def zqh1_p19 : Code := sB zqh1_p18

@[reducible] noncomputable def zqh1_p20 : Code := sT zqh1_p19

def zqh1_11 (Q : QT) (E : ET) (x0 : OA) (x2 : Int) (x7 : OA) (H : Heap) : Prop :=
 ∃ Z98 : Nat → Prop,
 ptr x7 fun q99 =>
 ldI .i64 (Addr.add q99 1) H fun n100 =>
 ptr x7 fun q101 =>
 Z98 (Addr.block (Addr.add q101 2)) ∧ ldI .i64 (Addr.add q101 2) H fun n102 =>
 Does Pr 83 #[(.pointer x0), (.int .i64 n100), (.int .i64 x2)] H (fun v103 H104 =>
 ∃ n105 : Int, v103 = (.int .i64 n105) ∧ (∀ z, Z98 z → H z ≠ none → H104 z = H z) ∧ Does Pr 83 #[(.pointer x0), (.int .i64 n102), (.int .i64 x2)] H104 (fun v106 H107 =>
 ∃ n108 : Int, v106 = (.int .i64 n108) ∧ Does Pr 82 #[(.pointer x0), (.agg #[(.int .i64 2), (.int .i64 n105), (.int .i64 n108), (.int .u64 0), (.int .u64 0), (.int .u64 0), (.int .u64 0)])] H107 (fun v109 H110 =>
 ∃ n111 : Int, v109 = (.int .i64 n111) ∧ Q (.int .i64 n111) H110) (fun _ _ => False)) (fun _ _ => False)) (fun _ _ => False)

def zqh1_11_M (Q : QT) (E : ET) (τ : Tau) (H : Heap) : Prop := mP (τ 0) fun x0 => mI .i64 (τ 2) fun x2 => mP (τ 7) fun x7 => zqh1_11 Q E x0 x2 x7 H

theorem zqh1_12ok (Q : QT) (E : ET) (τ : Tau) (H : Heap) (h : zqh1_11_M Q E τ H) : vc Pr zqh1_p20 τ (zqh1_q3 Q E) E H :=
  vP (i := 0) h (fun x0 h => vI (i := 2) h (fun x2 h => vP (i := 7) h (fun x7 h => (conv (by kernel_rfl) h))))

@[reducible] noncomputable def zqh1_p21 : Code := sE zqh1_p19

@[reducible] noncomputable def zqh1_p22 : Code := sB zqh1_p21

@[reducible] noncomputable def zqh1_p23 : Code := sT zqh1_p22

def zqh1_13 (Q : QT) (E : ET) (x0 : OA) (x2 : Int) (x7 : OA) (H : Heap) : Prop :=
 ptr x7 fun q112 =>
 ldI .i64 (Addr.add q112 1) H fun n113 =>
 Does Pr 83 #[(.pointer x0), (.int .i64 n113), (.int .i64 x2)] H (fun v114 H115 =>
 ∃ n116 : Int, v114 = (.int .i64 n116) ∧ Does Pr 82 #[(.pointer x0), (.agg #[(.int .i64 2), (.int .i64 n116), (.int .i64 x2), (.int .u64 0), (.int .u64 0), (.int .u64 0), (.int .u64 0)])] H115 (fun v117 H118 =>
 ∃ n119 : Int, v117 = (.int .i64 n119) ∧ Q (.int .i64 n119) H118) E) E

def zqh1_13_M (Q : QT) (E : ET) (τ : Tau) (H : Heap) : Prop := mP (τ 0) fun x0 => mI .i64 (τ 2) fun x2 => mP (τ 7) fun x7 => zqh1_13 Q E x0 x2 x7 H

theorem zqh1_14ok (Q : QT) (E : ET) (τ : Tau) (H : Heap) (h : zqh1_13_M Q E τ H) : vc Pr zqh1_p23 τ (zqh1_q3 Q E) E H :=
  vP (i := 0) h (fun x0 h => vI (i := 2) h (fun x2 h => vP (i := 7) h (fun x7 h => (conv (by kernel_rfl) h))))

@[reducible] noncomputable def zqh1_p24 : Code := sE zqh1_p22

@[reducible] noncomputable def zqh1_p25 : Code := sB zqh1_p24

@[reducible] noncomputable def zqh1_p26 : Code := sT zqh1_p25

@[reducible] noncomputable def zqh1_p27 : Code := sB zqh1_p26

@[reducible] noncomputable def zqh1_p28 : Code := sB zqh1_p27

@[reducible] noncomputable def zqh1_p29 : Code := sB zqh1_p28

@[reducible] noncomputable def zqh1_p30 : Code := sB zqh1_p29

def zqh1_15 (Q : QT) (E : ET) (x8 : Int) (H : Heap) : Prop :=
 Q (.int .i64 x8) H

def zqh1_15_M (Q : QT) (E : ET) (τ : Tau) (H : Heap) : Prop := mI .i64 (τ 8) fun x8 => zqh1_15 Q E x8 H

theorem zqh1_16ok (Q : QT) (E : ET) (τ : Tau) (H : Heap) (h : zqh1_15_M Q E τ H) : vc Pr zqh1_p30 τ (zqh1_q3 Q E) E H :=
  vI (i := 8) h (fun x8 h => (conv (by kernel_rfl) h))

@[reducible] noncomputable def zqh1_q4 (Q : QT) (E : ET) : Exit → Tau → Heap → Prop := (xthen (zqh1_15_M Q E) (zqh1_q3 Q E))

@[reducible] noncomputable def zqh1_p31 : Code := sA zqh1_p29

def zqh1_17 (Q : QT) (E : ET) (x7 : OA) (x8 : Int) (x9 : Int) (H : Heap) : Prop :=
 ptr x7 fun q134 =>
 ldI .i64 q134 H fun n135 =>
 sel ((n135 : Int) == 6)
 (Q (.int .i64 x9) H)
 (zqh1_15 Q E x8 H)

def zqh1_17_M (Q : QT) (E : ET) (τ : Tau) (H : Heap) : Prop := mP (τ 7) fun x7 => mI .i64 (τ 8) fun x8 => mI .i64 (τ 9) fun x9 => zqh1_17 Q E x7 x8 x9 H

theorem zqh1_18ok (Q : QT) (E : ET) (τ : Tau) (H : Heap) (h : zqh1_17_M Q E τ H) : vc Pr zqh1_p31 τ (zqh1_q4 Q E) E H :=
  vP (i := 7) h (fun x7 h => vI (i := 8) h (fun x8 h => vI (i := 9) h (fun x9 h => (conv (by kernel_rfl) h))))

theorem zqh1_19ok (Q : QT) (E : ET) (τ : Tau) (H : Heap) (h : zqh1_17_M Q E τ H) : vc Pr zqh1_p29 τ (zqh1_q3 Q E) E H :=
  (conv (B := vc Pr zqh1_p29 τ (zqh1_q3 Q E) E H) (by kernel_rfl) (vc_seq (K := (zqh1_15_M Q E)) (zqh1_18ok Q E τ H h) (zqh1_16ok Q E)))

@[reducible] noncomputable def zqh1_q5 (Q : QT) (E : ET) : Exit → Tau → Heap → Prop := (xthen (zqh1_17_M Q E) (zqh1_q3 Q E))

@[reducible] noncomputable def zqh1_p32 : Code := sA zqh1_p28

def zqh1_20 (Q : QT) (E : ET) (x0 : OA) (x7 : OA) (x8 : Int) (x9 : Int) (H : Heap) : Prop :=
 ptr x0 fun q136 =>
 ldSl (Addr.add q136 1) H fun p137 l138 c139 =>
 (0 ≤ (x8 : Int) ∧ (x8 : Int) < ((l138 : Nat) : Int)) ∧ ptr p137 fun q140 =>
 wr (Addr.add (Addr.add q140 ((x8 : Int).toNat * 7)) 1) [(.int .i64 x9)] H fun H141 =>
 zqh1_17 Q E x7 x8 x9 H141

def zqh1_20_M (Q : QT) (E : ET) (τ : Tau) (H : Heap) : Prop := mP (τ 0) fun x0 => mP (τ 7) fun x7 => mI .i64 (τ 8) fun x8 => mI .i64 (τ 9) fun x9 => zqh1_20 Q E x0 x7 x8 x9 H

theorem zqh1_21ok (Q : QT) (E : ET) (τ : Tau) (H : Heap) (h : zqh1_20_M Q E τ H) : vc Pr zqh1_p32 τ (zqh1_q5 Q E) E H :=
  vP (i := 0) h (fun x0 h => vP (i := 7) h (fun x7 h => vI (i := 8) h (fun x8 h => vI (i := 9) h (fun x9 h => (conv (by kernel_rfl) h)))))

theorem zqh1_22ok (Q : QT) (E : ET) (τ : Tau) (H : Heap) (h : zqh1_20_M Q E τ H) : vc Pr zqh1_p28 τ (zqh1_q3 Q E) E H :=
  (conv (B := vc Pr zqh1_p28 τ (zqh1_q3 Q E) E H) (by kernel_rfl) (vc_seq (K := (zqh1_17_M Q E)) (zqh1_21ok Q E τ H h) (zqh1_19ok Q E)))

@[reducible] noncomputable def zqh1_q6 (Q : QT) (E : ET) : Exit → Tau → Heap → Prop := (xthen (zqh1_20_M Q E) (zqh1_q3 Q E))

@[reducible] noncomputable def zqh1_p33 : Code := sA zqh1_p27

def zqh1_23 (Q : QT) (E : ET) (x0 : OA) (x7 : OA) (x8 : Int) (H : Heap) : Prop :=
 ptr x7 fun q142 =>
 ldI .i64 (Addr.add q142 1) H fun n143 =>
 Does Pr 83 #[(.pointer x0), (.int .i64 n143), (.int .i64 x8)] H (fun v144 H145 =>
 ∃ n146 : Int, v144 = (.int .i64 n146) ∧ zqh1_20 Q E x0 x7 x8 n146 H145) E

def zqh1_23_M (Q : QT) (E : ET) (τ : Tau) (H : Heap) : Prop := mP (τ 0) fun x0 => mP (τ 7) fun x7 => mI .i64 (τ 8) fun x8 => zqh1_23 Q E x0 x7 x8 H

theorem zqh1_24ok (Q : QT) (E : ET) (τ : Tau) (H : Heap) (h : zqh1_23_M Q E τ H) : vc Pr zqh1_p33 τ (zqh1_q6 Q E) E H :=
  vP (i := 0) h (fun x0 h => vP (i := 7) h (fun x7 h => vI (i := 8) h (fun x8 h => (conv (by kernel_rfl) h))))

theorem zqh1_25ok (Q : QT) (E : ET) (τ : Tau) (H : Heap) (h : zqh1_23_M Q E τ H) : vc Pr zqh1_p27 τ (zqh1_q3 Q E) E H :=
  (conv (B := vc Pr zqh1_p27 τ (zqh1_q3 Q E) E H) (by kernel_rfl) (vc_seq (K := (zqh1_20_M Q E)) (zqh1_24ok Q E τ H h) (zqh1_22ok Q E)))

@[reducible] noncomputable def zqh1_q7 (Q : QT) (E : ET) : Exit → Tau → Heap → Prop := (xthen (zqh1_23_M Q E) (zqh1_q3 Q E))

@[reducible] noncomputable def zqh1_p34 : Code := sA zqh1_p26

def zqh1_26 (Q : QT) (E : ET) (x0 : OA) (x2 : Int) (x7 : OA) (H : Heap) : Prop :=
 Does Pr 82 #[(.pointer x0), (.agg #[(.int .i64 2), (.int .i64 0), (.int .i64 x2), (.int .u64 0), (.int .u64 0), (.int .u64 0), (.int .u64 0)])] H (fun v147 H148 =>
 ∃ n149 : Int, v147 = (.int .i64 n149) ∧ zqh1_23 Q E x0 x7 n149 H148) E

def zqh1_26_M (Q : QT) (E : ET) (τ : Tau) (H : Heap) : Prop := mP (τ 0) fun x0 => mI .i64 (τ 2) fun x2 => mP (τ 7) fun x7 => zqh1_26 Q E x0 x2 x7 H

theorem zqh1_27ok (Q : QT) (E : ET) (τ : Tau) (H : Heap) (h : zqh1_26_M Q E τ H) : vc Pr zqh1_p34 τ (zqh1_q7 Q E) E H :=
  vP (i := 0) h (fun x0 h => vI (i := 2) h (fun x2 h => vP (i := 7) h (fun x7 h => (conv (by kernel_rfl) h))))

theorem zqh1_28ok (Q : QT) (E : ET) (τ : Tau) (H : Heap) (h : zqh1_26_M Q E τ H) : vc Pr zqh1_p26 τ (zqh1_q3 Q E) E H :=
  (conv (B := vc Pr zqh1_p26 τ (zqh1_q3 Q E) E H) (by kernel_rfl) (vc_seq (K := (zqh1_23_M Q E)) (zqh1_27ok Q E τ H h) (zqh1_25ok Q E)))

@[reducible] noncomputable def zqh1_p35 : Code := sE zqh1_p25

def zqh1_29 (Q : QT) (E : ET) (x2 : Int) (H : Heap) : Prop :=
 zqh1_1 Q E x2 H

def zqh1_29_M (Q : QT) (E : ET) (τ : Tau) (H : Heap) : Prop := mI .i64 (τ 2) fun x2 => zqh1_29 Q E x2 H

theorem zqh1_30ok (Q : QT) (E : ET) (τ : Tau) (H : Heap) (h : zqh1_29_M Q E τ H) : vc Pr zqh1_p35 τ (zqh1_q3 Q E) E H :=
  vI (i := 2) h (fun x2 h => (conv (by kernel_rfl) h))

def zqh1_31 (Q : QT) (E : ET) (x0 : OA) (x2 : Int) (x7 : OA) (x76 : Bool) (H : Heap) : Prop :=
 sel x76
 (zqh1_26 Q E x0 x2 x7 H)
 (zqh1_29 Q E x2 H)

def zqh1_31_M (Q : QT) (E : ET) (τ : Tau) (H : Heap) : Prop := mP (τ 0) fun x0 => mI .i64 (τ 2) fun x2 => mP (τ 7) fun x7 => mB (τ 76) fun x76 => zqh1_31 Q E x0 x2 x7 x76 H

theorem zqh1_32ok (Q : QT) (E : ET) (τ : Tau) (H : Heap) (h : zqh1_31_M Q E τ H) : vc Pr zqh1_p25 τ (zqh1_q3 Q E) E H :=
  vP (i := 0) h (fun x0 h => vI (i := 2) h (fun x2 h => vP (i := 7) h (fun x7 h => vB (i := 76) h (fun x76 h => (conv (B := vc Pr zqh1_p25 (Tau.upd (Tau.upd (Tau.upd (Tau.upd τ 0 (.pointer x0)) 2 (.int .i64 x2)) 7 (.pointer x7)) 76 (.bool x76)) (zqh1_q3 Q E) E H) (by kernel_rfl) (sel_map (zqh1_28ok Q E (Tau.upd (Tau.upd (Tau.upd (Tau.upd τ 0 (.pointer x0)) 2 (.int .i64 x2)) 7 (.pointer x7)) 76 (.bool x76)) H) (zqh1_30ok Q E (Tau.upd (Tau.upd (Tau.upd (Tau.upd τ 0 (.pointer x0)) 2 (.int .i64 x2)) 7 (.pointer x7)) 76 (.bool x76)) H) (conv (B := sel x76 (zqh1_26_M Q E (Tau.upd (Tau.upd (Tau.upd (Tau.upd τ 0 (.pointer x0)) 2 (.int .i64 x2)) 7 (.pointer x7)) 76 (.bool x76)) H) (zqh1_29_M Q E (Tau.upd (Tau.upd (Tau.upd (Tau.upd τ 0 (.pointer x0)) 2 (.int .i64 x2)) 7 (.pointer x7)) 76 (.bool x76)) H)) (by kernel_rfl) h)))))))

@[reducible] noncomputable def zqh1_q8 (Q : QT) (E : ET) : Exit → Tau → Heap → Prop := (xthen (zqh1_31_M Q E) (zqh1_q3 Q E))

@[reducible] noncomputable def zqh1_p36 : Code := sA zqh1_p24

def zqh1_33 (Q : QT) (E : ET) (x0 : OA) (x2 : Int) (x7 : OA) (x18 : Int) (H : Heap) : Prop :=
 sel ((x18 : Int) == 5)
 (zqh1_31 Q E x0 x2 x7 ((x18 : Int) == 5) H)
 (zqh1_31 Q E x0 x2 x7 ((x18 : Int) == 6) H)

def zqh1_33_M (Q : QT) (E : ET) (τ : Tau) (H : Heap) : Prop := mP (τ 0) fun x0 => mI .i64 (τ 2) fun x2 => mP (τ 7) fun x7 => mI .i64 (τ 18) fun x18 => zqh1_33 Q E x0 x2 x7 x18 H

theorem zqh1_34ok (Q : QT) (E : ET) (τ : Tau) (H : Heap) (h : zqh1_33_M Q E τ H) : vc Pr zqh1_p36 τ (zqh1_q8 Q E) E H :=
  vP (i := 0) h (fun x0 h => vI (i := 2) h (fun x2 h => vP (i := 7) h (fun x7 h => vI (i := 18) h (fun x18 h => (conv (by kernel_rfl) h)))))

theorem zqh1_35ok (Q : QT) (E : ET) (τ : Tau) (H : Heap) (h : zqh1_33_M Q E τ H) : vc Pr zqh1_p24 τ (zqh1_q3 Q E) E H :=
  (conv (B := vc Pr zqh1_p24 τ (zqh1_q3 Q E) E H) (by kernel_rfl) (vc_seq (K := (zqh1_31_M Q E)) (zqh1_34ok Q E τ H h) (zqh1_32ok Q E)))

def zqh1_36 (Q : QT) (E : ET) (x0 : OA) (x2 : Int) (x7 : OA) (x18 : Int) (x65 : Bool) (H : Heap) : Prop :=
 sel x65
 (zqh1_13 Q E x0 x2 x7 H)
 (zqh1_33 Q E x0 x2 x7 x18 H)

def zqh1_36_M (Q : QT) (E : ET) (τ : Tau) (H : Heap) : Prop := mP (τ 0) fun x0 => mI .i64 (τ 2) fun x2 => mP (τ 7) fun x7 => mI .i64 (τ 18) fun x18 => mB (τ 65) fun x65 => zqh1_36 Q E x0 x2 x7 x18 x65 H

theorem zqh1_37ok (Q : QT) (E : ET) (τ : Tau) (H : Heap) (h : zqh1_36_M Q E τ H) : vc Pr zqh1_p22 τ (zqh1_q3 Q E) E H :=
  vP (i := 0) h (fun x0 h => vI (i := 2) h (fun x2 h => vP (i := 7) h (fun x7 h => vI (i := 18) h (fun x18 h => vB (i := 65) h (fun x65 h => (conv (B := vc Pr zqh1_p22 (Tau.upd (Tau.upd (Tau.upd (Tau.upd (Tau.upd τ 0 (.pointer x0)) 2 (.int .i64 x2)) 7 (.pointer x7)) 18 (.int .i64 x18)) 65 (.bool x65)) (zqh1_q3 Q E) E H) (by kernel_rfl) (sel_map (zqh1_14ok Q E (Tau.upd (Tau.upd (Tau.upd (Tau.upd (Tau.upd τ 0 (.pointer x0)) 2 (.int .i64 x2)) 7 (.pointer x7)) 18 (.int .i64 x18)) 65 (.bool x65)) H) (zqh1_35ok Q E (Tau.upd (Tau.upd (Tau.upd (Tau.upd (Tau.upd τ 0 (.pointer x0)) 2 (.int .i64 x2)) 7 (.pointer x7)) 18 (.int .i64 x18)) 65 (.bool x65)) H) (conv (B := sel x65 (zqh1_13_M Q E (Tau.upd (Tau.upd (Tau.upd (Tau.upd (Tau.upd τ 0 (.pointer x0)) 2 (.int .i64 x2)) 7 (.pointer x7)) 18 (.int .i64 x18)) 65 (.bool x65)) H) (zqh1_33_M Q E (Tau.upd (Tau.upd (Tau.upd (Tau.upd (Tau.upd τ 0 (.pointer x0)) 2 (.int .i64 x2)) 7 (.pointer x7)) 18 (.int .i64 x18)) 65 (.bool x65)) H)) (by kernel_rfl) h))))))))

@[reducible] noncomputable def zqh1_q9 (Q : QT) (E : ET) : Exit → Tau → Heap → Prop := (xthen (zqh1_36_M Q E) (zqh1_q3 Q E))

@[reducible] noncomputable def zqh1_p37 : Code := sA zqh1_p21

def zqh1_38 (Q : QT) (E : ET) (x0 : OA) (x2 : Int) (x7 : OA) (x18 : Int) (H : Heap) : Prop :=
 zqh1_36 Q E x0 x2 x7 x18 ((x18 : Int) == 7) H

def zqh1_38_M (Q : QT) (E : ET) (τ : Tau) (H : Heap) : Prop := mP (τ 0) fun x0 => mI .i64 (τ 2) fun x2 => mP (τ 7) fun x7 => mI .i64 (τ 18) fun x18 => zqh1_38 Q E x0 x2 x7 x18 H

theorem zqh1_39ok (Q : QT) (E : ET) (τ : Tau) (H : Heap) (h : zqh1_38_M Q E τ H) : vc Pr zqh1_p37 τ (zqh1_q9 Q E) E H :=
  vP (i := 0) h (fun x0 h => vI (i := 2) h (fun x2 h => vP (i := 7) h (fun x7 h => vI (i := 18) h (fun x18 h => (conv (by kernel_rfl) h)))))

theorem zqh1_40ok (Q : QT) (E : ET) (τ : Tau) (H : Heap) (h : zqh1_38_M Q E τ H) : vc Pr zqh1_p21 τ (zqh1_q3 Q E) E H :=
  (conv (B := vc Pr zqh1_p21 τ (zqh1_q3 Q E) E H) (by kernel_rfl) (vc_seq (K := (zqh1_36_M Q E)) (zqh1_39ok Q E τ H h) (zqh1_37ok Q E)))

def zqh1_41 (Q : QT) (E : ET) (x0 : OA) (x2 : Int) (x7 : OA) (x18 : Int) (x50 : Bool) (H : Heap) : Prop :=
 sel x50
 (zqh1_11 Q E x0 x2 x7 H)
 (zqh1_38 Q E x0 x2 x7 x18 H)

def zqh1_41_M (Q : QT) (E : ET) (τ : Tau) (H : Heap) : Prop := mP (τ 0) fun x0 => mI .i64 (τ 2) fun x2 => mP (τ 7) fun x7 => mI .i64 (τ 18) fun x18 => mB (τ 50) fun x50 => zqh1_41 Q E x0 x2 x7 x18 x50 H

theorem zqh1_42ok (Q : QT) (E : ET) (τ : Tau) (H : Heap) (h : zqh1_41_M Q E τ H) : vc Pr zqh1_p19 τ (zqh1_q3 Q E) E H :=
  vP (i := 0) h (fun x0 h => vI (i := 2) h (fun x2 h => vP (i := 7) h (fun x7 h => vI (i := 18) h (fun x18 h => vB (i := 50) h (fun x50 h => (conv (B := vc Pr zqh1_p19 (Tau.upd (Tau.upd (Tau.upd (Tau.upd (Tau.upd τ 0 (.pointer x0)) 2 (.int .i64 x2)) 7 (.pointer x7)) 18 (.int .i64 x18)) 50 (.bool x50)) (zqh1_q3 Q E) E H) (by kernel_rfl) (sel_map (zqh1_12ok Q E (Tau.upd (Tau.upd (Tau.upd (Tau.upd (Tau.upd τ 0 (.pointer x0)) 2 (.int .i64 x2)) 7 (.pointer x7)) 18 (.int .i64 x18)) 50 (.bool x50)) H) (zqh1_40ok Q E (Tau.upd (Tau.upd (Tau.upd (Tau.upd (Tau.upd τ 0 (.pointer x0)) 2 (.int .i64 x2)) 7 (.pointer x7)) 18 (.int .i64 x18)) 50 (.bool x50)) H) (conv (B := sel x50 (zqh1_11_M Q E (Tau.upd (Tau.upd (Tau.upd (Tau.upd (Tau.upd τ 0 (.pointer x0)) 2 (.int .i64 x2)) 7 (.pointer x7)) 18 (.int .i64 x18)) 50 (.bool x50)) H) (zqh1_38_M Q E (Tau.upd (Tau.upd (Tau.upd (Tau.upd (Tau.upd τ 0 (.pointer x0)) 2 (.int .i64 x2)) 7 (.pointer x7)) 18 (.int .i64 x18)) 50 (.bool x50)) H)) (by kernel_rfl) h))))))))

@[reducible] noncomputable def zqh1_q10 (Q : QT) (E : ET) : Exit → Tau → Heap → Prop := (xthen (zqh1_41_M Q E) (zqh1_q3 Q E))

@[reducible] noncomputable def zqh1_p38 : Code := sA zqh1_p18

def zqh1_43 (Q : QT) (E : ET) (x0 : OA) (x2 : Int) (x7 : OA) (x18 : Int) (H : Heap) : Prop :=
 zqh1_41 Q E x0 x2 x7 x18 ((x18 : Int) == 4) H

def zqh1_43_M (Q : QT) (E : ET) (τ : Tau) (H : Heap) : Prop := mP (τ 0) fun x0 => mI .i64 (τ 2) fun x2 => mP (τ 7) fun x7 => mI .i64 (τ 18) fun x18 => zqh1_43 Q E x0 x2 x7 x18 H

theorem zqh1_44ok (Q : QT) (E : ET) (τ : Tau) (H : Heap) (h : zqh1_43_M Q E τ H) : vc Pr zqh1_p38 τ (zqh1_q10 Q E) E H :=
  vP (i := 0) h (fun x0 h => vI (i := 2) h (fun x2 h => vP (i := 7) h (fun x7 h => vI (i := 18) h (fun x18 h => (conv (by kernel_rfl) h)))))

theorem zqh1_45ok (Q : QT) (E : ET) (τ : Tau) (H : Heap) (h : zqh1_43_M Q E τ H) : vc Pr zqh1_p18 τ (zqh1_q3 Q E) E H :=
  (conv (B := vc Pr zqh1_p18 τ (zqh1_q3 Q E) E H) (by kernel_rfl) (vc_seq (K := (zqh1_41_M Q E)) (zqh1_44ok Q E τ H h) (zqh1_42ok Q E)))

def zqh1_46 (Q : QT) (E : ET) (x0 : OA) (x2 : Int) (x7 : OA) (x18 : Int) (x39 : Bool) (H : Heap) : Prop :=
 sel x39
 (zqh1_9 Q E x0 x2 x7 H)
 (zqh1_43 Q E x0 x2 x7 x18 H)

def zqh1_46_M (Q : QT) (E : ET) (τ : Tau) (H : Heap) : Prop := mP (τ 0) fun x0 => mI .i64 (τ 2) fun x2 => mP (τ 7) fun x7 => mI .i64 (τ 18) fun x18 => mB (τ 39) fun x39 => zqh1_46 Q E x0 x2 x7 x18 x39 H

theorem zqh1_47ok (Q : QT) (E : ET) (τ : Tau) (H : Heap) (h : zqh1_46_M Q E τ H) : vc Pr zqh1_p16 τ (zqh1_q3 Q E) E H :=
  vP (i := 0) h (fun x0 h => vI (i := 2) h (fun x2 h => vP (i := 7) h (fun x7 h => vI (i := 18) h (fun x18 h => vB (i := 39) h (fun x39 h => (conv (B := vc Pr zqh1_p16 (Tau.upd (Tau.upd (Tau.upd (Tau.upd (Tau.upd τ 0 (.pointer x0)) 2 (.int .i64 x2)) 7 (.pointer x7)) 18 (.int .i64 x18)) 39 (.bool x39)) (zqh1_q3 Q E) E H) (by kernel_rfl) (sel_map (zqh1_10ok Q E (Tau.upd (Tau.upd (Tau.upd (Tau.upd (Tau.upd τ 0 (.pointer x0)) 2 (.int .i64 x2)) 7 (.pointer x7)) 18 (.int .i64 x18)) 39 (.bool x39)) H) (zqh1_45ok Q E (Tau.upd (Tau.upd (Tau.upd (Tau.upd (Tau.upd τ 0 (.pointer x0)) 2 (.int .i64 x2)) 7 (.pointer x7)) 18 (.int .i64 x18)) 39 (.bool x39)) H) (conv (B := sel x39 (zqh1_9_M Q E (Tau.upd (Tau.upd (Tau.upd (Tau.upd (Tau.upd τ 0 (.pointer x0)) 2 (.int .i64 x2)) 7 (.pointer x7)) 18 (.int .i64 x18)) 39 (.bool x39)) H) (zqh1_43_M Q E (Tau.upd (Tau.upd (Tau.upd (Tau.upd (Tau.upd τ 0 (.pointer x0)) 2 (.int .i64 x2)) 7 (.pointer x7)) 18 (.int .i64 x18)) 39 (.bool x39)) H)) (by kernel_rfl) h))))))))

@[reducible] noncomputable def zqh1_q11 (Q : QT) (E : ET) : Exit → Tau → Heap → Prop := (xthen (zqh1_46_M Q E) (zqh1_q3 Q E))

@[reducible] noncomputable def zqh1_p39 : Code := sA zqh1_p15

def zqh1_48 (Q : QT) (E : ET) (x0 : OA) (x2 : Int) (x7 : OA) (x18 : Int) (H : Heap) : Prop :=
 zqh1_46 Q E x0 x2 x7 x18 ((x18 : Int) == 3) H

def zqh1_48_M (Q : QT) (E : ET) (τ : Tau) (H : Heap) : Prop := mP (τ 0) fun x0 => mI .i64 (τ 2) fun x2 => mP (τ 7) fun x7 => mI .i64 (τ 18) fun x18 => zqh1_48 Q E x0 x2 x7 x18 H

theorem zqh1_49ok (Q : QT) (E : ET) (τ : Tau) (H : Heap) (h : zqh1_48_M Q E τ H) : vc Pr zqh1_p39 τ (zqh1_q11 Q E) E H :=
  vP (i := 0) h (fun x0 h => vI (i := 2) h (fun x2 h => vP (i := 7) h (fun x7 h => vI (i := 18) h (fun x18 h => (conv (by kernel_rfl) h)))))

theorem zqh1_50ok (Q : QT) (E : ET) (τ : Tau) (H : Heap) (h : zqh1_48_M Q E τ H) : vc Pr zqh1_p15 τ (zqh1_q3 Q E) E H :=
  (conv (B := vc Pr zqh1_p15 τ (zqh1_q3 Q E) E H) (by kernel_rfl) (vc_seq (K := (zqh1_46_M Q E)) (zqh1_49ok Q E τ H h) (zqh1_47ok Q E)))

def zqh1_51 (Q : QT) (E : ET) (x0 : OA) (x2 : Int) (x7 : OA) (x18 : Int) (x33 : Bool) (H : Heap) : Prop :=
 sel x33
 (zqh1_7 Q E x0 x2 H)
 (zqh1_48 Q E x0 x2 x7 x18 H)

def zqh1_51_M (Q : QT) (E : ET) (τ : Tau) (H : Heap) : Prop := mP (τ 0) fun x0 => mI .i64 (τ 2) fun x2 => mP (τ 7) fun x7 => mI .i64 (τ 18) fun x18 => mB (τ 33) fun x33 => zqh1_51 Q E x0 x2 x7 x18 x33 H

theorem zqh1_52ok (Q : QT) (E : ET) (τ : Tau) (H : Heap) (h : zqh1_51_M Q E τ H) : vc Pr zqh1_p13 τ (zqh1_q3 Q E) E H :=
  vP (i := 0) h (fun x0 h => vI (i := 2) h (fun x2 h => vP (i := 7) h (fun x7 h => vI (i := 18) h (fun x18 h => vB (i := 33) h (fun x33 h => (conv (B := vc Pr zqh1_p13 (Tau.upd (Tau.upd (Tau.upd (Tau.upd (Tau.upd τ 0 (.pointer x0)) 2 (.int .i64 x2)) 7 (.pointer x7)) 18 (.int .i64 x18)) 33 (.bool x33)) (zqh1_q3 Q E) E H) (by kernel_rfl) (sel_map (zqh1_8ok Q E (Tau.upd (Tau.upd (Tau.upd (Tau.upd (Tau.upd τ 0 (.pointer x0)) 2 (.int .i64 x2)) 7 (.pointer x7)) 18 (.int .i64 x18)) 33 (.bool x33)) H) (zqh1_50ok Q E (Tau.upd (Tau.upd (Tau.upd (Tau.upd (Tau.upd τ 0 (.pointer x0)) 2 (.int .i64 x2)) 7 (.pointer x7)) 18 (.int .i64 x18)) 33 (.bool x33)) H) (conv (B := sel x33 (zqh1_7_M Q E (Tau.upd (Tau.upd (Tau.upd (Tau.upd (Tau.upd τ 0 (.pointer x0)) 2 (.int .i64 x2)) 7 (.pointer x7)) 18 (.int .i64 x18)) 33 (.bool x33)) H) (zqh1_48_M Q E (Tau.upd (Tau.upd (Tau.upd (Tau.upd (Tau.upd τ 0 (.pointer x0)) 2 (.int .i64 x2)) 7 (.pointer x7)) 18 (.int .i64 x18)) 33 (.bool x33)) H)) (by kernel_rfl) h))))))))

@[reducible] noncomputable def zqh1_q12 (Q : QT) (E : ET) : Exit → Tau → Heap → Prop := (xthen (zqh1_51_M Q E) (zqh1_q3 Q E))

@[reducible] noncomputable def zqh1_p40 : Code := sA zqh1_p12

def zqh1_53 (Q : QT) (E : ET) (x0 : OA) (x2 : Int) (x7 : OA) (x18 : Int) (H : Heap) : Prop :=
 zqh1_51 Q E x0 x2 x7 x18 ((x18 : Int) == 9) H

def zqh1_53_M (Q : QT) (E : ET) (τ : Tau) (H : Heap) : Prop := mP (τ 0) fun x0 => mI .i64 (τ 2) fun x2 => mP (τ 7) fun x7 => mI .i64 (τ 18) fun x18 => zqh1_53 Q E x0 x2 x7 x18 H

theorem zqh1_54ok (Q : QT) (E : ET) (τ : Tau) (H : Heap) (h : zqh1_53_M Q E τ H) : vc Pr zqh1_p40 τ (zqh1_q12 Q E) E H :=
  vP (i := 0) h (fun x0 h => vI (i := 2) h (fun x2 h => vP (i := 7) h (fun x7 h => vI (i := 18) h (fun x18 h => (conv (by kernel_rfl) h)))))

theorem zqh1_55ok (Q : QT) (E : ET) (τ : Tau) (H : Heap) (h : zqh1_53_M Q E τ H) : vc Pr zqh1_p12 τ (zqh1_q3 Q E) E H :=
  (conv (B := vc Pr zqh1_p12 τ (zqh1_q3 Q E) E H) (by kernel_rfl) (vc_seq (K := (zqh1_51_M Q E)) (zqh1_54ok Q E τ H h) (zqh1_52ok Q E)))

def zqh1_56 (Q : QT) (E : ET) (x0 : OA) (x2 : Int) (x7 : OA) (x18 : Int) (x27 : Bool) (H : Heap) : Prop :=
 sel x27
 (zqh1_5 Q E x0 x2 H)
 (zqh1_53 Q E x0 x2 x7 x18 H)

def zqh1_56_M (Q : QT) (E : ET) (τ : Tau) (H : Heap) : Prop := mP (τ 0) fun x0 => mI .i64 (τ 2) fun x2 => mP (τ 7) fun x7 => mI .i64 (τ 18) fun x18 => mB (τ 27) fun x27 => zqh1_56 Q E x0 x2 x7 x18 x27 H

theorem zqh1_57ok (Q : QT) (E : ET) (τ : Tau) (H : Heap) (h : zqh1_56_M Q E τ H) : vc Pr zqh1_p10 τ (zqh1_q3 Q E) E H :=
  vP (i := 0) h (fun x0 h => vI (i := 2) h (fun x2 h => vP (i := 7) h (fun x7 h => vI (i := 18) h (fun x18 h => vB (i := 27) h (fun x27 h => (conv (B := vc Pr zqh1_p10 (Tau.upd (Tau.upd (Tau.upd (Tau.upd (Tau.upd τ 0 (.pointer x0)) 2 (.int .i64 x2)) 7 (.pointer x7)) 18 (.int .i64 x18)) 27 (.bool x27)) (zqh1_q3 Q E) E H) (by kernel_rfl) (sel_map (zqh1_6ok Q E (Tau.upd (Tau.upd (Tau.upd (Tau.upd (Tau.upd τ 0 (.pointer x0)) 2 (.int .i64 x2)) 7 (.pointer x7)) 18 (.int .i64 x18)) 27 (.bool x27)) H) (zqh1_55ok Q E (Tau.upd (Tau.upd (Tau.upd (Tau.upd (Tau.upd τ 0 (.pointer x0)) 2 (.int .i64 x2)) 7 (.pointer x7)) 18 (.int .i64 x18)) 27 (.bool x27)) H) (conv (B := sel x27 (zqh1_5_M Q E (Tau.upd (Tau.upd (Tau.upd (Tau.upd (Tau.upd τ 0 (.pointer x0)) 2 (.int .i64 x2)) 7 (.pointer x7)) 18 (.int .i64 x18)) 27 (.bool x27)) H) (zqh1_53_M Q E (Tau.upd (Tau.upd (Tau.upd (Tau.upd (Tau.upd τ 0 (.pointer x0)) 2 (.int .i64 x2)) 7 (.pointer x7)) 18 (.int .i64 x18)) 27 (.bool x27)) H)) (by kernel_rfl) h))))))))

@[reducible] noncomputable def zqh1_q13 (Q : QT) (E : ET) : Exit → Tau → Heap → Prop := (xthen (zqh1_56_M Q E) (zqh1_q3 Q E))

@[reducible] noncomputable def zqh1_p41 : Code := sA zqh1_p9

def zqh1_58 (Q : QT) (E : ET) (x0 : OA) (x2 : Int) (x7 : OA) (x18 : Int) (H : Heap) : Prop :=
 zqh1_56 Q E x0 x2 x7 x18 ((x18 : Int) == 8) H

def zqh1_58_M (Q : QT) (E : ET) (τ : Tau) (H : Heap) : Prop := mP (τ 0) fun x0 => mI .i64 (τ 2) fun x2 => mP (τ 7) fun x7 => mI .i64 (τ 18) fun x18 => zqh1_58 Q E x0 x2 x7 x18 H

theorem zqh1_59ok (Q : QT) (E : ET) (τ : Tau) (H : Heap) (h : zqh1_58_M Q E τ H) : vc Pr zqh1_p41 τ (zqh1_q13 Q E) E H :=
  vP (i := 0) h (fun x0 h => vI (i := 2) h (fun x2 h => vP (i := 7) h (fun x7 h => vI (i := 18) h (fun x18 h => (conv (by kernel_rfl) h)))))

theorem zqh1_60ok (Q : QT) (E : ET) (τ : Tau) (H : Heap) (h : zqh1_58_M Q E τ H) : vc Pr zqh1_p9 τ (zqh1_q3 Q E) E H :=
  (conv (B := vc Pr zqh1_p9 τ (zqh1_q3 Q E) E H) (by kernel_rfl) (vc_seq (K := (zqh1_56_M Q E)) (zqh1_59ok Q E τ H h) (zqh1_57ok Q E)))

def zqh1_61 (Q : QT) (E : ET) (x0 : OA) (x2 : Int) (x7 : OA) (x18 : Int) (x19 : Bool) (H : Heap) : Prop :=
 sel x19
 (zqh1_3 Q E x0 x2 x7 H)
 (zqh1_58 Q E x0 x2 x7 x18 H)

def zqh1_61_M (Q : QT) (E : ET) (τ : Tau) (H : Heap) : Prop := mP (τ 0) fun x0 => mI .i64 (τ 2) fun x2 => mP (τ 7) fun x7 => mI .i64 (τ 18) fun x18 => mB (τ 19) fun x19 => zqh1_61 Q E x0 x2 x7 x18 x19 H

theorem zqh1_62ok (Q : QT) (E : ET) (τ : Tau) (H : Heap) (h : zqh1_61_M Q E τ H) : vc Pr zqh1_p7 τ (zqh1_q3 Q E) E H :=
  vP (i := 0) h (fun x0 h => vI (i := 2) h (fun x2 h => vP (i := 7) h (fun x7 h => vI (i := 18) h (fun x18 h => vB (i := 19) h (fun x19 h => (conv (B := vc Pr zqh1_p7 (Tau.upd (Tau.upd (Tau.upd (Tau.upd (Tau.upd τ 0 (.pointer x0)) 2 (.int .i64 x2)) 7 (.pointer x7)) 18 (.int .i64 x18)) 19 (.bool x19)) (zqh1_q3 Q E) E H) (by kernel_rfl) (sel_map (zqh1_4ok Q E (Tau.upd (Tau.upd (Tau.upd (Tau.upd (Tau.upd τ 0 (.pointer x0)) 2 (.int .i64 x2)) 7 (.pointer x7)) 18 (.int .i64 x18)) 19 (.bool x19)) H) (zqh1_60ok Q E (Tau.upd (Tau.upd (Tau.upd (Tau.upd (Tau.upd τ 0 (.pointer x0)) 2 (.int .i64 x2)) 7 (.pointer x7)) 18 (.int .i64 x18)) 19 (.bool x19)) H) (conv (B := sel x19 (zqh1_3_M Q E (Tau.upd (Tau.upd (Tau.upd (Tau.upd (Tau.upd τ 0 (.pointer x0)) 2 (.int .i64 x2)) 7 (.pointer x7)) 18 (.int .i64 x18)) 19 (.bool x19)) H) (zqh1_58_M Q E (Tau.upd (Tau.upd (Tau.upd (Tau.upd (Tau.upd τ 0 (.pointer x0)) 2 (.int .i64 x2)) 7 (.pointer x7)) 18 (.int .i64 x18)) 19 (.bool x19)) H)) (by kernel_rfl) h))))))))

@[reducible] noncomputable def zqh1_q14 (Q : QT) (E : ET) : Exit → Tau → Heap → Prop := (xthen (zqh1_61_M Q E) (zqh1_q3 Q E))

@[reducible] noncomputable def zqh1_p42 : Code := sA zqh1_p6

def zqh1_63 (Q : QT) (E : ET) (x0 : OA) (x2 : Int) (x7 : OA) (x18 : Int) (H : Heap) : Prop :=
 zqh1_61 Q E x0 x2 x7 x18 ((x18 : Int) == 2) H

def zqh1_63_M (Q : QT) (E : ET) (τ : Tau) (H : Heap) : Prop := mP (τ 0) fun x0 => mI .i64 (τ 2) fun x2 => mP (τ 7) fun x7 => mI .i64 (τ 18) fun x18 => zqh1_63 Q E x0 x2 x7 x18 H

theorem zqh1_64ok (Q : QT) (E : ET) (τ : Tau) (H : Heap) (h : zqh1_63_M Q E τ H) : vc Pr zqh1_p42 τ (zqh1_q14 Q E) E H :=
  vP (i := 0) h (fun x0 h => vI (i := 2) h (fun x2 h => vP (i := 7) h (fun x7 h => vI (i := 18) h (fun x18 h => (conv (by kernel_rfl) h)))))

theorem zqh1_65ok (Q : QT) (E : ET) (τ : Tau) (H : Heap) (h : zqh1_63_M Q E τ H) : vc Pr zqh1_p6 τ (zqh1_q3 Q E) E H :=
  (conv (B := vc Pr zqh1_p6 τ (zqh1_q3 Q E) E H) (by kernel_rfl) (vc_seq (K := (zqh1_61_M Q E)) (zqh1_64ok Q E τ H h) (zqh1_62ok Q E)))

theorem zqh1_66ok (Q : QT) (E : ET) (τ : Tau) (H : Heap) (h : zqh1_63_M Q E τ H) : vc Pr zqh1_p5 τ (zqh1_q2 Q E) E H :=
  (conv (B := vc Pr zqh1_p5 τ (zqh1_q2 Q E) E H) (by kernel_rfl) (zqh1_65ok Q E τ H h))

@[reducible] noncomputable def zqh1_q15 (Q : QT) (E : ET) : Exit → Tau → Heap → Prop := (xthen (zqh1_63_M Q E) (zqh1_q2 Q E))

@[reducible] noncomputable def zqh1_p43 : Code := sA zqh1_p4

def zqh1_67 (Q : QT) (E : ET) (x0 : OA) (x2 : Int) (x7 : OA) (H : Heap) : Prop :=
 ptr x7 fun q150 =>
 ldI .i64 q150 H fun n151 =>
 zqh1_63 Q E x0 x2 x7 n151 H

def zqh1_67_M (Q : QT) (E : ET) (τ : Tau) (H : Heap) : Prop := mP (τ 0) fun x0 => mI .i64 (τ 2) fun x2 => mP (τ 7) fun x7 => zqh1_67 Q E x0 x2 x7 H

theorem zqh1_68ok (Q : QT) (E : ET) (τ : Tau) (H : Heap) (h : zqh1_67_M Q E τ H) : vc Pr zqh1_p43 τ (zqh1_q15 Q E) E H :=
  vP (i := 0) h (fun x0 h => vI (i := 2) h (fun x2 h => vP (i := 7) h (fun x7 h => (conv (by kernel_rfl) h))))

theorem zqh1_69ok (Q : QT) (E : ET) (τ : Tau) (H : Heap) (h : zqh1_67_M Q E τ H) : vc Pr zqh1_p4 τ (zqh1_q2 Q E) E H :=
  (conv (B := vc Pr zqh1_p4 τ (zqh1_q2 Q E) E H) (by kernel_rfl) (vc_seq (K := (zqh1_63_M Q E)) (zqh1_68ok Q E τ H h) (zqh1_66ok Q E)))

theorem zqh1_70ok (Q : QT) (E : ET) (τ : Tau) (H : Heap) (h : zqh1_67_M Q E τ H) : vc Pr zqh1_p2 τ (zqh1_q1 Q E) E H :=
  (conv (B := vc Pr zqh1_p2 τ (zqh1_q1 Q E) E H) (by kernel_rfl) (vc_seq (K := (zqh1_1_M Q E)) (zqh1_69ok Q E τ H h) (zqh1_2ok Q E)))

@[reducible] noncomputable def zqh1_q16 (Q : QT) (E : ET) : Exit → Tau → Heap → Prop := (xthen (zqh1_67_M Q E) (zqh1_q1 Q E))

@[reducible] noncomputable def zqh1_p44 : Code := sA zqh1_p1

def zqh1_71 (Q : QT) (E : ET) (x0 : OA) (x1 : Int) (x2 : Int) (H : Heap) : Prop :=
 ptr x0 fun q152 =>
 ldSl q152 H fun p153 l154 c155 =>
 (0 ≤ (x1 : Int) ∧ (x1 : Int) < ((l154 : Nat) : Int)) ∧ ptr p153 fun q156 =>
 ∃ n157 n158 n159 n160 n161 n162 n163 : Int, Heap.rd H (Addr.add q156 ((x1 : Int).toNat * 7)) 0 [(.int .i64 n157), (.int .i64 n158), (.int .i64 n159), (.int .u64 n160), (.int .u64 n161), (.int .u64 n162), (.int .u64 n163)] ∧ nw (.cells #[(.int .i64 0), (.int .i64 0), (.int .i64 0), (.int .u64 0), (.int .u64 0), (.int .u64 0), (.int .u64 0)] 48 (0, 0)) H fun i164 H165 =>
 wr ⟨i164, 0, none⟩ [(.int .i64 n157), (.int .i64 n158), (.int .i64 n159), (.int .u64 n160), (.int .u64 n161), (.int .u64 n162), (.int .u64 n163)] H165 fun H166 =>
 zqh1_67 Q E x0 x2 (some ⟨i164, 0, none⟩) H166

def zqh1_71_M (Q : QT) (E : ET) (τ : Tau) (H : Heap) : Prop := mP (τ 0) fun x0 => mI .i64 (τ 1) fun x1 => mI .i64 (τ 2) fun x2 => zqh1_71 Q E x0 x1 x2 H

theorem zqh1_72ok (Q : QT) (E : ET) (τ : Tau) (H : Heap) (h : zqh1_71_M Q E τ H) : vc Pr zqh1_p44 τ (zqh1_q16 Q E) E H :=
  vP (i := 0) h (fun x0 h => vI (i := 1) h (fun x1 h => vI (i := 2) h (fun x2 h => (conv (by kernel_rfl) h))))

theorem zqh1_73ok (Q : QT) (E : ET) (τ : Tau) (H : Heap) (h : zqh1_71_M Q E τ H) : vc Pr zqh1_p1 τ (zqh1_q1 Q E) E H :=
  (conv (B := vc Pr zqh1_p1 τ (zqh1_q1 Q E) E H) (by kernel_rfl) (vc_seq (K := (zqh1_67_M Q E)) (zqh1_72ok Q E τ H h) (zqh1_70ok Q E)))

@[reducible] noncomputable def zqh1_q17 (Q : QT) (E : ET) : Exit → Tau → Heap → Prop := (xthen (zqh1_71_M Q E) (zqh1_q1 Q E))

@[reducible] noncomputable def zqh1_p45 : Code := sA zqh1_p0

def zqh1 (Q : QT) (E : ET) (a0 : OA) (a1 : Int) (a2 : Int) (H : Heap) : Prop :=
 zqh1_71 Q E a0 a1 a2 H

theorem zqh1_fn (a0 : OA) (a1 : Int) (a2 : Int) (Q : QT) (E : ET) (H : Heap) (h : zqh1 Q E a0 a1 a2 H)   : Does Pr 83 #[(.pointer a0), (.int .i64 a1), (.int .i64 a2)] H Q E :=
  Fn_of_vc (fn := Try.f83) (c := zqh1_p0) (args := [(.pointer a0), (.int .i64 a1), (.int .i64 a2)]) mixed (by kernel_rfl) (by kernel_rfl) (by kernel_rfl) (by kernel_rfl) (by kernel_rfl) ((conv (B := vc Pr zqh1_p0 (argT [(.pointer a0), (.int .i64 a1), (.int .i64 a2)]) (zqh1_q1 Q E) E H) (by kernel_rfl) (vc_seq (K := (zqh1_71_M Q E)) (conv (B := vc Pr zqh1_p45 (argT [(.pointer a0), (.int .i64 a1), (.int .i64 a2)]) (zqh1_q17 Q E) E H) (by kernel_rfl) h) (zqh1_73ok Q E))))

/-! (*jobmux/auto.set).clear -/
@[reducible] noncomputable def zqi1_q1 (Q : QT) (E : ET) : Exit → Tau → Heap → Prop := (retQ Pr (Try.f92).results.toList Q)

@[reducible] noncomputable def zqi1_p0 : Code := bodyOf Try.f92

def zqi1 (Q : QT) (E : ET) (a0 : OA) (H : Heap) : Prop :=
 ptr a0 fun q1 =>
 ldSl (Addr.add q1 1) H fun p2 l3 c4 =>
 wrS p2 0 (rep l3 [(.bool false)]) H fun H5 =>
 ptr a0 fun q6 =>
 ldSl q6 H5 fun p7 l8 c9 =>
 (0 ≤ (0 : Int) ∧ (0 : Int) ≤ ((c9 : Nat) : Int)) ∧ ptr a0 fun q10 =>
 wr q10 [(.slice (if c9 = 0 then p7 else Option.map (fun a => Addr.add a (0 * 1)) p7) ((0 : Int).toNat - 0) (c9 - 0))] H5 fun H11 =>
 Q (.tuple #[]) H11

theorem zqi1_fn (a0 : OA) (Q : QT) (E : ET) (H : Heap) (h : zqi1 Q E a0 H)   : Does Pr 92 #[(.pointer a0)] H Q E :=
  Fn_of_vc (fn := Try.f92) (c := zqi1_p0) (args := [(.pointer a0)]) mixed (by kernel_rfl) (by kernel_rfl) (by kernel_rfl) (by kernel_rfl) (by kernel_rfl) ((conv (B := vc Pr zqi1_p0 (argT [(.pointer a0)]) (zqi1_q1 Q E) E H) (by kernel_rfl) h))

end Go.Proofs.Ytaffcoiomggpfaa
