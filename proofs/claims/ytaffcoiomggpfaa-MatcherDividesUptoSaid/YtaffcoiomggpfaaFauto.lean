import Derived.Test.YtaffcoiomggpfaaVPr
/- Printed by gen.py: the Go functions of package auto over a heap view, and that the model does so. -/
namespace Go.Proofs.Ytaffcoiomggpfaa
open Go.V
set_option linter.unusedVariables false
set_option maxRecDepth 100000
/-! jobmux/auto.Start -/
@[reducible] noncomputable def ui_q1 (Q : QT) (E : ET) : Exit → Tau → Heap → Prop := (retQ Pr (Try.f50).results.toList Q)

@[reducible] noncomputable def ui_p0 : Code := bodyOf Try.f50

def ui (Q : QT) (E : ET) (a0 : OA) (a0l : Nat) (a0c : Nat) (a1 : Bool) (a2 : Bool) (H : Heap) : Prop :=
 (0 ≤ (((a0l : Nat) : Int) : Int) ∧ (((a0l : Nat) : Int) : Int) ≤ ((a0l : Nat) : Int) ∧ (((a0l : Nat) : Int) : Int) ≤ 281474976710656 ∧ ((1 : Nat) : Int) * ((a0l : Nat) : Int) ≤ 281474976710656) ∧ nw (.cells (rep (((a0l : Nat) : Int) : Int).toNat [(.bool false)]).toArray 4 (0, 0)) H fun i1 H2 =>
 (0 ≤ (((a0l : Nat) : Int) : Int) ∧ (((a0l : Nat) : Int) : Int) ≤ ((a0l : Nat) : Int) ∧ (((a0l : Nat) : Int) : Int) ≤ 281474976710656 ∧ ((1 : Nat) : Int) * ((a0l : Nat) : Int) ≤ 281474976710656) ∧ nw (.cells (rep (((a0l : Nat) : Int) : Int).toNat [(.bool false)]).toArray 4 (0, 0)) H2 fun i3 H4 =>
 nw (.cells #[(.slice a0 a0l a0c), (.slice none 0 0), (.slice (some ⟨i1, 0, none⟩) (((a0l : Nat) : Int) : Int).toNat (((a0l : Nat) : Int) : Int).toNat), (.slice none 0 0), (.slice (some ⟨i3, 0, none⟩) (((a0l : Nat) : Int) : Int).toNat (((a0l : Nat) : Int) : Int).toNat), (.bool a1), (.bool a2), (.int .i64 0), (.int .i64 (-1))] 127 (0, 0)) H4 fun i5 H6 =>
 Does Pr 80 #[(.pointer (some ⟨i5, 1, none⟩)), (.int .i64 0)] H6 (fun v7 H8 =>
 Does Pr 81 #[(.pointer (some ⟨i5, 0, none⟩)), (.bool false)] H8 (fun v9 H10 =>
 ∃ b11 : Bool, v9 = (.bool b11) ∧ Q (.pointer (some ⟨i5, 0, none⟩)) H10) E) E

theorem ui_fn (a0 : OA) (a0l : Nat) (a0c : Nat) (a1 : Bool) (a2 : Bool) (Q : QT) (E : ET) (H : Heap) (h : ui Q E a0 a0l a0c a1 a2 H)   : Does Pr 50 #[(.slice a0 a0l a0c), (.bool a1), (.bool a2)] H Q E :=
  Fn_of_vc (fn := Try.f50) (c := ui_p0) (args := [(.slice a0 a0l a0c), (.bool a1), (.bool a2)]) mixed (by kernel_rfl) (by kernel_rfl) (by kernel_rfl) (by kernel_rfl) (by kernel_rfl) ((conv (B := vc Pr ui_p0 (argT [(.slice a0 a0l a0c), (.bool a1), (.bool a2)]) (ui_q1 Q E) E H) (by kernel_rfl) h))

/-! jobmux/auto.Build -/
@[reducible] noncomputable def uj_q1 (Q : QT) (E : ET) : Exit → Tau → Heap → Prop := (retQ Pr (Try.f51).results.toList Q)

@[reducible] noncomputable def uj_p0 : Code := bodyOf Try.f51

def uj (Q : QT) (E : ET) (a0 : OA) (a0l : Nat) (a0c : Nat) (H : Heap) : Prop :=
 nw (.cells #[(.slice a0 a0l a0c), (.slice none 0 0)] 132 (0, 0)) H fun i1 H2 =>
 Does Pr 82 #[(.pointer (some ⟨i1, 0, none⟩)), (.agg #[(.int .i64 2), (.int .i64 0), (.int .i64 0), (.int .u64 0), (.int .u64 0), (.int .u64 0), (.int .u64 0)])] H2 (fun v3 H4 =>
 ∃ n5 : Int, v3 = (.int .i64 n5) ∧ Does Pr 82 #[(.pointer (some ⟨i1, 0, none⟩)), (.agg #[(.int .i64 5), (.int .i64 0), (.int .i64 0), (.int .u64 0), (.int .u64 0), (.int .u64 0), (.int .u64 0)])] H4 (fun v6 H7 =>
 ∃ n8 : Int, v6 = (.int .i64 n8) ∧ Does Pr 83 #[(.pointer (some ⟨i1, 0, none⟩)), (.int .i64 (IntKind.wrap .i64 (((a0l : Nat) : Int) - 1))), (.int .i64 n8)] H7 (fun v9 H10 =>
 ∃ n11 : Int, v9 = (.int .i64 n11) ∧ ldSl ⟨i1, 1, none⟩ H10 fun p12 l13 c14 =>
 ldSl ⟨i1, 1, none⟩ H10 fun p15 l16 c17 =>
 (0 ≤ (0 : Int) ∧ (0 : Int) < ((l13 : Nat) : Int)) ∧ ptr p12 fun q18 =>
 wr (Addr.add q18 1) [(.int .i64 n11)] H10 fun H19 =>
 (0 ≤ (0 : Int) ∧ (0 : Int) < ((l16 : Nat) : Int)) ∧ ptr p15 fun q20 =>
 wr (Addr.add q20 2) [(.int .i64 n11)] H19 fun H21 =>
 ldSl ⟨i1, 1, none⟩ H21 fun p22 l23 c24 =>
 Q (.slice p22 l23 c24) H21) E) E) E

theorem uj_fn (a0 : OA) (a0l : Nat) (a0c : Nat) (Q : QT) (E : ET) (H : Heap) (h : uj Q E a0 a0l a0c H)   : Does Pr 51 #[(.slice a0 a0l a0c)] H Q E :=
  Fn_of_vc (fn := Try.f51) (c := uj_p0) (args := [(.slice a0 a0l a0c)]) mixed (by kernel_rfl) (by kernel_rfl) (by kernel_rfl) (by kernel_rfl) (by kernel_rfl) ((conv (B := vc Pr uj_p0 (argT [(.slice a0 a0l a0c)]) (uj_q1 Q E) E H) (by kernel_rfl) h))

/-! (*jobmux/auto.Machine).Feed -/
@[reducible] noncomputable def uk_q1 (Q : QT) (E : ET) : Exit → Tau → Heap → Prop := (retQ Pr (Try.f52).results.toList Q)

@[reducible] noncomputable def uk_p0 : Code := bodyOf Try.f52

@[reducible] noncomputable def uk_p1 : Code := sB uk_p0

@[reducible] noncomputable def uk_p2 : Code := sB uk_p1

def uk_1 (Q : QT) (E : ET) (x0 : OA) (H : Heap) : Prop :=
 Does Pr 79 #[(.pointer x0)] H (fun v15 H16 =>
 ∃ b17 : Bool, v15 = (.bool b17) ∧ Q (.bool b17) H16) E

def uk_1_M (Q : QT) (E : ET) (τ : Tau) (H : Heap) : Prop := mP (τ 0) fun x0 => uk_1 Q E x0 H

theorem uk_2ok (Q : QT) (E : ET) (τ : Tau) (H : Heap) (h : uk_1_M Q E τ H) : vc Pr uk_p2 τ (uk_q1 Q E) E H :=
  vP (i := 0) h (fun x0 h => (conv (by kernel_rfl) h))

@[reducible] noncomputable def uk_q2 (Q : QT) (E : ET) : Exit → Tau → Heap → Prop := (xthen (uk_1_M Q E) (uk_q1 Q E))

@[reducible] noncomputable def uk_p3 : Code := sA uk_p1

@[reducible] noncomputable def uk_p4 : Code := sB uk_p3

@[reducible] noncomputable def uk_q3 (Q : QT) (E : ET) : Exit → Tau → Heap → Prop := (xblock 0 (uk_q2 Q E))

@[reducible] noncomputable def uk_p5 : Code := sI uk_p4

@[reducible] noncomputable def uk_q4 (nx18 : Int → HP) (Q : QT) (E : ET) : Exit → Tau → Heap → Prop := (xthen (fun τ H => mI .i64 (τ 9) fun x9' => nx18 x9' H) (uk_q3 Q E))

@[reducible] noncomputable def uk_p6 : Code := sI uk_p5

@[reducible] noncomputable def uk_p7 : Code := sB uk_p6

@[reducible] noncomputable def uk_p8 : Code := sB uk_p7

@[reducible] noncomputable def uk_p9 : Code := sB uk_p8

def uk_3 (nx18 : Int → HP) (Q : QT) (E : ET) (x0 : OA) (x7 : OA) (l7 : Nat) (c7 : Nat) (x8 : Int) (x9 : Int) (H : Heap) : Prop :=
 nx18 (IntKind.wrap .i64 (x9 + 1)) H

def uk_3_M (nx18 : Int → HP) (Q : QT) (E : ET) (τ : Tau) (H : Heap) : Prop := mP (τ 0) fun x0 => mSl (τ 7) fun x7 l7 c7 => mI .i64 (τ 8) fun x8 => mI .i64 (τ 9) fun x9 => uk_3 nx18 Q E x0 x7 l7 c7 x8 x9 H

theorem uk_4ok (nx18 : Int → HP) (Q : QT) (E : ET) (τ : Tau) (H : Heap) (h : uk_3_M nx18 Q E τ H) : vc Pr uk_p9 τ (uk_q4 nx18 Q E) E H :=
  vP (i := 0) h (fun x0 h => vSl (i := 7) h (fun x7 l7 c7 h => vI (i := 8) h (fun x8 h => vI (i := 9) h (fun x9 h => (conv (by kernel_rfl) h)))))

@[reducible] noncomputable def uk_q5 (nx18 : Int → HP) (Q : QT) (E : ET) : Exit → Tau → Heap → Prop := (xthen (uk_3_M nx18 Q E) (uk_q4 nx18 Q E))

@[reducible] noncomputable def uk_p10 : Code := sA uk_p8

@[reducible] noncomputable def uk_q6 (nx18 : Int → HP) (Q : QT) (E : ET) : Exit → Tau → Heap → Prop := (xblock 1 (uk_q5 nx18 Q E))

@[reducible] noncomputable def uk_p11 : Code := sI uk_p10

@[reducible] noncomputable def uk_p12 : Code := sB uk_p11

@[reducible] noncomputable def uk_p13 : Code := sB uk_p12

@[reducible] noncomputable def uk_p14 : Code := sB uk_p13

def uk_5 (nx18 : Int → HP) (Q : QT) (E : ET) (x0 : OA) (x6 : Int) (x7 : OA) (l7 : Nat) (c7 : Nat) (x8 : Int) (x9 : Int) (H : Heap) : Prop :=
 Does Pr 59 #[(.pointer x0), (.int .u8 x6)] H (fun v45 H46 =>
 uk_3 nx18 Q E x0 x7 l7 c7 x8 x9 H46) E

def uk_5_M (nx18 : Int → HP) (Q : QT) (E : ET) (τ : Tau) (H : Heap) : Prop := mP (τ 0) fun x0 => mI .u8 (τ 6) fun x6 => mSl (τ 7) fun x7 l7 c7 => mI .i64 (τ 8) fun x8 => mI .i64 (τ 9) fun x9 => uk_5 nx18 Q E x0 x6 x7 l7 c7 x8 x9 H

theorem uk_6ok (nx18 : Int → HP) (Q : QT) (E : ET) (τ : Tau) (H : Heap) (h : uk_5_M nx18 Q E τ H) : vc Pr uk_p14 τ (uk_q6 nx18 Q E) E H :=
  vP (i := 0) h (fun x0 h => vI (i := 6) h (fun x6 h => vSl (i := 7) h (fun x7 l7 c7 h => vI (i := 8) h (fun x8 h => vI (i := 9) h (fun x9 h => (conv (by kernel_rfl) h))))))

@[reducible] noncomputable def uk_q7 (nx18 : Int → HP) (Q : QT) (E : ET) : Exit → Tau → Heap → Prop := (xthen (uk_5_M nx18 Q E) (uk_q6 nx18 Q E))

@[reducible] noncomputable def uk_p15 : Code := sA uk_p13

@[reducible] noncomputable def uk_p16 : Code := sB uk_p15

def uk_7 (nx18 : Int → HP) (Q : QT) (E : ET) (x0 : OA) (x6 : Int) (x7 : OA) (l7 : Nat) (c7 : Nat) (x8 : Int) (x9 : Int) (x20 : Bool) (H : Heap) : Prop :=
 sel x20
 (ptr x0 fun q50 =>
 ldI .i64 (Addr.add q50 7) H fun n51 =>
 ptr x0 fun q52 =>
 wr (Addr.add q52 8) [(.int .i64 (IntKind.wrap .i64 (n51 + 1)))] H fun H53 =>
 uk_1 Q E x0 H53)
 (uk_5 nx18 Q E x0 x6 x7 l7 c7 x8 x9 H)

def uk_7_M (nx18 : Int → HP) (Q : QT) (E : ET) (τ : Tau) (H : Heap) : Prop := mP (τ 0) fun x0 => mI .u8 (τ 6) fun x6 => mSl (τ 7) fun x7 l7 c7 => mI .i64 (τ 8) fun x8 => mI .i64 (τ 9) fun x9 => mB (τ 20) fun x20 => uk_7 nx18 Q E x0 x6 x7 l7 c7 x8 x9 x20 H

theorem uk_8ok (nx18 : Int → HP) (Q : QT) (E : ET) (τ : Tau) (H : Heap) (h : uk_7_M nx18 Q E τ H) : vc Pr uk_p16 τ (uk_q7 nx18 Q E) E H :=
  vP (i := 0) h (fun x0 h => vI (i := 6) h (fun x6 h => vSl (i := 7) h (fun x7 l7 c7 h => vI (i := 8) h (fun x8 h => vI (i := 9) h (fun x9 h => vB (i := 20) h (fun x20 h => (conv (by kernel_rfl) h)))))))

@[reducible] noncomputable def uk_q8 (nx18 : Int → HP) (Q : QT) (E : ET) : Exit → Tau → Heap → Prop := (xthen (uk_7_M nx18 Q E) (uk_q7 nx18 Q E))

@[reducible] noncomputable def uk_p17 : Code := sA uk_p15

def uk_9 (nx18 : Int → HP) (Q : QT) (E : ET) (x0 : OA) (x6 : Int) (x7 : OA) (l7 : Nat) (c7 : Nat) (x8 : Int) (x9 : Int) (H : Heap) : Prop :=
 sel ((x6 : Int) == 10)
 (Does Pr 81 #[(.pointer x0), (.bool true)] H (fun v54 H55 =>
 ∃ b56 : Bool, v54 = (.bool b56) ∧ uk_7 nx18 Q E x0 x6 x7 l7 c7 x8 x9 b56 H55) E)
 (uk_7 nx18 Q E x0 x6 x7 l7 c7 x8 x9 false H)

def uk_9_M (nx18 : Int → HP) (Q : QT) (E : ET) (τ : Tau) (H : Heap) : Prop := mP (τ 0) fun x0 => mI .u8 (τ 6) fun x6 => mSl (τ 7) fun x7 l7 c7 => mI .i64 (τ 8) fun x8 => mI .i64 (τ 9) fun x9 => uk_9 nx18 Q E x0 x6 x7 l7 c7 x8 x9 H

theorem uk_10ok (nx18 : Int → HP) (Q : QT) (E : ET) (τ : Tau) (H : Heap) (h : uk_9_M nx18 Q E τ H) : vc Pr uk_p17 τ (uk_q8 nx18 Q E) E H :=
  vP (i := 0) h (fun x0 h => vI (i := 6) h (fun x6 h => vSl (i := 7) h (fun x7 l7 c7 h => vI (i := 8) h (fun x8 h => vI (i := 9) h (fun x9 h => (conv (by kernel_rfl) h))))))

theorem uk_11ok (nx18 : Int → HP) (Q : QT) (E : ET) (τ : Tau) (H : Heap) (h : uk_9_M nx18 Q E τ H) : vc Pr uk_p15 τ (uk_q7 nx18 Q E) E H :=
  (conv (B := vc Pr uk_p15 τ (uk_q7 nx18 Q E) E H) (by kernel_rfl) (vc_seq (K := (uk_7_M nx18 Q E)) (uk_10ok nx18 Q E τ H h) (uk_8ok nx18 Q E)))

theorem uk_12ok (nx18 : Int → HP) (Q : QT) (E : ET) (τ : Tau) (H : Heap) (h : uk_9_M nx18 Q E τ H) : vc Pr uk_p13 τ (uk_q6 nx18 Q E) E H :=
  (conv (B := vc Pr uk_p13 τ (uk_q6 nx18 Q E) E H) (by kernel_rfl) (vc_seq (K := (uk_5_M nx18 Q E)) (uk_11ok nx18 Q E τ H h) (uk_6ok nx18 Q E)))

@[reducible] noncomputable def uk_q9 (nx18 : Int → HP) (Q : QT) (E : ET) : Exit → Tau → Heap → Prop := (xthen (uk_9_M nx18 Q E) (uk_q6 nx18 Q E))

@[reducible] noncomputable def uk_p18 : Code := sA uk_p12

def uk_13 (nx18 : Int → HP) (Q : QT) (E : ET) (x0 : OA) (x6 : Int) (x7 : OA) (l7 : Nat) (c7 : Nat) (x8 : Int) (x9 : Int) (H : Heap) : Prop :=
 Does Pr 79 #[(.pointer x0)] H (fun v57 H58 =>
 ∃ b59 : Bool, v57 = (.bool b59) ∧ sel b59
 (uk_1 Q E x0 H58)
 (uk_9 nx18 Q E x0 x6 x7 l7 c7 x8 x9 H58)) E

def uk_13_M (nx18 : Int → HP) (Q : QT) (E : ET) (τ : Tau) (H : Heap) : Prop := mP (τ 0) fun x0 => mI .u8 (τ 6) fun x6 => mSl (τ 7) fun x7 l7 c7 => mI .i64 (τ 8) fun x8 => mI .i64 (τ 9) fun x9 => uk_13 nx18 Q E x0 x6 x7 l7 c7 x8 x9 H

theorem uk_14ok (nx18 : Int → HP) (Q : QT) (E : ET) (τ : Tau) (H : Heap) (h : uk_13_M nx18 Q E τ H) : vc Pr uk_p18 τ (uk_q9 nx18 Q E) E H :=
  vP (i := 0) h (fun x0 h => vI (i := 6) h (fun x6 h => vSl (i := 7) h (fun x7 l7 c7 h => vI (i := 8) h (fun x8 h => vI (i := 9) h (fun x9 h => (conv (by kernel_rfl) h))))))

theorem uk_15ok (nx18 : Int → HP) (Q : QT) (E : ET) (τ : Tau) (H : Heap) (h : uk_13_M nx18 Q E τ H) : vc Pr uk_p12 τ (uk_q6 nx18 Q E) E H :=
  (conv (B := vc Pr uk_p12 τ (uk_q6 nx18 Q E) E H) (by kernel_rfl) (vc_seq (K := (uk_9_M nx18 Q E)) (uk_14ok nx18 Q E τ H h) (uk_12ok nx18 Q E)))

@[reducible] noncomputable def uk_q10 (nx18 : Int → HP) (Q : QT) (E : ET) : Exit → Tau → Heap → Prop := (xthen (uk_13_M nx18 Q E) (uk_q6 nx18 Q E))

@[reducible] noncomputable def uk_p19 : Code := sA uk_p11

def uk_16 (nx18 : Int → HP) (Q : QT) (E : ET) (x0 : OA) (x7 : OA) (l7 : Nat) (c7 : Nat) (x8 : Int) (x9 : Int) (H : Heap) : Prop :=
 (0 ≤ (x9 : Int) ∧ (x9 : Int) < ((l7 : Nat) : Int)) ∧ ptr x7 fun q60 =>
 ldI .u8 (Addr.add q60 ((x9 : Int).toNat * 1)) H fun n61 =>
 uk_13 nx18 Q E x0 n61 x7 l7 c7 x8 x9 H

def uk_16_M (nx18 : Int → HP) (Q : QT) (E : ET) (τ : Tau) (H : Heap) : Prop := mP (τ 0) fun x0 => mSl (τ 7) fun x7 l7 c7 => mI .i64 (τ 8) fun x8 => mI .i64 (τ 9) fun x9 => uk_16 nx18 Q E x0 x7 l7 c7 x8 x9 H

theorem uk_17ok (nx18 : Int → HP) (Q : QT) (E : ET) (τ : Tau) (H : Heap) (h : uk_16_M nx18 Q E τ H) : vc Pr uk_p19 τ (uk_q10 nx18 Q E) E H :=
  vP (i := 0) h (fun x0 h => vSl (i := 7) h (fun x7 l7 c7 h => vI (i := 8) h (fun x8 h => vI (i := 9) h (fun x9 h => (conv (by kernel_rfl) h)))))

theorem uk_18ok (nx18 : Int → HP) (Q : QT) (E : ET) (τ : Tau) (H : Heap) (h : uk_16_M nx18 Q E τ H) : vc Pr uk_p11 τ (uk_q6 nx18 Q E) E H :=
  (conv (B := vc Pr uk_p11 τ (uk_q6 nx18 Q E) E H) (by kernel_rfl) (vc_seq (K := (uk_13_M nx18 Q E)) (uk_17ok nx18 Q E τ H h) (uk_15ok nx18 Q E)))

theorem uk_19ok (nx18 : Int → HP) (Q : QT) (E : ET) (τ : Tau) (H : Heap) (h : uk_16_M nx18 Q E τ H) : vc Pr uk_p10 τ (uk_q5 nx18 Q E) E H :=
  (conv (B := vc Pr uk_p10 τ (uk_q5 nx18 Q E) E H) (by kernel_rfl) (uk_18ok nx18 Q E τ H h))

theorem uk_20ok (nx18 : Int → HP) (Q : QT) (E : ET) (τ : Tau) (H : Heap) (h : uk_16_M nx18 Q E τ H) : vc Pr uk_p8 τ (uk_q4 nx18 Q E) E H :=
  (conv (B := vc Pr uk_p8 τ (uk_q4 nx18 Q E) E H) (by kernel_rfl) (vc_seq (K := (uk_3_M nx18 Q E)) (uk_19ok nx18 Q E τ H h) (uk_4ok nx18 Q E)))

@[reducible] noncomputable def uk_q11 (nx18 : Int → HP) (Q : QT) (E : ET) : Exit → Tau → Heap → Prop := (xthen (uk_16_M nx18 Q E) (uk_q4 nx18 Q E))

@[reducible] noncomputable def uk_p20 : Code := sA uk_p7

def uk_21 (nx18 : Int → HP) (Q : QT) (E : ET) (x0 : OA) (x7 : OA) (l7 : Nat) (c7 : Nat) (x8 : Int) (x9 : Int) (x10 : Bool) (H : Heap) : Prop :=
 sel x10
 (uk_16 nx18 Q E x0 x7 l7 c7 x8 x9 H)
 (uk_1 Q E x0 H)

def uk_21_M (nx18 : Int → HP) (Q : QT) (E : ET) (τ : Tau) (H : Heap) : Prop := mP (τ 0) fun x0 => mSl (τ 7) fun x7 l7 c7 => mI .i64 (τ 8) fun x8 => mI .i64 (τ 9) fun x9 => mB (τ 10) fun x10 => uk_21 nx18 Q E x0 x7 l7 c7 x8 x9 x10 H

theorem uk_22ok (nx18 : Int → HP) (Q : QT) (E : ET) (τ : Tau) (H : Heap) (h : uk_21_M nx18 Q E τ H) : vc Pr uk_p20 τ (uk_q11 nx18 Q E) E H :=
  vP (i := 0) h (fun x0 h => vSl (i := 7) h (fun x7 l7 c7 h => vI (i := 8) h (fun x8 h => vI (i := 9) h (fun x9 h => vB (i := 10) h (fun x10 h => (conv (by kernel_rfl) h))))))

theorem uk_23ok (nx18 : Int → HP) (Q : QT) (E : ET) (τ : Tau) (H : Heap) (h : uk_21_M nx18 Q E τ H) : vc Pr uk_p7 τ (uk_q4 nx18 Q E) E H :=
  (conv (B := vc Pr uk_p7 τ (uk_q4 nx18 Q E) E H) (by kernel_rfl) (vc_seq (K := (uk_16_M nx18 Q E)) (uk_22ok nx18 Q E τ H h) (uk_20ok nx18 Q E)))

@[reducible] noncomputable def uk_q12 (nx18 : Int → HP) (Q : QT) (E : ET) : Exit → Tau → Heap → Prop := (xthen (uk_21_M nx18 Q E) (uk_q4 nx18 Q E))

@[reducible] noncomputable def uk_p21 : Code := sA uk_p6

def uk_24 (nx18 : Int → HP) (Q : QT) (E : ET) (x0 : OA) (x7 : OA) (l7 : Nat) (c7 : Nat) (x8 : Int) (x9 : Int) (H : Heap) : Prop :=
 uk_21 nx18 Q E x0 x7 l7 c7 x8 x9 (decide ((x9 : Int) < x8)) H

def uk_24_M (nx18 : Int → HP) (Q : QT) (E : ET) (τ : Tau) (H : Heap) : Prop := mP (τ 0) fun x0 => mSl (τ 7) fun x7 l7 c7 => mI .i64 (τ 8) fun x8 => mI .i64 (τ 9) fun x9 => uk_24 nx18 Q E x0 x7 l7 c7 x8 x9 H

theorem uk_25ok (nx18 : Int → HP) (Q : QT) (E : ET) (τ : Tau) (H : Heap) (h : uk_24_M nx18 Q E τ H) : vc Pr uk_p21 τ (uk_q12 nx18 Q E) E H :=
  vP (i := 0) h (fun x0 h => vSl (i := 7) h (fun x7 l7 c7 h => vI (i := 8) h (fun x8 h => vI (i := 9) h (fun x9 h => (conv (by kernel_rfl) h)))))

theorem uk_26ok (nx18 : Int → HP) (Q : QT) (E : ET) (τ : Tau) (H : Heap) (h : uk_24_M nx18 Q E τ H) : vc Pr uk_p6 τ (uk_q4 nx18 Q E) E H :=
  (conv (B := vc Pr uk_p6 τ (uk_q4 nx18 Q E) E H) (by kernel_rfl) (vc_seq (K := (uk_21_M nx18 Q E)) (uk_25ok nx18 Q E τ H h) (uk_23ok nx18 Q E)))

def uk_27 (Q : QT) (E : ET) (x0 : OA) (x7 : OA) (l7 : Nat) (c7 : Nat) (x8 : Int) (x9 : Int) (H : Heap) : Prop :=
 ∃ (I : Int → HP) (μ : Int → Heap → Nat), I x9 H ∧ ∀ (x9 : Int) (H : Heap), I x9 H →
 uk_24 (fun x9' H1 => I x9' H1 ∧ μ x9' H1 < μ x9 H) Q E x0 x7 l7 c7 x8 x9 H

def uk_27_M (Q : QT) (E : ET) (τ : Tau) (H : Heap) : Prop := mP (τ 0) fun x0 => mSl (τ 7) fun x7 l7 c7 => mI .i64 (τ 8) fun x8 => mI .i64 (τ 9) fun x9 => uk_27 Q E x0 x7 l7 c7 x8 x9 H

theorem uk_28ok (Q : QT) (E : ET) (τ : Tau) (H : Heap) (h : uk_27_M Q E τ H) : vc Pr uk_p5 τ (uk_q3 Q E) E H :=
  vP (i := 0) h (fun x0 h => vSl (i := 7) h (fun x7 l7 c7 h => vI (i := 8) h (fun x8 h => vI (i := 9) h (fun x9 h => match h with | ⟨I, μ, h0, hr⟩ => (conv (B := vc Pr uk_p5 (Tau.upd (Tau.upd (Tau.upd (Tau.upd τ 0 (.pointer x0)) 7 (.slice x7 l7 c7)) 8 (.int .i64 x8)) 9 (.int .i64 x9)) (uk_q3 Q E) E H) (by kernel_rfl) (vc_loop (c := sI uk_p5) (τ := (Tau.upd (Tau.upd (Tau.upd (Tau.upd τ 0 (.pointer x0)) 7 (.slice x7 l7 c7)) 8 (.int .i64 x8)) 9 (.int .i64 x9))) [0, 7, 8] (fun τ H => mI .i64 (τ 9) fun x9' => I x9' H) (fun τ H => μ (gI (τ 9)) H) (by kernel_rfl) h0 (fun τ1 H1 hf hI => fix_elim (τ := τ1) (i := 0) (v := (.pointer x0)) (G := fun τ => vc Pr (sI uk_p5) τ (xthen (fun τ2 H2 => (mI .i64 (τ2 9) fun x9' => I x9' H2) ∧ μ (gI (τ2 9)) H2 < μ (gI (τ 9)) H1) (uk_q3 Q E)) E H1) (hf 0 (by simp)) (fix_elim (τ := (Tau.upd τ1 0 (.pointer x0))) (i := 7) (v := (.slice x7 l7 c7)) (G := fun τ => vc Pr (sI uk_p5) τ (xthen (fun τ2 H2 => (mI .i64 (τ2 9) fun x9' => I x9' H2) ∧ μ (gI (τ2 9)) H2 < μ (gI (τ 9)) H1) (uk_q3 Q E)) E H1) (hf 7 (by simp)) (fix_elim (τ := (Tau.upd (Tau.upd τ1 0 (.pointer x0)) 7 (.slice x7 l7 c7))) (i := 8) (v := (.int .i64 x8)) (G := fun τ => vc Pr (sI uk_p5) τ (xthen (fun τ2 H2 => (mI .i64 (τ2 9) fun x9' => I x9' H2) ∧ μ (gI (τ2 9)) H2 < μ (gI (τ 9)) H1) (uk_q3 Q E)) E H1) (hf 8 (by simp)) (mI_elim (i := 9) (G := fun τ => vc Pr (sI uk_p5) τ (xthen (fun τ2 H2 => (mI .i64 (τ2 9) fun x9' => I x9' H2) ∧ μ (gI (τ2 9)) H2 < μ (gI (τ 9)) H1) (uk_q3 Q E)) E H1) hI (fun x9r h => (conv (B := vc Pr (sI uk_p5) (Tau.upd (Tau.upd (Tau.upd (Tau.upd τ1 0 (.pointer x0)) 7 (.slice x7 l7 c7)) 8 (.int .i64 x8)) 9 (.int .i64 x9r)) (xthen (fun τ2 H2 => (mI .i64 (τ2 9) fun x9' => I x9' H2) ∧ μ (gI (τ2 9)) H2 < μ (gI ((Tau.upd (Tau.upd (Tau.upd (Tau.upd τ1 0 (.pointer x0)) 7 (.slice x7 l7 c7)) 8 (.int .i64 x8)) 9 (.int .i64 x9r)) 9)) H1) (uk_q3 Q E)) E H1) (by kernel_rfl) (vc_xthen (uk_26ok (fun x9' H2 => I x9' H2 ∧ μ x9' H2 < μ x9r H1) Q E (Tau.upd (Tau.upd (Tau.upd (Tau.upd τ1 0 (.pointer x0)) 7 (.slice x7 l7 c7)) 8 (.int .i64 x8)) 9 (.int .i64 x9r)) H1 (conv (B := uk_24_M (fun x9' H2 => I x9' H2 ∧ μ x9' H2 < μ x9r H1) Q E (Tau.upd (Tau.upd (Tau.upd (Tau.upd τ1 0 (.pointer x0)) 7 (.slice x7 l7 c7)) 8 (.int .i64 x8)) 9 (.int .i64 x9r)) H1) (by kernel_rfl) (hr x9r H1 h))) (fun τ2 H2 hk => mI_elim (i := 9) (G := fun τ => (mI .i64 (τ 9) fun x9' => I x9' H2) ∧ μ (gI (τ 9)) H2 < μ x9r H1) hk (fun x9' h => h)))))))))))))))

theorem uk_29ok (Q : QT) (E : ET) (τ : Tau) (H : Heap) (h : uk_27_M Q E τ H) : vc Pr uk_p4 τ (uk_q2 Q E) E H :=
  (conv (B := vc Pr uk_p4 τ (uk_q2 Q E) E H) (by kernel_rfl) (uk_28ok Q E τ H h))

@[reducible] noncomputable def uk_q13 (Q : QT) (E : ET) : Exit → Tau → Heap → Prop := (xthen (uk_27_M Q E) (uk_q2 Q E))

@[reducible] noncomputable def uk_p22 : Code := sA uk_p3

def uk_30 (Q : QT) (E : ET) (x0 : OA) (x1 : OA) (l1 : Nat) (c1 : Nat) (H : Heap) : Prop :=
 uk_27 Q E x0 x1 l1 c1 ((l1 : Nat) : Int) 0 H

def uk_30_M (Q : QT) (E : ET) (τ : Tau) (H : Heap) : Prop := mP (τ 0) fun x0 => mSl (τ 1) fun x1 l1 c1 => uk_30 Q E x0 x1 l1 c1 H

theorem uk_31ok (Q : QT) (E : ET) (τ : Tau) (H : Heap) (h : uk_30_M Q E τ H) : vc Pr uk_p22 τ (uk_q13 Q E) E H :=
  vP (i := 0) h (fun x0 h => vSl (i := 1) h (fun x1 l1 c1 h => (conv (by kernel_rfl) h)))

theorem uk_32ok (Q : QT) (E : ET) (τ : Tau) (H : Heap) (h : uk_30_M Q E τ H) : vc Pr uk_p3 τ (uk_q2 Q E) E H :=
  (conv (B := vc Pr uk_p3 τ (uk_q2 Q E) E H) (by kernel_rfl) (vc_seq (K := (uk_27_M Q E)) (uk_31ok Q E τ H h) (uk_29ok Q E)))

theorem uk_33ok (Q : QT) (E : ET) (τ : Tau) (H : Heap) (h : uk_30_M Q E τ H) : vc Pr uk_p1 τ (uk_q1 Q E) E H :=
  (conv (B := vc Pr uk_p1 τ (uk_q1 Q E) E H) (by kernel_rfl) (vc_seq (K := (uk_1_M Q E)) (uk_32ok Q E τ H h) (uk_2ok Q E)))

@[reducible] noncomputable def uk_q14 (Q : QT) (E : ET) : Exit → Tau → Heap → Prop := (xthen (uk_30_M Q E) (uk_q1 Q E))

@[reducible] noncomputable def uk_p23 : Code := sA uk_p0

def uk (Q : QT) (E : ET) (a0 : OA) (a1 : OA) (a1l : Nat) (a1c : Nat) (H : Heap) : Prop :=
 uk_30 Q E a0 a1 a1l a1c H

theorem uk_fn (a0 : OA) (a1 : OA) (a1l : Nat) (a1c : Nat) (Q : QT) (E : ET) (H : Heap) (h : uk Q E a0 a1 a1l a1c H)   : Does Pr 52 #[(.pointer a0), (.slice a1 a1l a1c)] H Q E :=
  Fn_of_vc (fn := Try.f52) (c := uk_p0) (args := [(.pointer a0), (.slice a1 a1l a1c)]) mixed (by kernel_rfl) (by kernel_rfl) (by kernel_rfl) (by kernel_rfl) (by kernel_rfl) ((conv (B := vc Pr uk_p0 (argT [(.pointer a0), (.slice a1 a1l a1c)]) (uk_q1 Q E) E H) (by kernel_rfl) (vc_seq (K := (uk_30_M Q E)) (conv (B := vc Pr uk_p23 (argT [(.pointer a0), (.slice a1 a1l a1c)]) (uk_q14 Q E) E H) (by kernel_rfl) h) (uk_33ok Q E))))

/-! (*jobmux/auto.Machine).Found -/
@[reducible] noncomputable def ul_q1 (Q : QT) (E : ET) : Exit → Tau → Heap → Prop := (retQ Pr (Try.f53).results.toList Q)

@[reducible] noncomputable def ul_p0 : Code := bodyOf Try.f53

def ul (Q : QT) (E : ET) (a0 : OA) (H : Heap) : Prop :=
 Does Pr 79 #[(.pointer a0)] H (fun v1 H2 =>
 ∃ b3 : Bool, v1 = (.bool b3) ∧ ptr a0 fun q4 =>
 ldI .i64 (Addr.add q4 8) H2 fun n5 =>
 Q (.int .i64 n5) H2) E

theorem ul_fn (a0 : OA) (Q : QT) (E : ET) (H : Heap) (h : ul Q E a0 H)   : Does Pr 53 #[(.pointer a0)] H Q E :=
  Fn_of_vc (fn := Try.f53) (c := ul_p0) (args := [(.pointer a0)]) mixed (by kernel_rfl) (by kernel_rfl) (by kernel_rfl) (by kernel_rfl) (by kernel_rfl) ((conv (B := vc Pr ul_p0 (argT [(.pointer a0)]) (ul_q1 Q E) E H) (by kernel_rfl) h))

/-! (*jobmux/auto.Machine).Here -/
@[reducible] noncomputable def um_q1 (Q : QT) (E : ET) : Exit → Tau → Heap → Prop := (retQ Pr (Try.f58).results.toList Q)

@[reducible] noncomputable def um_p0 : Code := bodyOf Try.f58

def um (Q : QT) (E : ET) (a0 : OA) (a1 : OA) (a1l : Nat) (a1c : Nat) (H : Heap) : Prop :=
 sel (decide ((((a1l : Nat) : Int) : Int) > 0))
 ((0 ≤ (0 : Int) ∧ (0 : Int) < ((a1l : Nat) : Int)) ∧ ptr a1 fun q1 =>
 ldI .u8 q1 H fun n2 =>
 Does Pr 81 #[(.pointer a0), (.bool ((n2 : Int) == 10))] H (fun v3 H4 =>
 ∃ b5 : Bool, v3 = (.bool b5) ∧ Q (.bool b5) H4) E)
 (Does Pr 81 #[(.pointer a0), (.bool false)] H (fun v6 H7 =>
 ∃ b8 : Bool, v6 = (.bool b8) ∧ Q (.bool b8) H7) E)

theorem um_fn (a0 : OA) (a1 : OA) (a1l : Nat) (a1c : Nat) (Q : QT) (E : ET) (H : Heap) (h : um Q E a0 a1 a1l a1c H)   : Does Pr 58 #[(.pointer a0), (.slice a1 a1l a1c)] H Q E :=
  Fn_of_vc (fn := Try.f58) (c := um_p0) (args := [(.pointer a0), (.slice a1 a1l a1c)]) mixed (by kernel_rfl) (by kernel_rfl) (by kernel_rfl) (by kernel_rfl) (by kernel_rfl) ((conv (B := vc Pr um_p0 (argT [(.pointer a0), (.slice a1 a1l a1c)]) (um_q1 Q E) E H) (by kernel_rfl) h))

/-! (*jobmux/auto.Machine).Read -/
@[reducible] noncomputable def un_q1 (Q : QT) (E : ET) : Exit → Tau → Heap → Prop := (retQ Pr (Try.f59).results.toList Q)

@[reducible] noncomputable def un_p0 : Code := bodyOf Try.f59

@[reducible] noncomputable def un_p1 : Code := sB un_p0

@[reducible] noncomputable def un_p2 : Code := sB un_p1

@[reducible] noncomputable def un_p3 : Code := sB un_p2

@[reducible] noncomputable def un_p4 : Code := sB un_p3

@[reducible] noncomputable def un_p5 : Code := sB un_p4

@[reducible] noncomputable def un_p6 : Code := sB un_p5

def un_1 (Q : QT) (E : ET) (x0 : OA) (H : Heap) : Prop :=
 Does Pr 81 #[(.pointer x0), (.bool false)] H (fun v60 H61 =>
 ∃ b62 : Bool, v60 = (.bool b62) ∧ Q (.tuple #[]) H61) E

def un_1_M (Q : QT) (E : ET) (τ : Tau) (H : Heap) : Prop := mP (τ 0) fun x0 => un_1 Q E x0 H

theorem un_2ok (Q : QT) (E : ET) (τ : Tau) (H : Heap) (h : un_1_M Q E τ H) : vc Pr un_p6 τ (un_q1 Q E) E H :=
  vP (i := 0) h (fun x0 h => (conv (by kernel_rfl) h))

@[reducible] noncomputable def un_q2 (Q : QT) (E : ET) : Exit → Tau → Heap → Prop := (xthen (un_1_M Q E) (un_q1 Q E))

@[reducible] noncomputable def un_p7 : Code := sA un_p5

def un_3 (Q : QT) (E : ET) (x0 : OA) (H : Heap) : Prop :=
 ptr x0 fun q63 =>
 ldB (Addr.add q63 5) H fun b64 =>
 sel (!b64)
 (ptr x0 fun q65 =>
 Does Pr 80 #[(.pointer (some (Addr.add q65 1))), (.int .i64 0)] H (fun v66 H67 =>
 un_1 Q E x0 H67) E)
 (un_1 Q E x0 H)

def un_3_M (Q : QT) (E : ET) (τ : Tau) (H : Heap) : Prop := mP (τ 0) fun x0 => un_3 Q E x0 H

theorem un_4ok (Q : QT) (E : ET) (τ : Tau) (H : Heap) (h : un_3_M Q E τ H) : vc Pr un_p7 τ (un_q2 Q E) E H :=
  vP (i := 0) h (fun x0 h => (conv (by kernel_rfl) h))

theorem un_5ok (Q : QT) (E : ET) (τ : Tau) (H : Heap) (h : un_3_M Q E τ H) : vc Pr un_p5 τ (un_q1 Q E) E H :=
  (conv (B := vc Pr un_p5 τ (un_q1 Q E) E H) (by kernel_rfl) (vc_seq (K := (un_1_M Q E)) (un_4ok Q E τ H h) (un_2ok Q E)))

@[reducible] noncomputable def un_q3 (Q : QT) (E : ET) : Exit → Tau → Heap → Prop := (xthen (un_3_M Q E) (un_q1 Q E))

@[reducible] noncomputable def un_p8 : Code := sA un_p4

def un_6 (Q : QT) (E : ET) (x0 : OA) (x1 : Int) (H : Heap) : Prop :=
 ptr x0 fun q68 =>
 wr (Addr.add q68 6) [(.bool ((x1 : Int) == 10))] H fun H69 =>
 un_3 Q E x0 H69

def un_6_M (Q : QT) (E : ET) (τ : Tau) (H : Heap) : Prop := mP (τ 0) fun x0 => mI .u8 (τ 1) fun x1 => un_6 Q E x0 x1 H

theorem un_7ok (Q : QT) (E : ET) (τ : Tau) (H : Heap) (h : un_6_M Q E τ H) : vc Pr un_p8 τ (un_q3 Q E) E H :=
  vP (i := 0) h (fun x0 h => vI (i := 1) h (fun x1 h => (conv (by kernel_rfl) h)))

theorem un_8ok (Q : QT) (E : ET) (τ : Tau) (H : Heap) (h : un_6_M Q E τ H) : vc Pr un_p4 τ (un_q1 Q E) E H :=
  (conv (B := vc Pr un_p4 τ (un_q1 Q E) E H) (by kernel_rfl) (vc_seq (K := (un_3_M Q E)) (un_7ok Q E τ H h) (un_5ok Q E)))

@[reducible] noncomputable def un_q4 (Q : QT) (E : ET) : Exit → Tau → Heap → Prop := (xthen (un_6_M Q E) (un_q1 Q E))

@[reducible] noncomputable def un_p9 : Code := sA un_p3

def un_9 (Q : QT) (E : ET) (x0 : OA) (x1 : Int) (H : Heap) : Prop :=
 ptr x0 fun q70 =>
 ldI .i64 (Addr.add q70 7) H fun n71 =>
 ptr x0 fun q72 =>
 wr (Addr.add q72 7) [(.int .i64 (IntKind.wrap .i64 (n71 + 1)))] H fun H73 =>
 un_6 Q E x0 x1 H73

def un_9_M (Q : QT) (E : ET) (τ : Tau) (H : Heap) : Prop := mP (τ 0) fun x0 => mI .u8 (τ 1) fun x1 => un_9 Q E x0 x1 H

theorem un_10ok (Q : QT) (E : ET) (τ : Tau) (H : Heap) (h : un_9_M Q E τ H) : vc Pr un_p9 τ (un_q4 Q E) E H :=
  vP (i := 0) h (fun x0 h => vI (i := 1) h (fun x1 h => (conv (by kernel_rfl) h)))

theorem un_11ok (Q : QT) (E : ET) (τ : Tau) (H : Heap) (h : un_9_M Q E τ H) : vc Pr un_p3 τ (un_q1 Q E) E H :=
  (conv (B := vc Pr un_p3 τ (un_q1 Q E) E H) (by kernel_rfl) (vc_seq (K := (un_6_M Q E)) (un_10ok Q E τ H h) (un_8ok Q E)))

@[reducible] noncomputable def un_q5 (Q : QT) (E : ET) : Exit → Tau → Heap → Prop := (xthen (un_9_M Q E) (un_q1 Q E))

@[reducible] noncomputable def un_p10 : Code := sA un_p2

def un_12 (Q : QT) (E : ET) (x0 : OA) (x1 : Int) (H : Heap) : Prop :=
 ptr x0 fun q74 =>
 ∃ (p75 : OA) (l76 c77 : Nat), ∃ (p78 : OA) (l79 c80 : Nat), Heap.rd H (Addr.add q74 3) 0 [(.slice p75 l76 c77), (.slice p78 l79 c80)] ∧ ptr x0 fun q81 =>
 ∃ (p82 : OA) (l83 c84 : Nat), ∃ (p85 : OA) (l86 c87 : Nat), Heap.rd H (Addr.add q81 1) 0 [(.slice p82 l83 c84), (.slice p85 l86 c87)] ∧ ptr x0 fun q88 =>
 wr (Addr.add q88 1) [(.slice p75 l76 c77), (.slice p78 l79 c80)] H fun H89 =>
 ptr x0 fun q90 =>
 wr (Addr.add q90 3) [(.slice p82 l83 c84), (.slice p85 l86 c87)] H89 fun H91 =>
 un_9 Q E x0 x1 H91

def un_12_M (Q : QT) (E : ET) (τ : Tau) (H : Heap) : Prop := mP (τ 0) fun x0 => mI .u8 (τ 1) fun x1 => un_12 Q E x0 x1 H

theorem un_13ok (Q : QT) (E : ET) (τ : Tau) (H : Heap) (h : un_12_M Q E τ H) : vc Pr un_p10 τ (un_q5 Q E) E H :=
  vP (i := 0) h (fun x0 h => vI (i := 1) h (fun x1 h => (conv (by kernel_rfl) h)))

theorem un_14ok (Q : QT) (E : ET) (τ : Tau) (H : Heap) (h : un_12_M Q E τ H) : vc Pr un_p2 τ (un_q1 Q E) E H :=
  (conv (B := vc Pr un_p2 τ (un_q1 Q E) E H) (by kernel_rfl) (vc_seq (K := (un_9_M Q E)) (un_13ok Q E τ H h) (un_11ok Q E)))

@[reducible] noncomputable def un_q6 (Q : QT) (E : ET) : Exit → Tau → Heap → Prop := (xthen (un_12_M Q E) (un_q1 Q E))

@[reducible] noncomputable def un_p11 : Code := sA un_p1

@[reducible] noncomputable def un_p12 : Code := sB un_p11

@[reducible] noncomputable def un_q7 (Q : QT) (E : ET) : Exit → Tau → Heap → Prop := (xblock 0 (un_q6 Q E))

@[reducible] noncomputable def un_p13 : Code := sI un_p12

@[reducible] noncomputable def un_q8 (nx96 : Int → HP) (Q : QT) (E : ET) : Exit → Tau → Heap → Prop := (xthen (fun τ H => mI .i64 (τ 17) fun x17' => nx96 x17' H) (un_q7 Q E))

@[reducible] noncomputable def un_p14 : Code := sI un_p13

@[reducible] noncomputable def un_p15 : Code := sB un_p14

@[reducible] noncomputable def un_p16 : Code := sB un_p15

@[reducible] noncomputable def un_p17 : Code := sB un_p16

def un_15 (nx96 : Int → HP) (Q : QT) (E : ET) (x0 : OA) (x1 : Int) (x15 : OA) (l15 : Nat) (c15 : Nat) (x16 : Int) (x17 : Int) (H : Heap) : Prop :=
 nx96 (IntKind.wrap .i64 (x17 + 1)) H

def un_15_M (nx96 : Int → HP) (Q : QT) (E : ET) (τ : Tau) (H : Heap) : Prop := mP (τ 0) fun x0 => mI .u8 (τ 1) fun x1 => mSl (τ 15) fun x15 l15 c15 => mI .i64 (τ 16) fun x16 => mI .i64 (τ 17) fun x17 => un_15 nx96 Q E x0 x1 x15 l15 c15 x16 x17 H

theorem un_16ok (nx96 : Int → HP) (Q : QT) (E : ET) (τ : Tau) (H : Heap) (h : un_15_M nx96 Q E τ H) : vc Pr un_p17 τ (un_q8 nx96 Q E) E H :=
  vP (i := 0) h (fun x0 h => vI (i := 1) h (fun x1 h => vSl (i := 15) h (fun x15 l15 c15 h => vI (i := 16) h (fun x16 h => vI (i := 17) h (fun x17 h => (conv (by kernel_rfl) h))))))

@[reducible] noncomputable def un_q9 (nx96 : Int → HP) (Q : QT) (E : ET) : Exit → Tau → Heap → Prop := (xthen (un_15_M nx96 Q E) (un_q8 nx96 Q E))

@[reducible] noncomputable def un_p18 : Code := sA un_p16

@[reducible] noncomputable def un_q10 (nx96 : Int → HP) (Q : QT) (E : ET) : Exit → Tau → Heap → Prop := (xblock 1 (un_q9 nx96 Q E))

@[reducible] noncomputable def un_p19 : Code := sI un_p18

@[reducible] noncomputable def un_p20 : Code := sB un_p19

@[reducible] noncomputable def un_p21 : Code := sB un_p20

@[reducible] noncomputable def un_p22 : Code := sB un_p21

def un_17 (nx96 : Int → HP) (Q : QT) (E : ET) (x0 : OA) (x1 : Int) (x6 : OA) (x15 : OA) (l15 : Nat) (c15 : Nat) (x16 : Int) (x17 : Int) (x42 : Bool) (H : Heap) : Prop :=
 sel x42
 (ptr x0 fun q139 =>
 ptr x6 fun q140 =>
 ldI .i64 (Addr.add q140 1) H fun n141 =>
 Does Pr 80 #[(.pointer (some (Addr.add q139 3))), (.int .i64 n141)] H (fun v142 H143 =>
 un_15 nx96 Q E x0 x1 x15 l15 c15 x16 x17 H143) (fun _ _ => False))
 (un_15 nx96 Q E x0 x1 x15 l15 c15 x16 x17 H)

def un_17_M (nx96 : Int → HP) (Q : QT) (E : ET) (τ : Tau) (H : Heap) : Prop := mP (τ 0) fun x0 => mI .u8 (τ 1) fun x1 => mP (τ 6) fun x6 => mSl (τ 15) fun x15 l15 c15 => mI .i64 (τ 16) fun x16 => mI .i64 (τ 17) fun x17 => mB (τ 42) fun x42 => un_17 nx96 Q E x0 x1 x6 x15 l15 c15 x16 x17 x42 H

theorem un_18ok (nx96 : Int → HP) (Q : QT) (E : ET) (τ : Tau) (H : Heap) (h : un_17_M nx96 Q E τ H) : vc Pr un_p22 τ (un_q10 nx96 Q E) E H :=
  vP (i := 0) h (fun x0 h => vI (i := 1) h (fun x1 h => vP (i := 6) h (fun x6 h => vSl (i := 15) h (fun x15 l15 c15 h => vI (i := 16) h (fun x16 h => vI (i := 17) h (fun x17 h => vB (i := 42) h (fun x42 h => (conv (by kernel_rfl) h))))))))

@[reducible] noncomputable def un_q11 (nx96 : Int → HP) (Q : QT) (E : ET) : Exit → Tau → Heap → Prop := (xthen (un_17_M nx96 Q E) (un_q10 nx96 Q E))

@[reducible] noncomputable def un_p23 : Code := sA un_p21

def un_19 (nx96 : Int → HP) (Q : QT) (E : ET) (x0 : OA) (x1 : Int) (x6 : OA) (x15 : OA) (l15 : Nat) (c15 : Nat) (x16 : Int) (x17 : Int) (H : Heap) : Prop :=
 ptr x6 fun q144 =>
 ldI .i64 q144 H fun n145 =>
 sel ((n145 : Int) == 1)
 ((64 : Int) ≠ 0 ∧ ptr x6 fun q146 =>
 (0 ≤ ((IntKind.wrap .u8 (Int.tdiv x1 64)) : Int) ∧ ((IntKind.wrap .u8 (Int.tdiv x1 64)) : Int) < ((4 : Nat) : Int)) ∧ ldI .u64 (Addr.add (Addr.add q146 3) (((IntKind.wrap .u8 (Int.tdiv x1 64)) : Int).toNat * 1)) H fun n147 =>
 (64 : Int) ≠ 0 ∧ 0 ≤ ((Int.tmod x1 64) : Int) ∧ un_17 nx96 Q E x0 x1 x6 x15 l15 c15 x16 x17 (((IntKind.wrap .u64 (BitVec.ofInt (IntKind.bits .u64) (Int.fdiv n147 (2 ^ min ((Int.tmod x1 64) : Int).toNat (IntKind.bits .u64))) &&& BitVec.ofInt (IntKind.bits .u64) 1).toNat) : Int) == 1) H)
 (un_17 nx96 Q E x0 x1 x6 x15 l15 c15 x16 x17 false H)

def un_19_M (nx96 : Int → HP) (Q : QT) (E : ET) (τ : Tau) (H : Heap) : Prop := mP (τ 0) fun x0 => mI .u8 (τ 1) fun x1 => mP (τ 6) fun x6 => mSl (τ 15) fun x15 l15 c15 => mI .i64 (τ 16) fun x16 => mI .i64 (τ 17) fun x17 => un_19 nx96 Q E x0 x1 x6 x15 l15 c15 x16 x17 H

theorem un_20ok (nx96 : Int → HP) (Q : QT) (E : ET) (τ : Tau) (H : Heap) (h : un_19_M nx96 Q E τ H) : vc Pr un_p23 τ (un_q11 nx96 Q E) E H :=
  vP (i := 0) h (fun x0 h => vI (i := 1) h (fun x1 h => vP (i := 6) h (fun x6 h => vSl (i := 15) h (fun x15 l15 c15 h => vI (i := 16) h (fun x16 h => vI (i := 17) h (fun x17 h => (conv (by kernel_rfl) h)))))))

theorem un_21ok (nx96 : Int → HP) (Q : QT) (E : ET) (τ : Tau) (H : Heap) (h : un_19_M nx96 Q E τ H) : vc Pr un_p21 τ (un_q10 nx96 Q E) E H :=
  (conv (B := vc Pr un_p21 τ (un_q10 nx96 Q E) E H) (by kernel_rfl) (vc_seq (K := (un_17_M nx96 Q E)) (un_20ok nx96 Q E τ H h) (un_18ok nx96 Q E)))

@[reducible] noncomputable def un_q12 (nx96 : Int → HP) (Q : QT) (E : ET) : Exit → Tau → Heap → Prop := (xthen (un_19_M nx96 Q E) (un_q10 nx96 Q E))

@[reducible] noncomputable def un_p24 : Code := sA un_p20

def un_22 (nx96 : Int → HP) (Q : QT) (E : ET) (x0 : OA) (x1 : Int) (x5 : Int) (x15 : OA) (l15 : Nat) (c15 : Nat) (x16 : Int) (x17 : Int) (H : Heap) : Prop :=
 ptr x0 fun q148 =>
 ldSl q148 H fun p149 l150 c151 =>
 (0 ≤ (x5 : Int) ∧ (x5 : Int) < ((l150 : Nat) : Int)) ∧ ptr p149 fun q152 =>
 ∃ n153 n154 n155 n156 n157 n158 n159 : Int, Heap.rd H (Addr.add q152 ((x5 : Int).toNat * 7)) 0 [(.int .i64 n153), (.int .i64 n154), (.int .i64 n155), (.int .u64 n156), (.int .u64 n157), (.int .u64 n158), (.int .u64 n159)] ∧ nw (.cells #[(.int .i64 0), (.int .i64 0), (.int .i64 0), (.int .u64 0), (.int .u64 0), (.int .u64 0), (.int .u64 0)] 91 (0, 0)) H fun i160 H161 =>
 wr ⟨i160, 0, none⟩ [(.int .i64 n153), (.int .i64 n154), (.int .i64 n155), (.int .u64 n156), (.int .u64 n157), (.int .u64 n158), (.int .u64 n159)] H161 fun H162 =>
 un_19 nx96 Q E x0 x1 (some ⟨i160, 0, none⟩) x15 l15 c15 x16 x17 H162

def un_22_M (nx96 : Int → HP) (Q : QT) (E : ET) (τ : Tau) (H : Heap) : Prop := mP (τ 0) fun x0 => mI .u8 (τ 1) fun x1 => mI .i64 (τ 5) fun x5 => mSl (τ 15) fun x15 l15 c15 => mI .i64 (τ 16) fun x16 => mI .i64 (τ 17) fun x17 => un_22 nx96 Q E x0 x1 x5 x15 l15 c15 x16 x17 H

theorem un_23ok (nx96 : Int → HP) (Q : QT) (E : ET) (τ : Tau) (H : Heap) (h : un_22_M nx96 Q E τ H) : vc Pr un_p24 τ (un_q12 nx96 Q E) E H :=
  vP (i := 0) h (fun x0 h => vI (i := 1) h (fun x1 h => vI (i := 5) h (fun x5 h => vSl (i := 15) h (fun x15 l15 c15 h => vI (i := 16) h (fun x16 h => vI (i := 17) h (fun x17 h => (conv (by kernel_rfl) h)))))))

theorem un_24ok (nx96 : Int → HP) (Q : QT) (E : ET) (τ : Tau) (H : Heap) (h : un_22_M nx96 Q E τ H) : vc Pr un_p20 τ (un_q10 nx96 Q E) E H :=
  (conv (B := vc Pr un_p20 τ (un_q10 nx96 Q E) E H) (by kernel_rfl) (vc_seq (K := (un_19_M nx96 Q E)) (un_23ok nx96 Q E τ H h) (un_21ok nx96 Q E)))

@[reducible] noncomputable def un_q13 (nx96 : Int → HP) (Q : QT) (E : ET) : Exit → Tau → Heap → Prop := (xthen (un_22_M nx96 Q E) (un_q10 nx96 Q E))

@[reducible] noncomputable def un_p25 : Code := sA un_p19

def un_25 (nx96 : Int → HP) (Q : QT) (E : ET) (x0 : OA) (x1 : Int) (x15 : OA) (l15 : Nat) (c15 : Nat) (x16 : Int) (x17 : Int) (H : Heap) : Prop :=
 (0 ≤ (x17 : Int) ∧ (x17 : Int) < ((l15 : Nat) : Int)) ∧ ptr x15 fun q163 =>
 ldI .i64 (Addr.add q163 ((x17 : Int).toNat * 1)) H fun n164 =>
 un_22 nx96 Q E x0 x1 n164 x15 l15 c15 x16 x17 H

def un_25_M (nx96 : Int → HP) (Q : QT) (E : ET) (τ : Tau) (H : Heap) : Prop := mP (τ 0) fun x0 => mI .u8 (τ 1) fun x1 => mSl (τ 15) fun x15 l15 c15 => mI .i64 (τ 16) fun x16 => mI .i64 (τ 17) fun x17 => un_25 nx96 Q E x0 x1 x15 l15 c15 x16 x17 H

theorem un_26ok (nx96 : Int → HP) (Q : QT) (E : ET) (τ : Tau) (H : Heap) (h : un_25_M nx96 Q E τ H) : vc Pr un_p25 τ (un_q13 nx96 Q E) E H :=
  vP (i := 0) h (fun x0 h => vI (i := 1) h (fun x1 h => vSl (i := 15) h (fun x15 l15 c15 h => vI (i := 16) h (fun x16 h => vI (i := 17) h (fun x17 h => (conv (by kernel_rfl) h))))))

theorem un_27ok (nx96 : Int → HP) (Q : QT) (E : ET) (τ : Tau) (H : Heap) (h : un_25_M nx96 Q E τ H) : vc Pr un_p19 τ (un_q10 nx96 Q E) E H :=
  (conv (B := vc Pr un_p19 τ (un_q10 nx96 Q E) E H) (by kernel_rfl) (vc_seq (K := (un_22_M nx96 Q E)) (un_26ok nx96 Q E τ H h) (un_24ok nx96 Q E)))

theorem un_28ok (nx96 : Int → HP) (Q : QT) (E : ET) (τ : Tau) (H : Heap) (h : un_25_M nx96 Q E τ H) : vc Pr un_p18 τ (un_q9 nx96 Q E) E H :=
  (conv (B := vc Pr un_p18 τ (un_q9 nx96 Q E) E H) (by kernel_rfl) (un_27ok nx96 Q E τ H h))

theorem un_29ok (nx96 : Int → HP) (Q : QT) (E : ET) (τ : Tau) (H : Heap) (h : un_25_M nx96 Q E τ H) : vc Pr un_p16 τ (un_q8 nx96 Q E) E H :=
  (conv (B := vc Pr un_p16 τ (un_q8 nx96 Q E) E H) (by kernel_rfl) (vc_seq (K := (un_15_M nx96 Q E)) (un_28ok nx96 Q E τ H h) (un_16ok nx96 Q E)))

@[reducible] noncomputable def un_q14 (nx96 : Int → HP) (Q : QT) (E : ET) : Exit → Tau → Heap → Prop := (xthen (un_25_M nx96 Q E) (un_q8 nx96 Q E))

@[reducible] noncomputable def un_p26 : Code := sA un_p15

def un_30 (nx96 : Int → HP) (Q : QT) (E : ET) (x0 : OA) (x1 : Int) (x15 : OA) (l15 : Nat) (c15 : Nat) (x16 : Int) (x17 : Int) (x18 : Bool) (H : Heap) : Prop :=
 sel x18
 (un_25 nx96 Q E x0 x1 x15 l15 c15 x16 x17 H)
 (un_12 Q E x0 x1 H)

def un_30_M (nx96 : Int → HP) (Q : QT) (E : ET) (τ : Tau) (H : Heap) : Prop := mP (τ 0) fun x0 => mI .u8 (τ 1) fun x1 => mSl (τ 15) fun x15 l15 c15 => mI .i64 (τ 16) fun x16 => mI .i64 (τ 17) fun x17 => mB (τ 18) fun x18 => un_30 nx96 Q E x0 x1 x15 l15 c15 x16 x17 x18 H

theorem un_31ok (nx96 : Int → HP) (Q : QT) (E : ET) (τ : Tau) (H : Heap) (h : un_30_M nx96 Q E τ H) : vc Pr un_p26 τ (un_q14 nx96 Q E) E H :=
  vP (i := 0) h (fun x0 h => vI (i := 1) h (fun x1 h => vSl (i := 15) h (fun x15 l15 c15 h => vI (i := 16) h (fun x16 h => vI (i := 17) h (fun x17 h => vB (i := 18) h (fun x18 h => (conv (by kernel_rfl) h)))))))

theorem un_32ok (nx96 : Int → HP) (Q : QT) (E : ET) (τ : Tau) (H : Heap) (h : un_30_M nx96 Q E τ H) : vc Pr un_p15 τ (un_q8 nx96 Q E) E H :=
  (conv (B := vc Pr un_p15 τ (un_q8 nx96 Q E) E H) (by kernel_rfl) (vc_seq (K := (un_25_M nx96 Q E)) (un_31ok nx96 Q E τ H h) (un_29ok nx96 Q E)))

@[reducible] noncomputable def un_q15 (nx96 : Int → HP) (Q : QT) (E : ET) : Exit → Tau → Heap → Prop := (xthen (un_30_M nx96 Q E) (un_q8 nx96 Q E))

@[reducible] noncomputable def un_p27 : Code := sA un_p14

def un_33 (nx96 : Int → HP) (Q : QT) (E : ET) (x0 : OA) (x1 : Int) (x15 : OA) (l15 : Nat) (c15 : Nat) (x16 : Int) (x17 : Int) (H : Heap) : Prop :=
 un_30 nx96 Q E x0 x1 x15 l15 c15 x16 x17 (decide ((x17 : Int) < x16)) H

def un_33_M (nx96 : Int → HP) (Q : QT) (E : ET) (τ : Tau) (H : Heap) : Prop := mP (τ 0) fun x0 => mI .u8 (τ 1) fun x1 => mSl (τ 15) fun x15 l15 c15 => mI .i64 (τ 16) fun x16 => mI .i64 (τ 17) fun x17 => un_33 nx96 Q E x0 x1 x15 l15 c15 x16 x17 H

theorem un_34ok (nx96 : Int → HP) (Q : QT) (E : ET) (τ : Tau) (H : Heap) (h : un_33_M nx96 Q E τ H) : vc Pr un_p27 τ (un_q15 nx96 Q E) E H :=
  vP (i := 0) h (fun x0 h => vI (i := 1) h (fun x1 h => vSl (i := 15) h (fun x15 l15 c15 h => vI (i := 16) h (fun x16 h => vI (i := 17) h (fun x17 h => (conv (by kernel_rfl) h))))))

theorem un_35ok (nx96 : Int → HP) (Q : QT) (E : ET) (τ : Tau) (H : Heap) (h : un_33_M nx96 Q E τ H) : vc Pr un_p14 τ (un_q8 nx96 Q E) E H :=
  (conv (B := vc Pr un_p14 τ (un_q8 nx96 Q E) E H) (by kernel_rfl) (vc_seq (K := (un_30_M nx96 Q E)) (un_34ok nx96 Q E τ H h) (un_32ok nx96 Q E)))

def un_36 (Q : QT) (E : ET) (x0 : OA) (x1 : Int) (x15 : OA) (l15 : Nat) (c15 : Nat) (x16 : Int) (x17 : Int) (H : Heap) : Prop :=
 ∃ (I : Int → HP) (μ : Int → Heap → Nat), I x17 H ∧ ∀ (x17 : Int) (H : Heap), I x17 H →
 un_33 (fun x17' H1 => I x17' H1 ∧ μ x17' H1 < μ x17 H) Q E x0 x1 x15 l15 c15 x16 x17 H

def un_36_M (Q : QT) (E : ET) (τ : Tau) (H : Heap) : Prop := mP (τ 0) fun x0 => mI .u8 (τ 1) fun x1 => mSl (τ 15) fun x15 l15 c15 => mI .i64 (τ 16) fun x16 => mI .i64 (τ 17) fun x17 => un_36 Q E x0 x1 x15 l15 c15 x16 x17 H

theorem un_37ok (Q : QT) (E : ET) (τ : Tau) (H : Heap) (h : un_36_M Q E τ H) : vc Pr un_p13 τ (un_q7 Q E) E H :=
  vP (i := 0) h (fun x0 h => vI (i := 1) h (fun x1 h => vSl (i := 15) h (fun x15 l15 c15 h => vI (i := 16) h (fun x16 h => vI (i := 17) h (fun x17 h => match h with | ⟨I, μ, h0, hr⟩ => (conv (B := vc Pr un_p13 (Tau.upd (Tau.upd (Tau.upd (Tau.upd (Tau.upd τ 0 (.pointer x0)) 1 (.int .u8 x1)) 15 (.slice x15 l15 c15)) 16 (.int .i64 x16)) 17 (.int .i64 x17)) (un_q7 Q E) E H) (by kernel_rfl) (vc_loop (c := sI un_p13) (τ := (Tau.upd (Tau.upd (Tau.upd (Tau.upd (Tau.upd τ 0 (.pointer x0)) 1 (.int .u8 x1)) 15 (.slice x15 l15 c15)) 16 (.int .i64 x16)) 17 (.int .i64 x17))) [0, 1, 15, 16] (fun τ H => mI .i64 (τ 17) fun x17' => I x17' H) (fun τ H => μ (gI (τ 17)) H) (by kernel_rfl) h0 (fun τ1 H1 hf hI => fix_elim (τ := τ1) (i := 0) (v := (.pointer x0)) (G := fun τ => vc Pr (sI un_p13) τ (xthen (fun τ2 H2 => (mI .i64 (τ2 17) fun x17' => I x17' H2) ∧ μ (gI (τ2 17)) H2 < μ (gI (τ 17)) H1) (un_q7 Q E)) E H1) (hf 0 (by simp)) (fix_elim (τ := (Tau.upd τ1 0 (.pointer x0))) (i := 1) (v := (.int .u8 x1)) (G := fun τ => vc Pr (sI un_p13) τ (xthen (fun τ2 H2 => (mI .i64 (τ2 17) fun x17' => I x17' H2) ∧ μ (gI (τ2 17)) H2 < μ (gI (τ 17)) H1) (un_q7 Q E)) E H1) (hf 1 (by simp)) (fix_elim (τ := (Tau.upd (Tau.upd τ1 0 (.pointer x0)) 1 (.int .u8 x1))) (i := 15) (v := (.slice x15 l15 c15)) (G := fun τ => vc Pr (sI un_p13) τ (xthen (fun τ2 H2 => (mI .i64 (τ2 17) fun x17' => I x17' H2) ∧ μ (gI (τ2 17)) H2 < μ (gI (τ 17)) H1) (un_q7 Q E)) E H1) (hf 15 (by simp)) (fix_elim (τ := (Tau.upd (Tau.upd (Tau.upd τ1 0 (.pointer x0)) 1 (.int .u8 x1)) 15 (.slice x15 l15 c15))) (i := 16) (v := (.int .i64 x16)) (G := fun τ => vc Pr (sI un_p13) τ (xthen (fun τ2 H2 => (mI .i64 (τ2 17) fun x17' => I x17' H2) ∧ μ (gI (τ2 17)) H2 < μ (gI (τ 17)) H1) (un_q7 Q E)) E H1) (hf 16 (by simp)) (mI_elim (i := 17) (G := fun τ => vc Pr (sI un_p13) τ (xthen (fun τ2 H2 => (mI .i64 (τ2 17) fun x17' => I x17' H2) ∧ μ (gI (τ2 17)) H2 < μ (gI (τ 17)) H1) (un_q7 Q E)) E H1) hI (fun x17r h => (conv (B := vc Pr (sI un_p13) (Tau.upd (Tau.upd (Tau.upd (Tau.upd (Tau.upd τ1 0 (.pointer x0)) 1 (.int .u8 x1)) 15 (.slice x15 l15 c15)) 16 (.int .i64 x16)) 17 (.int .i64 x17r)) (xthen (fun τ2 H2 => (mI .i64 (τ2 17) fun x17' => I x17' H2) ∧ μ (gI (τ2 17)) H2 < μ (gI ((Tau.upd (Tau.upd (Tau.upd (Tau.upd (Tau.upd τ1 0 (.pointer x0)) 1 (.int .u8 x1)) 15 (.slice x15 l15 c15)) 16 (.int .i64 x16)) 17 (.int .i64 x17r)) 17)) H1) (un_q7 Q E)) E H1) (by kernel_rfl) (vc_xthen (un_35ok (fun x17' H2 => I x17' H2 ∧ μ x17' H2 < μ x17r H1) Q E (Tau.upd (Tau.upd (Tau.upd (Tau.upd (Tau.upd τ1 0 (.pointer x0)) 1 (.int .u8 x1)) 15 (.slice x15 l15 c15)) 16 (.int .i64 x16)) 17 (.int .i64 x17r)) H1 (conv (B := un_33_M (fun x17' H2 => I x17' H2 ∧ μ x17' H2 < μ x17r H1) Q E (Tau.upd (Tau.upd (Tau.upd (Tau.upd (Tau.upd τ1 0 (.pointer x0)) 1 (.int .u8 x1)) 15 (.slice x15 l15 c15)) 16 (.int .i64 x16)) 17 (.int .i64 x17r)) H1) (by kernel_rfl) (hr x17r H1 h))) (fun τ2 H2 hk => mI_elim (i := 17) (G := fun τ => (mI .i64 (τ 17) fun x17' => I x17' H2) ∧ μ (gI (τ 17)) H2 < μ x17r H1) hk (fun x17' h => h)))))))))))))))))

theorem un_38ok (Q : QT) (E : ET) (τ : Tau) (H : Heap) (h : un_36_M Q E τ H) : vc Pr un_p12 τ (un_q6 Q E) E H :=
  (conv (B := vc Pr un_p12 τ (un_q6 Q E) E H) (by kernel_rfl) (un_37ok Q E τ H h))

@[reducible] noncomputable def un_q16 (Q : QT) (E : ET) : Exit → Tau → Heap → Prop := (xthen (un_36_M Q E) (un_q6 Q E))

@[reducible] noncomputable def un_p28 : Code := sA un_p11

def un_39 (Q : QT) (E : ET) (x0 : OA) (x1 : Int) (H : Heap) : Prop :=
 ptr x0 fun q165 =>
 ldSl (Addr.add q165 1) H fun p166 l167 c168 =>
 un_36 Q E x0 x1 p166 l167 c168 ((l167 : Nat) : Int) 0 H

def un_39_M (Q : QT) (E : ET) (τ : Tau) (H : Heap) : Prop := mP (τ 0) fun x0 => mI .u8 (τ 1) fun x1 => un_39 Q E x0 x1 H

theorem un_40ok (Q : QT) (E : ET) (τ : Tau) (H : Heap) (h : un_39_M Q E τ H) : vc Pr un_p28 τ (un_q16 Q E) E H :=
  vP (i := 0) h (fun x0 h => vI (i := 1) h (fun x1 h => (conv (by kernel_rfl) h)))

theorem un_41ok (Q : QT) (E : ET) (τ : Tau) (H : Heap) (h : un_39_M Q E τ H) : vc Pr un_p11 τ (un_q6 Q E) E H :=
  (conv (B := vc Pr un_p11 τ (un_q6 Q E) E H) (by kernel_rfl) (vc_seq (K := (un_36_M Q E)) (un_40ok Q E τ H h) (un_38ok Q E)))

theorem un_42ok (Q : QT) (E : ET) (τ : Tau) (H : Heap) (h : un_39_M Q E τ H) : vc Pr un_p1 τ (un_q1 Q E) E H :=
  (conv (B := vc Pr un_p1 τ (un_q1 Q E) E H) (by kernel_rfl) (vc_seq (K := (un_12_M Q E)) (un_41ok Q E τ H h) (un_14ok Q E)))

@[reducible] noncomputable def un_q17 (Q : QT) (E : ET) : Exit → Tau → Heap → Prop := (xthen (un_39_M Q E) (un_q1 Q E))

@[reducible] noncomputable def un_p29 : Code := sA un_p0

def un (Q : QT) (E : ET) (a0 : OA) (a1 : Int) (H : Heap) : Prop :=
 ptr a0 fun q169 =>
 Does Pr 92 #[(.pointer (some (Addr.add q169 3)))] H (fun v170 H171 =>
 un_39 Q E a0 a1 H171) E

theorem un_fn (a0 : OA) (a1 : Int) (Q : QT) (E : ET) (H : Heap) (h : un Q E a0 a1 H)   : Does Pr 59 #[(.pointer a0), (.int .u8 a1)] H Q E :=
  Fn_of_vc (fn := Try.f59) (c := un_p0) (args := [(.pointer a0), (.int .u8 a1)]) mixed (by kernel_rfl) (by kernel_rfl) (by kernel_rfl) (by kernel_rfl) (by kernel_rfl) ((conv (B := vc Pr un_p0 (argT [(.pointer a0), (.int .u8 a1)]) (un_q1 Q E) E H) (by kernel_rfl) (vc_seq (K := (un_39_M Q E)) (conv (B := vc Pr un_p29 (argT [(.pointer a0), (.int .u8 a1)]) (un_q17 Q E) E H) (by kernel_rfl) h) (un_42ok Q E))))

/-! (*jobmux/auto.Machine).Matched -/
@[reducible] noncomputable def uo_q1 (Q : QT) (E : ET) : Exit → Tau → Heap → Prop := (retQ Pr (Try.f79).results.toList Q)

@[reducible] noncomputable def uo_p0 : Code := bodyOf Try.f79

@[reducible] noncomputable def uo_p1 : Code := sB uo_p0

@[reducible] noncomputable def uo_p2 : Code := sB uo_p1

def uo_1 (Q : QT) (E : ET) (x0 : OA) (H : Heap) : Prop :=
 ptr x0 fun q10 =>
 ldI .i64 (Addr.add q10 8) H fun n11 =>
 Q (.bool (decide ((n11 : Int) ≥ 0))) H

def uo_1_M (Q : QT) (E : ET) (τ : Tau) (H : Heap) : Prop := mP (τ 0) fun x0 => uo_1 Q E x0 H

theorem uo_2ok (Q : QT) (E : ET) (τ : Tau) (H : Heap) (h : uo_1_M Q E τ H) : vc Pr uo_p2 τ (uo_q1 Q E) E H :=
  vP (i := 0) h (fun x0 h => (conv (by kernel_rfl) h))

@[reducible] noncomputable def uo_q2 (Q : QT) (E : ET) : Exit → Tau → Heap → Prop := (xthen (uo_1_M Q E) (uo_q1 Q E))

@[reducible] noncomputable def uo_p3 : Code := sA uo_p1

@[reducible] noncomputable def uo_p4 : Code := sB uo_p3

def uo_3 (Q : QT) (E : ET) (x0 : OA) (x11 : Bool) (H : Heap) : Prop :=
 sel x11
 (ptr x0 fun q17 =>
 ldI .i64 (Addr.add q17 7) H fun n18 =>
 ptr x0 fun q19 =>
 wr (Addr.add q19 8) [(.int .i64 n18)] H fun H20 =>
 uo_1 Q E x0 H20)
 (uo_1 Q E x0 H)

def uo_3_M (Q : QT) (E : ET) (τ : Tau) (H : Heap) : Prop := mP (τ 0) fun x0 => mB (τ 11) fun x11 => uo_3 Q E x0 x11 H

theorem uo_4ok (Q : QT) (E : ET) (τ : Tau) (H : Heap) (h : uo_3_M Q E τ H) : vc Pr uo_p4 τ (uo_q2 Q E) E H :=
  vP (i := 0) h (fun x0 h => vB (i := 11) h (fun x11 h => (conv (by kernel_rfl) h)))

@[reducible] noncomputable def uo_q3 (Q : QT) (E : ET) : Exit → Tau → Heap → Prop := (xthen (uo_3_M Q E) (uo_q2 Q E))

@[reducible] noncomputable def uo_p5 : Code := sA uo_p3

def uo_5 (Q : QT) (E : ET) (x0 : OA) (H : Heap) : Prop :=
 ptr x0 fun q21 =>
 ldI .i64 (Addr.add q21 8) H fun n22 =>
 sel (decide ((n22 : Int) < 0))
 (Does Pr 81 #[(.pointer x0), (.bool false)] H (fun v23 H24 =>
 ∃ b25 : Bool, v23 = (.bool b25) ∧ uo_3 Q E x0 b25 H24) E)
 (uo_3 Q E x0 false H)

def uo_5_M (Q : QT) (E : ET) (τ : Tau) (H : Heap) : Prop := mP (τ 0) fun x0 => uo_5 Q E x0 H

theorem uo_6ok (Q : QT) (E : ET) (τ : Tau) (H : Heap) (h : uo_5_M Q E τ H) : vc Pr uo_p5 τ (uo_q3 Q E) E H :=
  vP (i := 0) h (fun x0 h => (conv (by kernel_rfl) h))

theorem uo_7ok (Q : QT) (E : ET) (τ : Tau) (H : Heap) (h : uo_5_M Q E τ H) : vc Pr uo_p3 τ (uo_q2 Q E) E H :=
  (conv (B := vc Pr uo_p3 τ (uo_q2 Q E) E H) (by kernel_rfl) (vc_seq (K := (uo_3_M Q E)) (uo_6ok Q E τ H h) (uo_4ok Q E)))

theorem uo_8ok (Q : QT) (E : ET) (τ : Tau) (H : Heap) (h : uo_5_M Q E τ H) : vc Pr uo_p1 τ (uo_q1 Q E) E H :=
  (conv (B := vc Pr uo_p1 τ (uo_q1 Q E) E H) (by kernel_rfl) (vc_seq (K := (uo_1_M Q E)) (uo_7ok Q E τ H h) (uo_2ok Q E)))

@[reducible] noncomputable def uo_q4 (Q : QT) (E : ET) : Exit → Tau → Heap → Prop := (xthen (uo_5_M Q E) (uo_q1 Q E))

@[reducible] noncomputable def uo_p6 : Code := sA uo_p0

def uo (Q : QT) (E : ET) (a0 : OA) (H : Heap) : Prop :=
 uo_5 Q E a0 H

theorem uo_fn (a0 : OA) (Q : QT) (E : ET) (H : Heap) (h : uo Q E a0 H)   : Does Pr 79 #[(.pointer a0)] H Q E :=
  Fn_of_vc (fn := Try.f79) (c := uo_p0) (args := [(.pointer a0)]) mixed (by kernel_rfl) (by kernel_rfl) (by kernel_rfl) (by kernel_rfl) (by kernel_rfl) ((conv (B := vc Pr uo_p0 (argT [(.pointer a0)]) (uo_q1 Q E) E H) (by kernel_rfl) (vc_seq (K := (uo_5_M Q E)) (conv (B := vc Pr uo_p6 (argT [(.pointer a0)]) (uo_q4 Q E) E H) (by kernel_rfl) h) (uo_8ok Q E))))

/-! (*jobmux/auto.set).add -/
@[reducible] noncomputable def up_q1 (Q : QT) (E : ET) : Exit → Tau → Heap → Prop := (retQ Pr (Try.f80).results.toList Q)

@[reducible] noncomputable def up_p0 : Code := bodyOf Try.f80

def up (Q : QT) (E : ET) (a0 : OA) (a1 : Int) (H : Heap) : Prop :=
 ptr a0 fun q1 =>
 ldSl (Addr.add q1 1) H fun p2 l3 c4 =>
 (0 ≤ (a1 : Int) ∧ (a1 : Int) < ((l3 : Nat) : Int)) ∧ ptr p2 fun q5 =>
 ldB (Addr.add q5 ((a1 : Int).toNat * 1)) H fun b6 =>
 sel (!b6)
 (ptr a0 fun q7 =>
 ldSl (Addr.add q7 1) H fun p8 l9 c10 =>
 (0 ≤ (a1 : Int) ∧ (a1 : Int) < ((l9 : Nat) : Int)) ∧ ptr p8 fun q11 =>
 wr (Addr.add q11 ((a1 : Int).toNat * 1)) [(.bool true)] H fun H12 =>
 ptr a0 fun q13 =>
 ldSl q13 H12 fun p14 l15 c16 =>
 nw (.cells #[(.int .i64 a1)] 3 (0, 0)) H12 fun i17 H18 =>
 app Pr 22 p14 l15 c16 (.slice (some ⟨i17, 0, none⟩) 1 1) H18 fun p19 l20 c21 H22 =>
 ptr a0 fun q23 =>
 wr q23 [(.slice p19 l20 c21)] H22 fun H24 =>
 Q (.tuple #[]) H24)
 (Q (.tuple #[]) H)

theorem up_fn (a0 : OA) (a1 : Int) (Q : QT) (E : ET) (H : Heap) (h : up Q E a0 a1 H)   : Does Pr 80 #[(.pointer a0), (.int .i64 a1)] H Q E :=
  Fn_of_vc (fn := Try.f80) (c := up_p0) (args := [(.pointer a0), (.int .i64 a1)]) mixed (by kernel_rfl) (by kernel_rfl) (by kernel_rfl) (by kernel_rfl) (by kernel_rfl) ((conv (B := vc Pr up_p0 (argT [(.pointer a0), (.int .i64 a1)]) (up_q1 Q E) E H) (by kernel_rfl) h))

/-! (*jobmux/auto.Machine).spread -/
@[reducible] noncomputable def uq_q1 (Q : QT) (E : ET) : Exit → Tau → Heap → Prop := (retQ Pr (Try.f81).results.toList Q)

@[reducible] noncomputable def uq_p0 : Code := bodyOf Try.f81

@[reducible] noncomputable def uq_p1 : Code := sB uq_p0

@[reducible] noncomputable def uq_p2 : Code := sB uq_p1

@[reducible] noncomputable def uq_p3 : Code := sB uq_p2

def uq_1 (Q : QT) (E : ET) (x5 : Bool) (H : Heap) : Prop :=
 Q (.bool x5) H

def uq_1_M (Q : QT) (E : ET) (τ : Tau) (H : Heap) : Prop := mB (τ 5) fun x5 => uq_1 Q E x5 H

theorem uq_2ok (Q : QT) (E : ET) (τ : Tau) (H : Heap) (h : uq_1_M Q E τ H) : vc Pr uq_p3 τ (uq_q1 Q E) E H :=
  vB (i := 5) h (fun x5 h => (conv (by kernel_rfl) h))

@[reducible] noncomputable def uq_q2 (Q : QT) (E : ET) : Exit → Tau → Heap → Prop := (xthen (uq_1_M Q E) (uq_q1 Q E))

@[reducible] noncomputable def uq_p4 : Code := sA uq_p2

@[reducible] noncomputable def uq_p5 : Code := sB uq_p4

@[reducible] noncomputable def uq_q3 (Q : QT) (E : ET) : Exit → Tau → Heap → Prop := (xblock 0 (uq_q2 Q E))

@[reducible] noncomputable def uq_p6 : Code := sI uq_p5

@[reducible] noncomputable def uq_q4 (nx40 : Bool → Int → HP) (Q : QT) (E : ET) : Exit → Tau → Heap → Prop := (xthen (fun τ H => mB (τ 5) fun x5' => mI .i64 (τ 6) fun x6' => nx40 x5' x6' H) (uq_q3 Q E))

@[reducible] noncomputable def uq_p7 : Code := sI uq_p6

@[reducible] noncomputable def uq_p8 : Code := sB uq_p7

@[reducible] noncomputable def uq_p9 : Code := sB uq_p8

def uq_3 (nx40 : Bool → Int → HP) (Q : QT) (E : ET) (x0 : OA) (x1 : Bool) (x5 : Bool) (x6 : Int) (H : Heap) : Prop :=
 nx40 x5 (IntKind.wrap .i64 (x6 + 1)) H

def uq_3_M (nx40 : Bool → Int → HP) (Q : QT) (E : ET) (τ : Tau) (H : Heap) : Prop := mP (τ 0) fun x0 => mB (τ 1) fun x1 => mB (τ 5) fun x5 => mI .i64 (τ 6) fun x6 => uq_3 nx40 Q E x0 x1 x5 x6 H

theorem uq_4ok (nx40 : Bool → Int → HP) (Q : QT) (E : ET) (τ : Tau) (H : Heap) (h : uq_3_M nx40 Q E τ H) : vc Pr uq_p9 τ (uq_q4 nx40 Q E) E H :=
  vP (i := 0) h (fun x0 h => vB (i := 1) h (fun x1 h => vB (i := 5) h (fun x5 h => vI (i := 6) h (fun x6 h => (conv (by kernel_rfl) h)))))

@[reducible] noncomputable def uq_q5 (nx40 : Bool → Int → HP) (Q : QT) (E : ET) : Exit → Tau → Heap → Prop := (xthen (uq_3_M nx40 Q E) (uq_q4 nx40 Q E))

@[reducible] noncomputable def uq_p10 : Code := sA uq_p8

@[reducible] noncomputable def uq_q6 (nx40 : Bool → Int → HP) (Q : QT) (E : ET) : Exit → Tau → Heap → Prop := (xblock 1 (uq_q5 nx40 Q E))

@[reducible] noncomputable def uq_p11 : Code := sI uq_p10

@[reducible] noncomputable def uq_p12 : Code := sB uq_p11

@[reducible] noncomputable def uq_q7 (nx40 : Bool → Int → HP) (Q : QT) (E : ET) : Exit → Tau → Heap → Prop := (xblock 2 (uq_q6 nx40 Q E))

@[reducible] noncomputable def uq_p13 : Code := sI uq_p12

@[reducible] noncomputable def uq_p14 : Code := sB uq_p13

def uq_5 (nx40 : Bool → Int → HP) (Q : QT) (E : ET) (x0 : OA) (x1 : Bool) (x6 : Int) (H : Heap) : Prop :=
 uq_3 nx40 Q E x0 x1 true x6 H

def uq_5_M (nx40 : Bool → Int → HP) (Q : QT) (E : ET) (τ : Tau) (H : Heap) : Prop := mP (τ 0) fun x0 => mB (τ 1) fun x1 => mI .i64 (τ 6) fun x6 => uq_5 nx40 Q E x0 x1 x6 H

theorem uq_6ok (nx40 : Bool → Int → HP) (Q : QT) (E : ET) (τ : Tau) (H : Heap) (h : uq_5_M nx40 Q E τ H) : vc Pr uq_p14 τ (uq_q7 nx40 Q E) E H :=
  vP (i := 0) h (fun x0 h => vB (i := 1) h (fun x1 h => vI (i := 6) h (fun x6 h => (conv (by kernel_rfl) h))))

@[reducible] noncomputable def uq_q8 (nx40 : Bool → Int → HP) (Q : QT) (E : ET) : Exit → Tau → Heap → Prop := (xthen (uq_5_M nx40 Q E) (uq_q7 nx40 Q E))

@[reducible] noncomputable def uq_p15 : Code := sA uq_p13

@[reducible] noncomputable def uq_q9 (nx40 : Bool → Int → HP) (Q : QT) (E : ET) : Exit → Tau → Heap → Prop := (xblock 5 (uq_q8 nx40 Q E))

@[reducible] noncomputable def uq_p16 : Code := sI uq_p15

@[reducible] noncomputable def uq_p17 : Code := sB uq_p16

def uq_7 (nx40 : Bool → Int → HP) (Q : QT) (E : ET) (x0 : OA) (x1 : Bool) (x5 : Bool) (x6 : Int) (x7 : OA) (H : Heap) : Prop :=
 ptr x0 fun q125 =>
 ptr x7 fun q126 =>
 ldI .i64 (Addr.add q126 1) H fun n127 =>
 Does Pr 80 #[(.pointer (some (Addr.add q125 1))), (.int .i64 n127)] H (fun v128 H129 =>
 uq_3 nx40 Q E x0 x1 x5 x6 H129) (fun _ _ => False)

def uq_7_M (nx40 : Bool → Int → HP) (Q : QT) (E : ET) (τ : Tau) (H : Heap) : Prop := mP (τ 0) fun x0 => mB (τ 1) fun x1 => mB (τ 5) fun x5 => mI .i64 (τ 6) fun x6 => mP (τ 7) fun x7 => uq_7 nx40 Q E x0 x1 x5 x6 x7 H

theorem uq_8ok (nx40 : Bool → Int → HP) (Q : QT) (E : ET) (τ : Tau) (H : Heap) (h : uq_7_M nx40 Q E τ H) : vc Pr uq_p17 τ (uq_q9 nx40 Q E) E H :=
  vP (i := 0) h (fun x0 h => vB (i := 1) h (fun x1 h => vB (i := 5) h (fun x5 h => vI (i := 6) h (fun x6 h => vP (i := 7) h (fun x7 h => (conv (by kernel_rfl) h))))))

@[reducible] noncomputable def uq_q10 (nx40 : Bool → Int → HP) (Q : QT) (E : ET) : Exit → Tau → Heap → Prop := (xthen (uq_7_M nx40 Q E) (uq_q9 nx40 Q E))

@[reducible] noncomputable def uq_p18 : Code := sA uq_p16

@[reducible] noncomputable def uq_q11 (nx40 : Bool → Int → HP) (Q : QT) (E : ET) : Exit → Tau → Heap → Prop := (xblock 4 (uq_q10 nx40 Q E))

@[reducible] noncomputable def uq_p19 : Code := sI uq_p18

@[reducible] noncomputable def uq_p20 : Code := sB uq_p19

def uq_9 (nx40 : Bool → Int → HP) (Q : QT) (E : ET) (x0 : OA) (x1 : Bool) (x5 : Bool) (x6 : Int) (x7 : OA) (H : Heap) : Prop :=
 ptr x0 fun q136 =>
 ptr x7 fun q137 =>
 ldI .i64 (Addr.add q137 2) H fun n138 =>
 Does Pr 80 #[(.pointer (some (Addr.add q136 1))), (.int .i64 n138)] H (fun v139 H140 =>
 uq_7 nx40 Q E x0 x1 x5 x6 x7 H140) (fun _ _ => False)

def uq_9_M (nx40 : Bool → Int → HP) (Q : QT) (E : ET) (τ : Tau) (H : Heap) : Prop := mP (τ 0) fun x0 => mB (τ 1) fun x1 => mB (τ 5) fun x5 => mI .i64 (τ 6) fun x6 => mP (τ 7) fun x7 => uq_9 nx40 Q E x0 x1 x5 x6 x7 H

theorem uq_10ok (nx40 : Bool → Int → HP) (Q : QT) (E : ET) (τ : Tau) (H : Heap) (h : uq_9_M nx40 Q E τ H) : vc Pr uq_p20 τ (uq_q11 nx40 Q E) E H :=
  vP (i := 0) h (fun x0 h => vB (i := 1) h (fun x1 h => vB (i := 5) h (fun x5 h => vI (i := 6) h (fun x6 h => vP (i := 7) h (fun x7 h => (conv (by kernel_rfl) h))))))

@[reducible] noncomputable def uq_q12 (nx40 : Bool → Int → HP) (Q : QT) (E : ET) : Exit → Tau → Heap → Prop := (xthen (uq_9_M nx40 Q E) (uq_q11 nx40 Q E))

@[reducible] noncomputable def uq_p21 : Code := sA uq_p19

@[reducible] noncomputable def uq_q13 (nx40 : Bool → Int → HP) (Q : QT) (E : ET) : Exit → Tau → Heap → Prop := (xblock 3 (uq_q12 nx40 Q E))

@[reducible] noncomputable def uq_p22 : Code := sI uq_p21

@[reducible] noncomputable def uq_q14 (nx40 : Bool → Int → HP) (Q : QT) (E : ET) : Exit → Tau → Heap → Prop := (xthen (fun τ H => vc Pr (sB uq_p22) τ (uq_q13 nx40 Q E) E H) (uq_q13 nx40 Q E))

@[reducible] noncomputable def uq_p23 : Code := sA uq_p22

@[reducible] noncomputable def uq_p24 : Code := sB uq_p23

@[reducible] noncomputable def uq_p25 : Code := sB uq_p24

def uq_11 (nx40 : Bool → Int → HP) (Q : QT) (E : ET) (x0 : OA) (x1 : Bool) (x5 : Bool) (x6 : Int) (x7 : OA) (H : Heap) : Prop :=
 ptr x7 fun q152 =>
 ldI .i64 q152 H fun n153 =>
 sel ((n153 : Int) == 5)
 (uq_5 nx40 Q E x0 x1 x6 H)
 (uq_3 nx40 Q E x0 x1 x5 x6 H)

def uq_11_M (nx40 : Bool → Int → HP) (Q : QT) (E : ET) (τ : Tau) (H : Heap) : Prop := mP (τ 0) fun x0 => mB (τ 1) fun x1 => mB (τ 5) fun x5 => mI .i64 (τ 6) fun x6 => mP (τ 7) fun x7 => uq_11 nx40 Q E x0 x1 x5 x6 x7 H

theorem uq_12ok (nx40 : Bool → Int → HP) (Q : QT) (E : ET) (τ : Tau) (H : Heap) (h : uq_11_M nx40 Q E τ H) : vc Pr uq_p25 τ (uq_q14 nx40 Q E) E H :=
  vP (i := 0) h (fun x0 h => vB (i := 1) h (fun x1 h => vB (i := 5) h (fun x5 h => vI (i := 6) h (fun x6 h => vP (i := 7) h (fun x7 h => (conv (by kernel_rfl) h))))))

@[reducible] noncomputable def uq_q15 (nx40 : Bool → Int → HP) (Q : QT) (E : ET) : Exit → Tau → Heap → Prop := (xthen (uq_11_M nx40 Q E) (uq_q14 nx40 Q E))

@[reducible] noncomputable def uq_p26 : Code := sA uq_p24

@[reducible] noncomputable def uq_p27 : Code := sB uq_p26

def uq_13 (nx40 : Bool → Int → HP) (Q : QT) (E : ET) (x0 : OA) (x1 : Bool) (x5 : Bool) (x6 : Int) (x7 : OA) (x36 : Bool) (H : Heap) : Prop :=
 sel x36
 (uq_7 nx40 Q E x0 x1 x5 x6 x7 H)
 (uq_11 nx40 Q E x0 x1 x5 x6 x7 H)

def uq_13_M (nx40 : Bool → Int → HP) (Q : QT) (E : ET) (τ : Tau) (H : Heap) : Prop := mP (τ 0) fun x0 => mB (τ 1) fun x1 => mB (τ 5) fun x5 => mI .i64 (τ 6) fun x6 => mP (τ 7) fun x7 => mB (τ 36) fun x36 => uq_13 nx40 Q E x0 x1 x5 x6 x7 x36 H

theorem uq_14ok (nx40 : Bool → Int → HP) (Q : QT) (E : ET) (τ : Tau) (H : Heap) (h : uq_13_M nx40 Q E τ H) : vc Pr uq_p27 τ (uq_q15 nx40 Q E) E H :=
  vP (i := 0) h (fun x0 h => vB (i := 1) h (fun x1 h => vB (i := 5) h (fun x5 h => vI (i := 6) h (fun x6 h => vP (i := 7) h (fun x7 h => vB (i := 36) h (fun x36 h => (conv (by kernel_rfl) h)))))))

@[reducible] noncomputable def uq_q16 (nx40 : Bool → Int → HP) (Q : QT) (E : ET) : Exit → Tau → Heap → Prop := (xthen (uq_13_M nx40 Q E) (uq_q15 nx40 Q E))

@[reducible] noncomputable def uq_p28 : Code := sA uq_p26

@[reducible] noncomputable def uq_p29 : Code := sB uq_p28

def uq_15 (nx40 : Bool → Int → HP) (Q : QT) (E : ET) (x0 : OA) (x1 : Bool) (x5 : Bool) (x6 : Int) (x7 : OA) (x36 : Bool) (H : Heap) : Prop :=
 sel x36
 (uq_13 nx40 Q E x0 x1 x5 x6 x7 x36 H)
 (ptr x7 fun q161 =>
 ldI .i64 q161 H fun n162 =>
 sel ((n162 : Int) == 4)
 (uq_13 nx40 Q E x0 x1 x5 x6 x7 x1 H)
 (uq_13 nx40 Q E x0 x1 x5 x6 x7 false H))

def uq_15_M (nx40 : Bool → Int → HP) (Q : QT) (E : ET) (τ : Tau) (H : Heap) : Prop := mP (τ 0) fun x0 => mB (τ 1) fun x1 => mB (τ 5) fun x5 => mI .i64 (τ 6) fun x6 => mP (τ 7) fun x7 => mB (τ 36) fun x36 => uq_15 nx40 Q E x0 x1 x5 x6 x7 x36 H

theorem uq_16ok (nx40 : Bool → Int → HP) (Q : QT) (E : ET) (τ : Tau) (H : Heap) (h : uq_15_M nx40 Q E τ H) : vc Pr uq_p29 τ (uq_q16 nx40 Q E) E H :=
  vP (i := 0) h (fun x0 h => vB (i := 1) h (fun x1 h => vB (i := 5) h (fun x5 h => vI (i := 6) h (fun x6 h => vP (i := 7) h (fun x7 h => vB (i := 36) h (fun x36 h => (conv (by kernel_rfl) h)))))))

@[reducible] noncomputable def uq_q17 (nx40 : Bool → Int → HP) (Q : QT) (E : ET) : Exit → Tau → Heap → Prop := (xthen (uq_15_M nx40 Q E) (uq_q16 nx40 Q E))

@[reducible] noncomputable def uq_p30 : Code := sA uq_p28

def uq_17 (nx40 : Bool → Int → HP) (Q : QT) (E : ET) (x0 : OA) (x1 : Bool) (x5 : Bool) (x6 : Int) (x7 : OA) (H : Heap) : Prop :=
 ptr x7 fun q163 =>
 ldI .i64 q163 H fun n164 =>
 sel ((n164 : Int) == 3)
 (ptr x0 fun q165 =>
 ldB (Addr.add q165 6) H fun b166 =>
 uq_15 nx40 Q E x0 x1 x5 x6 x7 b166 H)
 (uq_15 nx40 Q E x0 x1 x5 x6 x7 false H)

def uq_17_M (nx40 : Bool → Int → HP) (Q : QT) (E : ET) (τ : Tau) (H : Heap) : Prop := mP (τ 0) fun x0 => mB (τ 1) fun x1 => mB (τ 5) fun x5 => mI .i64 (τ 6) fun x6 => mP (τ 7) fun x7 => uq_17 nx40 Q E x0 x1 x5 x6 x7 H

theorem uq_18ok (nx40 : Bool → Int → HP) (Q : QT) (E : ET) (τ : Tau) (H : Heap) (h : uq_17_M nx40 Q E τ H) : vc Pr uq_p30 τ (uq_q17 nx40 Q E) E H :=
  vP (i := 0) h (fun x0 h => vB (i := 1) h (fun x1 h => vB (i := 5) h (fun x5 h => vI (i := 6) h (fun x6 h => vP (i := 7) h (fun x7 h => (conv (by kernel_rfl) h))))))

theorem uq_19ok (nx40 : Bool → Int → HP) (Q : QT) (E : ET) (τ : Tau) (H : Heap) (h : uq_17_M nx40 Q E τ H) : vc Pr uq_p28 τ (uq_q16 nx40 Q E) E H :=
  (conv (B := vc Pr uq_p28 τ (uq_q16 nx40 Q E) E H) (by kernel_rfl) (vc_seq (K := (uq_15_M nx40 Q E)) (uq_18ok nx40 Q E τ H h) (uq_16ok nx40 Q E)))

theorem uq_20ok (nx40 : Bool → Int → HP) (Q : QT) (E : ET) (τ : Tau) (H : Heap) (h : uq_17_M nx40 Q E τ H) : vc Pr uq_p26 τ (uq_q15 nx40 Q E) E H :=
  (conv (B := vc Pr uq_p26 τ (uq_q15 nx40 Q E) E H) (by kernel_rfl) (vc_seq (K := (uq_13_M nx40 Q E)) (uq_19ok nx40 Q E τ H h) (uq_14ok nx40 Q E)))

theorem uq_21ok (nx40 : Bool → Int → HP) (Q : QT) (E : ET) (τ : Tau) (H : Heap) (h : uq_17_M nx40 Q E τ H) : vc Pr uq_p24 τ (uq_q14 nx40 Q E) E H :=
  (conv (B := vc Pr uq_p24 τ (uq_q14 nx40 Q E) E H) (by kernel_rfl) (vc_seq (K := (uq_11_M nx40 Q E)) (uq_20ok nx40 Q E τ H h) (uq_12ok nx40 Q E)))

@[reducible] noncomputable def uq_q18 (nx40 : Bool → Int → HP) (Q : QT) (E : ET) : Exit → Tau → Heap → Prop := (xthen (uq_17_M nx40 Q E) (uq_q14 nx40 Q E))

@[reducible] noncomputable def uq_p31 : Code := sA uq_p23

def uq_22 (nx40 : Bool → Int → HP) (Q : QT) (E : ET) (x0 : OA) (x1 : Bool) (x5 : Bool) (x6 : Int) (x7 : OA) (H : Heap) : Prop :=
 ptr x7 fun q167 =>
 ldI .i64 q167 H fun n168 =>
 sel ((n168 : Int) == 2)
 (uq_9 nx40 Q E x0 x1 x5 x6 x7 H)
 (uq_17 nx40 Q E x0 x1 x5 x6 x7 H)

def uq_22_M (nx40 : Bool → Int → HP) (Q : QT) (E : ET) (τ : Tau) (H : Heap) : Prop := mP (τ 0) fun x0 => mB (τ 1) fun x1 => mB (τ 5) fun x5 => mI .i64 (τ 6) fun x6 => mP (τ 7) fun x7 => uq_22 nx40 Q E x0 x1 x5 x6 x7 H

theorem uq_23ok (nx40 : Bool → Int → HP) (Q : QT) (E : ET) (τ : Tau) (H : Heap) (h : uq_22_M nx40 Q E τ H) : vc Pr uq_p31 τ (uq_q18 nx40 Q E) E H :=
  vP (i := 0) h (fun x0 h => vB (i := 1) h (fun x1 h => vB (i := 5) h (fun x5 h => vI (i := 6) h (fun x6 h => vP (i := 7) h (fun x7 h => (conv (by kernel_rfl) h))))))

theorem uq_24ok (nx40 : Bool → Int → HP) (Q : QT) (E : ET) (τ : Tau) (H : Heap) (h : uq_22_M nx40 Q E τ H) : vc Pr uq_p23 τ (uq_q14 nx40 Q E) E H :=
  (conv (B := vc Pr uq_p23 τ (uq_q14 nx40 Q E) E H) (by kernel_rfl) (vc_seq (K := (uq_17_M nx40 Q E)) (uq_23ok nx40 Q E τ H h) (uq_21ok nx40 Q E)))

theorem uq_25ok (nx40 : Bool → Int → HP) (Q : QT) (E : ET) (τ : Tau) (H : Heap) (h : uq_22_M nx40 Q E τ H) : vc Pr uq_p22 τ (uq_q13 nx40 Q E) E H :=
  (conv (B := vc Pr uq_p22 τ (uq_q13 nx40 Q E) E H) (by kernel_rfl) (uq_24ok nx40 Q E τ H h))

theorem uq_26ok (nx40 : Bool → Int → HP) (Q : QT) (E : ET) (τ : Tau) (H : Heap) (h : uq_22_M nx40 Q E τ H) : vc Pr uq_p21 τ (uq_q12 nx40 Q E) E H :=
  (conv (B := vc Pr uq_p21 τ (uq_q12 nx40 Q E) E H) (by kernel_rfl) (uq_25ok nx40 Q E τ H h))

theorem uq_27ok (nx40 : Bool → Int → HP) (Q : QT) (E : ET) (τ : Tau) (H : Heap) (h : uq_22_M nx40 Q E τ H) : vc Pr uq_p19 τ (uq_q11 nx40 Q E) E H :=
  (conv (B := vc Pr uq_p19 τ (uq_q11 nx40 Q E) E H) (by kernel_rfl) (vc_seq (K := (uq_9_M nx40 Q E)) (uq_26ok nx40 Q E τ H h) (uq_10ok nx40 Q E)))

theorem uq_28ok (nx40 : Bool → Int → HP) (Q : QT) (E : ET) (τ : Tau) (H : Heap) (h : uq_22_M nx40 Q E τ H) : vc Pr uq_p18 τ (uq_q10 nx40 Q E) E H :=
  (conv (B := vc Pr uq_p18 τ (uq_q10 nx40 Q E) E H) (by kernel_rfl) (uq_27ok nx40 Q E τ H h))

theorem uq_29ok (nx40 : Bool → Int → HP) (Q : QT) (E : ET) (τ : Tau) (H : Heap) (h : uq_22_M nx40 Q E τ H) : vc Pr uq_p16 τ (uq_q9 nx40 Q E) E H :=
  (conv (B := vc Pr uq_p16 τ (uq_q9 nx40 Q E) E H) (by kernel_rfl) (vc_seq (K := (uq_7_M nx40 Q E)) (uq_28ok nx40 Q E τ H h) (uq_8ok nx40 Q E)))

theorem uq_30ok (nx40 : Bool → Int → HP) (Q : QT) (E : ET) (τ : Tau) (H : Heap) (h : uq_22_M nx40 Q E τ H) : vc Pr uq_p15 τ (uq_q8 nx40 Q E) E H :=
  (conv (B := vc Pr uq_p15 τ (uq_q8 nx40 Q E) E H) (by kernel_rfl) (uq_29ok nx40 Q E τ H h))

theorem uq_31ok (nx40 : Bool → Int → HP) (Q : QT) (E : ET) (τ : Tau) (H : Heap) (h : uq_22_M nx40 Q E τ H) : vc Pr uq_p13 τ (uq_q7 nx40 Q E) E H :=
  (conv (B := vc Pr uq_p13 τ (uq_q7 nx40 Q E) E H) (by kernel_rfl) (vc_seq (K := (uq_5_M nx40 Q E)) (uq_30ok nx40 Q E τ H h) (uq_6ok nx40 Q E)))

theorem uq_32ok (nx40 : Bool → Int → HP) (Q : QT) (E : ET) (τ : Tau) (H : Heap) (h : uq_22_M nx40 Q E τ H) : vc Pr uq_p12 τ (uq_q6 nx40 Q E) E H :=
  (conv (B := vc Pr uq_p12 τ (uq_q6 nx40 Q E) E H) (by kernel_rfl) (uq_31ok nx40 Q E τ H h))

@[reducible] noncomputable def uq_q19 (nx40 : Bool → Int → HP) (Q : QT) (E : ET) : Exit → Tau → Heap → Prop := (xthen (uq_22_M nx40 Q E) (uq_q6 nx40 Q E))

@[reducible] noncomputable def uq_p32 : Code := sA uq_p11

def uq_33 (nx40 : Bool → Int → HP) (Q : QT) (E : ET) (x0 : OA) (x1 : Bool) (x5 : Bool) (x6 : Int) (H : Heap) : Prop :=
 ptr x0 fun q169 =>
 ldSl q169 H fun p170 l171 c172 =>
 ptr x0 fun q173 =>
 ldSl (Addr.add q173 1) H fun p174 l175 c176 =>
 (0 ≤ (x6 : Int) ∧ (x6 : Int) < ((l175 : Nat) : Int)) ∧ ptr p174 fun q177 =>
 ldI .i64 (Addr.add q177 ((x6 : Int).toNat * 1)) H fun n178 =>
 (0 ≤ (n178 : Int) ∧ (n178 : Int) < ((l171 : Nat) : Int)) ∧ ptr p170 fun q179 =>
 ∃ n180 n181 n182 n183 n184 n185 n186 : Int, Heap.rd H (Addr.add q179 ((n178 : Int).toNat * 7)) 0 [(.int .i64 n180), (.int .i64 n181), (.int .i64 n182), (.int .u64 n183), (.int .u64 n184), (.int .u64 n185), (.int .u64 n186)] ∧ nw (.cells #[(.int .i64 0), (.int .i64 0), (.int .i64 0), (.int .u64 0), (.int .u64 0), (.int .u64 0), (.int .u64 0)] 91 (0, 0)) H fun i187 H188 =>
 wr ⟨i187, 0, none⟩ [(.int .i64 n180), (.int .i64 n181), (.int .i64 n182), (.int .u64 n183), (.int .u64 n184), (.int .u64 n185), (.int .u64 n186)] H188 fun H189 =>
 uq_22 nx40 Q E x0 x1 x5 x6 (some ⟨i187, 0, none⟩) H189

def uq_33_M (nx40 : Bool → Int → HP) (Q : QT) (E : ET) (τ : Tau) (H : Heap) : Prop := mP (τ 0) fun x0 => mB (τ 1) fun x1 => mB (τ 5) fun x5 => mI .i64 (τ 6) fun x6 => uq_33 nx40 Q E x0 x1 x5 x6 H

theorem uq_34ok (nx40 : Bool → Int → HP) (Q : QT) (E : ET) (τ : Tau) (H : Heap) (h : uq_33_M nx40 Q E τ H) : vc Pr uq_p32 τ (uq_q19 nx40 Q E) E H :=
  vP (i := 0) h (fun x0 h => vB (i := 1) h (fun x1 h => vB (i := 5) h (fun x5 h => vI (i := 6) h (fun x6 h => (conv (by kernel_rfl) h)))))

theorem uq_35ok (nx40 : Bool → Int → HP) (Q : QT) (E : ET) (τ : Tau) (H : Heap) (h : uq_33_M nx40 Q E τ H) : vc Pr uq_p11 τ (uq_q6 nx40 Q E) E H :=
  (conv (B := vc Pr uq_p11 τ (uq_q6 nx40 Q E) E H) (by kernel_rfl) (vc_seq (K := (uq_22_M nx40 Q E)) (uq_34ok nx40 Q E τ H h) (uq_32ok nx40 Q E)))

theorem uq_36ok (nx40 : Bool → Int → HP) (Q : QT) (E : ET) (τ : Tau) (H : Heap) (h : uq_33_M nx40 Q E τ H) : vc Pr uq_p10 τ (uq_q5 nx40 Q E) E H :=
  (conv (B := vc Pr uq_p10 τ (uq_q5 nx40 Q E) E H) (by kernel_rfl) (uq_35ok nx40 Q E τ H h))

theorem uq_37ok (nx40 : Bool → Int → HP) (Q : QT) (E : ET) (τ : Tau) (H : Heap) (h : uq_33_M nx40 Q E τ H) : vc Pr uq_p8 τ (uq_q4 nx40 Q E) E H :=
  (conv (B := vc Pr uq_p8 τ (uq_q4 nx40 Q E) E H) (by kernel_rfl) (vc_seq (K := (uq_3_M nx40 Q E)) (uq_36ok nx40 Q E τ H h) (uq_4ok nx40 Q E)))

@[reducible] noncomputable def uq_q20 (nx40 : Bool → Int → HP) (Q : QT) (E : ET) : Exit → Tau → Heap → Prop := (xthen (uq_33_M nx40 Q E) (uq_q4 nx40 Q E))

@[reducible] noncomputable def uq_p33 : Code := sA uq_p7

def uq_38 (nx40 : Bool → Int → HP) (Q : QT) (E : ET) (x0 : OA) (x1 : Bool) (x5 : Bool) (x6 : Int) (H : Heap) : Prop :=
 ptr x0 fun q190 =>
 ldSl (Addr.add q190 1) H fun p191 l192 c193 =>
 sel (decide ((x6 : Int) < ((l192 : Nat) : Int)))
 (uq_33 nx40 Q E x0 x1 x5 x6 H)
 (uq_1 Q E x5 H)

def uq_38_M (nx40 : Bool → Int → HP) (Q : QT) (E : ET) (τ : Tau) (H : Heap) : Prop := mP (τ 0) fun x0 => mB (τ 1) fun x1 => mB (τ 5) fun x5 => mI .i64 (τ 6) fun x6 => uq_38 nx40 Q E x0 x1 x5 x6 H

theorem uq_39ok (nx40 : Bool → Int → HP) (Q : QT) (E : ET) (τ : Tau) (H : Heap) (h : uq_38_M nx40 Q E τ H) : vc Pr uq_p33 τ (uq_q20 nx40 Q E) E H :=
  vP (i := 0) h (fun x0 h => vB (i := 1) h (fun x1 h => vB (i := 5) h (fun x5 h => vI (i := 6) h (fun x6 h => (conv (by kernel_rfl) h)))))

theorem uq_40ok (nx40 : Bool → Int → HP) (Q : QT) (E : ET) (τ : Tau) (H : Heap) (h : uq_38_M nx40 Q E τ H) : vc Pr uq_p7 τ (uq_q4 nx40 Q E) E H :=
  (conv (B := vc Pr uq_p7 τ (uq_q4 nx40 Q E) E H) (by kernel_rfl) (vc_seq (K := (uq_33_M nx40 Q E)) (uq_39ok nx40 Q E τ H h) (uq_37ok nx40 Q E)))

def uq_41 (Q : QT) (E : ET) (x0 : OA) (x1 : Bool) (x5 : Bool) (x6 : Int) (H : Heap) : Prop :=
 ∃ (I : Bool → Int → HP) (μ : Bool → Int → Heap → Nat), I x5 x6 H ∧ ∀ (x5 : Bool) (x6 : Int) (H : Heap), I x5 x6 H →
 uq_38 (fun x5' x6' H1 => I x5' x6' H1 ∧ μ x5' x6' H1 < μ x5 x6 H) Q E x0 x1 x5 x6 H

def uq_41_M (Q : QT) (E : ET) (τ : Tau) (H : Heap) : Prop := mP (τ 0) fun x0 => mB (τ 1) fun x1 => mB (τ 5) fun x5 => mI .i64 (τ 6) fun x6 => uq_41 Q E x0 x1 x5 x6 H

theorem uq_42ok (Q : QT) (E : ET) (τ : Tau) (H : Heap) (h : uq_41_M Q E τ H) : vc Pr uq_p6 τ (uq_q3 Q E) E H :=
  vP (i := 0) h (fun x0 h => vB (i := 1) h (fun x1 h => vB (i := 5) h (fun x5 h => vI (i := 6) h (fun x6 h => match h with | ⟨I, μ, h0, hr⟩ => (conv (B := vc Pr uq_p6 (Tau.upd (Tau.upd (Tau.upd (Tau.upd τ 0 (.pointer x0)) 1 (.bool x1)) 5 (.bool x5)) 6 (.int .i64 x6)) (uq_q3 Q E) E H) (by kernel_rfl) (vc_loop (c := sI uq_p6) (τ := (Tau.upd (Tau.upd (Tau.upd (Tau.upd τ 0 (.pointer x0)) 1 (.bool x1)) 5 (.bool x5)) 6 (.int .i64 x6))) [0, 1] (fun τ H => mB (τ 5) fun x5' => mI .i64 (τ 6) fun x6' => I x5' x6' H) (fun τ H => μ (gB (τ 5)) (gI (τ 6)) H) (by kernel_rfl) h0 (fun τ1 H1 hf hI => fix_elim (τ := τ1) (i := 0) (v := (.pointer x0)) (G := fun τ => vc Pr (sI uq_p6) τ (xthen (fun τ2 H2 => (mB (τ2 5) fun x5' => mI .i64 (τ2 6) fun x6' => I x5' x6' H2) ∧ μ (gB (τ2 5)) (gI (τ2 6)) H2 < μ (gB (τ 5)) (gI (τ 6)) H1) (uq_q3 Q E)) E H1) (hf 0 (by simp)) (fix_elim (τ := (Tau.upd τ1 0 (.pointer x0))) (i := 1) (v := (.bool x1)) (G := fun τ => vc Pr (sI uq_p6) τ (xthen (fun τ2 H2 => (mB (τ2 5) fun x5' => mI .i64 (τ2 6) fun x6' => I x5' x6' H2) ∧ μ (gB (τ2 5)) (gI (τ2 6)) H2 < μ (gB (τ 5)) (gI (τ 6)) H1) (uq_q3 Q E)) E H1) (hf 1 (by simp)) (mB_elim (i := 5) (G := fun τ => vc Pr (sI uq_p6) τ (xthen (fun τ2 H2 => (mB (τ2 5) fun x5' => mI .i64 (τ2 6) fun x6' => I x5' x6' H2) ∧ μ (gB (τ2 5)) (gI (τ2 6)) H2 < μ (gB (τ 5)) (gI (τ 6)) H1) (uq_q3 Q E)) E H1) hI (fun x5r h => mI_elim (i := 6) (G := fun τ => vc Pr (sI uq_p6) τ (xthen (fun τ2 H2 => (mB (τ2 5) fun x5' => mI .i64 (τ2 6) fun x6' => I x5' x6' H2) ∧ μ (gB (τ2 5)) (gI (τ2 6)) H2 < μ (gB (τ 5)) (gI (τ 6)) H1) (uq_q3 Q E)) E H1) h (fun x6r h => (conv (B := vc Pr (sI uq_p6) (Tau.upd (Tau.upd (Tau.upd (Tau.upd τ1 0 (.pointer x0)) 1 (.bool x1)) 5 (.bool x5r)) 6 (.int .i64 x6r)) (xthen (fun τ2 H2 => (mB (τ2 5) fun x5' => mI .i64 (τ2 6) fun x6' => I x5' x6' H2) ∧ μ (gB (τ2 5)) (gI (τ2 6)) H2 < μ (gB ((Tau.upd (Tau.upd (Tau.upd (Tau.upd τ1 0 (.pointer x0)) 1 (.bool x1)) 5 (.bool x5r)) 6 (.int .i64 x6r)) 5)) (gI ((Tau.upd (Tau.upd (Tau.upd (Tau.upd τ1 0 (.pointer x0)) 1 (.bool x1)) 5 (.bool x5r)) 6 (.int .i64 x6r)) 6)) H1) (uq_q3 Q E)) E H1) (by kernel_rfl) (vc_xthen (uq_40ok (fun x5' x6' H2 => I x5' x6' H2 ∧ μ x5' x6' H2 < μ x5r x6r H1) Q E (Tau.upd (Tau.upd (Tau.upd (Tau.upd τ1 0 (.pointer x0)) 1 (.bool x1)) 5 (.bool x5r)) 6 (.int .i64 x6r)) H1 (conv (B := uq_38_M (fun x5' x6' H2 => I x5' x6' H2 ∧ μ x5' x6' H2 < μ x5r x6r H1) Q E (Tau.upd (Tau.upd (Tau.upd (Tau.upd τ1 0 (.pointer x0)) 1 (.bool x1)) 5 (.bool x5r)) 6 (.int .i64 x6r)) H1) (by kernel_rfl) (hr x5r x6r H1 h))) (fun τ2 H2 hk => mB_elim (i := 5) (G := fun τ => (mB (τ 5) fun x5' => mI .i64 (τ 6) fun x6' => I x5' x6' H2) ∧ μ (gB (τ 5)) (gI (τ 6)) H2 < μ x5r x6r H1) hk (fun x5' h => mI_elim (i := 6) (G := fun τ => (mB (τ 5) fun x5' => mI .i64 (τ 6) fun x6' => I x5' x6' H2) ∧ μ (gB (τ 5)) (gI (τ 6)) H2 < μ x5r x6r H1) h (fun x6' h => h))))))))))))))))

theorem uq_43ok (Q : QT) (E : ET) (τ : Tau) (H : Heap) (h : uq_41_M Q E τ H) : vc Pr uq_p5 τ (uq_q2 Q E) E H :=
  (conv (B := vc Pr uq_p5 τ (uq_q2 Q E) E H) (by kernel_rfl) (uq_42ok Q E τ H h))

@[reducible] noncomputable def uq_q21 (Q : QT) (E : ET) : Exit → Tau → Heap → Prop := (xthen (uq_41_M Q E) (uq_q2 Q E))

@[reducible] noncomputable def uq_p34 : Code := sA uq_p4

def uq_44 (Q : QT) (E : ET) (x0 : OA) (x1 : Bool) (x5 : Bool) (H : Heap) : Prop :=
 uq_41 Q E x0 x1 x5 0 H

def uq_44_M (Q : QT) (E : ET) (τ : Tau) (H : Heap) : Prop := mP (τ 0) fun x0 => mB (τ 1) fun x1 => mB (τ 5) fun x5 => uq_44 Q E x0 x1 x5 H

theorem uq_45ok (Q : QT) (E : ET) (τ : Tau) (H : Heap) (h : uq_44_M Q E τ H) : vc Pr uq_p34 τ (uq_q21 Q E) E H :=
  vP (i := 0) h (fun x0 h => vB (i := 1) h (fun x1 h => vB (i := 5) h (fun x5 h => (conv (by kernel_rfl) h))))

theorem uq_46ok (Q : QT) (E : ET) (τ : Tau) (H : Heap) (h : uq_44_M Q E τ H) : vc Pr uq_p4 τ (uq_q2 Q E) E H :=
  (conv (B := vc Pr uq_p4 τ (uq_q2 Q E) E H) (by kernel_rfl) (vc_seq (K := (uq_41_M Q E)) (uq_45ok Q E τ H h) (uq_43ok Q E)))

theorem uq_47ok (Q : QT) (E : ET) (τ : Tau) (H : Heap) (h : uq_44_M Q E τ H) : vc Pr uq_p2 τ (uq_q1 Q E) E H :=
  (conv (B := vc Pr uq_p2 τ (uq_q1 Q E) E H) (by kernel_rfl) (vc_seq (K := (uq_1_M Q E)) (uq_46ok Q E τ H h) (uq_2ok Q E)))

@[reducible] noncomputable def uq_q22 (Q : QT) (E : ET) : Exit → Tau → Heap → Prop := (xthen (uq_44_M Q E) (uq_q1 Q E))

@[reducible] noncomputable def uq_p35 : Code := sA uq_p1

def uq_48 (Q : QT) (E : ET) (x0 : OA) (x1 : Bool) (H : Heap) : Prop :=
 uq_44 Q E x0 x1 false H

def uq_48_M (Q : QT) (E : ET) (τ : Tau) (H : Heap) : Prop := mP (τ 0) fun x0 => mB (τ 1) fun x1 => uq_48 Q E x0 x1 H

theorem uq_49ok (Q : QT) (E : ET) (τ : Tau) (H : Heap) (h : uq_48_M Q E τ H) : vc Pr uq_p35 τ (uq_q22 Q E) E H :=
  vP (i := 0) h (fun x0 h => vB (i := 1) h (fun x1 h => (conv (by kernel_rfl) h)))

theorem uq_50ok (Q : QT) (E : ET) (τ : Tau) (H : Heap) (h : uq_48_M Q E τ H) : vc Pr uq_p1 τ (uq_q1 Q E) E H :=
  (conv (B := vc Pr uq_p1 τ (uq_q1 Q E) E H) (by kernel_rfl) (vc_seq (K := (uq_44_M Q E)) (uq_49ok Q E τ H h) (uq_47ok Q E)))

@[reducible] noncomputable def uq_q23 (Q : QT) (E : ET) : Exit → Tau → Heap → Prop := (xthen (uq_48_M Q E) (uq_q1 Q E))

@[reducible] noncomputable def uq_p36 : Code := sA uq_p0

def uq (Q : QT) (E : ET) (a0 : OA) (a1 : Bool) (H : Heap) : Prop :=
 uq_48 Q E a0 a1 H

theorem uq_fn (a0 : OA) (a1 : Bool) (Q : QT) (E : ET) (H : Heap) (h : uq Q E a0 a1 H)   : Does Pr 81 #[(.pointer a0), (.bool a1)] H Q E :=
  Fn_of_vc (fn := Try.f81) (c := uq_p0) (args := [(.pointer a0), (.bool a1)]) mixed (by kernel_rfl) (by kernel_rfl) (by kernel_rfl) (by kernel_rfl) (by kernel_rfl) ((conv (B := vc Pr uq_p0 (argT [(.pointer a0), (.bool a1)]) (uq_q1 Q E) E H) (by kernel_rfl) (vc_seq (K := (uq_48_M Q E)) (conv (B := vc Pr uq_p36 (argT [(.pointer a0), (.bool a1)]) (uq_q23 Q E) E H) (by kernel_rfl) h) (uq_50ok Q E))))

/-! (*jobmux/auto.builder).put -/
@[reducible] noncomputable def ur_q1 (Q : QT) (E : ET) : Exit → Tau → Heap → Prop := (retQ Pr (Try.f82).results.toList Q)

@[reducible] noncomputable def ur_p0 : Code := bodyOf Try.f82

def ur (Q : QT) (E : ET) (a0 : OA) (a1_0 : Int) (a1_1 : Int) (a1_2 : Int) (a1_3 : Int) (a1_4 : Int) (a1_5 : Int) (a1_6 : Int) (H : Heap) : Prop :=
 nw (.cells #[(.int .i64 a1_0), (.int .i64 a1_1), (.int .i64 a1_2), (.int .u64 a1_3), (.int .u64 a1_4), (.int .u64 a1_5), (.int .u64 a1_6)] 91 (0, 0)) H fun i1 H2 =>
 ptr a0 fun q3 =>
 ldSl (Addr.add q3 1) H2 fun p4 l5 c6 =>
 ∃ n7 n8 n9 n10 n11 n12 n13 : Int, Heap.rd H2 ⟨i1, 0, none⟩ 0 [(.int .i64 n7), (.int .i64 n8), (.int .i64 n9), (.int .u64 n10), (.int .u64 n11), (.int .u64 n12), (.int .u64 n13)] ∧ nw (.cells #[(.int .i64 n7), (.int .i64 n8), (.int .i64 n9), (.int .u64 n10), (.int .u64 n11), (.int .u64 n12), (.int .u64 n13)] 91 (0, 0)) H2 fun i14 H15 =>
 app Pr 50 p4 l5 c6 (.slice (some ⟨i14, 0, none⟩) 1 1) H15 fun p16 l17 c18 H19 =>
 ptr a0 fun q20 =>
 wr (Addr.add q20 1) [(.slice p16 l17 c18)] H19 fun H21 =>
 ptr a0 fun q22 =>
 ldSl (Addr.add q22 1) H21 fun p23 l24 c25 =>
 Q (.int .i64 (IntKind.wrap .i64 (((l24 : Nat) : Int) - 1))) H21

theorem ur_fn (a0 : OA) (a1_0 : Int) (a1_1 : Int) (a1_2 : Int) (a1_3 : Int) (a1_4 : Int) (a1_5 : Int) (a1_6 : Int) (Q : QT) (E : ET) (H : Heap) (h : ur Q E a0 a1_0 a1_1 a1_2 a1_3 a1_4 a1_5 a1_6 H)   : Does Pr 82 #[(.pointer a0), (.agg #[(.int .i64 a1_0), (.int .i64 a1_1), (.int .i64 a1_2), (.int .u64 a1_3), (.int .u64 a1_4), (.int .u64 a1_5), (.int .u64 a1_6)])] H Q E :=
  Fn_of_vc (fn := Try.f82) (c := ur_p0) (args := [(.pointer a0), (.agg #[(.int .i64 a1_0), (.int .i64 a1_1), (.int .i64 a1_2), (.int .u64 a1_3), (.int .u64 a1_4), (.int .u64 a1_5), (.int .u64 a1_6)])]) mixed (by kernel_rfl) (by kernel_rfl) (by kernel_rfl) (by kernel_rfl) (by kernel_rfl) ((conv (B := vc Pr ur_p0 (argT [(.pointer a0), (.agg #[(.int .i64 a1_0), (.int .i64 a1_1), (.int .i64 a1_2), (.int .u64 a1_3), (.int .u64 a1_4), (.int .u64 a1_5), (.int .u64 a1_6)])]) (ur_q1 Q E) E H) (by kernel_rfl) h))

/-! (*jobmux/auto.builder).build -/
@[reducible] noncomputable def us_q1 (Q : QT) (E : ET) : Exit → Tau → Heap → Prop := (retQ Pr (Try.f83).results.toList Q)

@[reducible] noncomputable def us_p0 : Code := bodyOf Try.f83

@[reducible] noncomputable def us_p1 : Code := sB us_p0

@[reducible] noncomputable def us_p2 : Code := sB us_p1

@[reducible] noncomputable def us_p3 : Code := sB us_p2

def us_1 (Q : QT) (E : ET) (x2 : Int) (H : Heap) : Prop :=
 Q (.int .i64 x2) H

def us_1_M (Q : QT) (E : ET) (τ : Tau) (H : Heap) : Prop := mI .i64 (τ 2) fun x2 => us_1 Q E x2 H

theorem us_2ok (Q : QT) (E : ET) (τ : Tau) (H : Heap) (h : us_1_M Q E τ H) : vc Pr us_p3 τ (us_q1 Q E) E H :=
  vI (i := 2) h (fun x2 h => (conv (by kernel_rfl) h))

@[reducible] noncomputable def us_q2 (Q : QT) (E : ET) : Exit → Tau → Heap → Prop := (xthen (us_1_M Q E) (us_q1 Q E))

@[reducible] noncomputable def us_p4 : Code := sA us_p2

@[reducible] noncomputable def us_p5 : Code := sB us_p4

@[reducible] noncomputable def us_q3 (Q : QT) (E : ET) : Exit → Tau → Heap → Prop := (xblock 0 (us_q2 Q E))

@[reducible] noncomputable def us_p6 : Code := sI us_p5

@[reducible] noncomputable def us_p7 : Code := sB us_p6

@[reducible] noncomputable def us_p8 : Code := sT us_p7

def us_3 (Q : QT) (E : ET) (x0 : OA) (x2 : Int) (x7 : OA) (H : Heap) : Prop :=
 ptr x7 fun q73 =>
 ∃ n74 n75 n76 n77 : Int, Heap.rd H (Addr.add q73 3) 0 [(.int .u64 n74), (.int .u64 n75), (.int .u64 n76), (.int .u64 n77)] ∧ Does Pr 82 #[(.pointer x0), (.agg #[(.int .i64 1), (.int .i64 x2), (.int .i64 0), (.int .u64 n74), (.int .u64 n75), (.int .u64 n76), (.int .u64 n77)])] H (fun v78 H79 =>
 ∃ n80 : Int, v78 = (.int .i64 n80) ∧ Q (.int .i64 n80) H79) E

def us_3_M (Q : QT) (E : ET) (τ : Tau) (H : Heap) : Prop := mP (τ 0) fun x0 => mI .i64 (τ 2) fun x2 => mP (τ 7) fun x7 => us_3 Q E x0 x2 x7 H

theorem us_4ok (Q : QT) (E : ET) (τ : Tau) (H : Heap) (h : us_3_M Q E τ H) : vc Pr us_p8 τ (us_q3 Q E) E H :=
  vP (i := 0) h (fun x0 h => vI (i := 2) h (fun x2 h => vP (i := 7) h (fun x7 h => (conv (by kernel_rfl) h))))

@[reducible] noncomputable def us_p9 : Code := sE us_p7

@[reducible] noncomputable def us_p10 : Code := sB us_p9

@[reducible] noncomputable def us_p11 : Code := sT us_p10

def us_5 (Q : QT) (E : ET) (x0 : OA) (x2 : Int) (H : Heap) : Prop :=
 Does Pr 82 #[(.pointer x0), (.agg #[(.int .i64 3), (.int .i64 x2), (.int .i64 0), (.int .u64 0), (.int .u64 0), (.int .u64 0), (.int .u64 0)])] H (fun v81 H82 =>
 ∃ n83 : Int, v81 = (.int .i64 n83) ∧ Q (.int .i64 n83) H82) E

def us_5_M (Q : QT) (E : ET) (τ : Tau) (H : Heap) : Prop := mP (τ 0) fun x0 => mI .i64 (τ 2) fun x2 => us_5 Q E x0 x2 H

theorem us_6ok (Q : QT) (E : ET) (τ : Tau) (H : Heap) (h : us_5_M Q E τ H) : vc Pr us_p11 τ (us_q3 Q E) E H :=
  vP (i := 0) h (fun x0 h => vI (i := 2) h (fun x2 h => (conv (by kernel_rfl) h)))

@[reducible] noncomputable def us_p12 : Code := sE us_p10

@[reducible] noncomputable def us_p13 : Code := sB us_p12

@[reducible] noncomputable def us_p14 : Code := sT us_p13

def us_7 (Q : QT) (E : ET) (x0 : OA) (x2 : Int) (H : Heap) : Prop :=
 Does Pr 82 #[(.pointer x0), (.agg #[(.int .i64 4), (.int .i64 x2), (.int .i64 0), (.int .u64 0), (.int .u64 0), (.int .u64 0), (.int .u64 0)])] H (fun v84 H85 =>
 ∃ n86 : Int, v84 = (.int .i64 n86) ∧ Q (.int .i64 n86) H85) E

def us_7_M (Q : QT) (E : ET) (τ : Tau) (H : Heap) : Prop := mP (τ 0) fun x0 => mI .i64 (τ 2) fun x2 => us_7 Q E x0 x2 H

theorem us_8ok (Q : QT) (E : ET) (τ : Tau) (H : Heap) (h : us_7_M Q E τ H) : vc Pr us_p14 τ (us_q3 Q E) E H :=
  vP (i := 0) h (fun x0 h => vI (i := 2) h (fun x2 h => (conv (by kernel_rfl) h)))

@[reducible] noncomputable def us_p15 : Code := sE us_p13

@[reducible] noncomputable def us_p16 : Code := sB us_p15

@[reducible] noncomputable def us_p17 : Code := sT us_p16

def us_9 (Q : QT) (E : ET) (x0 : OA) (x2 : Int) (x7 : OA) (H : Heap) : Prop :=
 ∃ Z87 : Nat → Prop,
 ptr x7 fun q88 =>
 Z87 (Addr.block (Addr.add q88 1)) ∧ ldI .i64 (Addr.add q88 1) H fun n89 =>
 ptr x7 fun q90 =>
 ldI .i64 (Addr.add q90 2) H fun n91 =>
 Does Pr 83 #[(.pointer x0), (.int .i64 n91), (.int .i64 x2)] H (fun v92 H93 =>
 ∃ n94 : Int, v92 = (.int .i64 n94) ∧ (∀ z, Z87 z → H93 z = H z) ∧ Does Pr 83 #[(.pointer x0), (.int .i64 n89), (.int .i64 n94)] H93 (fun v95 H96 =>
 ∃ n97 : Int, v95 = (.int .i64 n97) ∧ Q (.int .i64 n97) H96) (fun _ _ => False)) (fun _ _ => False)

def us_9_M (Q : QT) (E : ET) (τ : Tau) (H : Heap) : Prop := mP (τ 0) fun x0 => mI .i64 (τ 2) fun x2 => mP (τ 7) fun x7 => us_9 Q E x0 x2 x7 H

theorem us_10ok (Q : QT) (E : ET) (τ : Tau) (H : Heap) (h : us_9_M Q E τ H) : vc Pr us_p17 τ (us_q3 Q E) E H :=
  vP (i := 0) h (fun x0 h => vI (i := 2) h (fun x2 h => vP (i := 7) h (fun x7 h => (conv (by kernel_rfl) h))))

@[reducible] noncomputable def us_p18 : Code := sE us_p16

@[reducible] noncomputable def us_p19 : Code := sB us_p18

@[reducible] noncomputable def us_p20 : Code := sT us_p19

def us_11 (Q : QT) (E : ET) (x0 : OA) (x2 : Int) (x7 : OA) (H : Heap) : Prop :=
 ∃ Z98 : Nat → Prop,
 ptr x7 fun q99 =>
 ldI .i64 (Addr.add q99 1) H fun n100 =>
 ptr x7 fun q101 =>
 Z98 (Addr.block (Addr.add q101 2)) ∧ ldI .i64 (Addr.add q101 2) H fun n102 =>
 Does Pr 83 #[(.pointer x0), (.int .i64 n100), (.int .i64 x2)] H (fun v103 H104 =>
 ∃ n105 : Int, v103 = (.int .i64 n105) ∧ (∀ z, Z98 z → H104 z = H z) ∧ Does Pr 83 #[(.pointer x0), (.int .i64 n102), (.int .i64 x2)] H104 (fun v106 H107 =>
 ∃ n108 : Int, v106 = (.int .i64 n108) ∧ Does Pr 82 #[(.pointer x0), (.agg #[(.int .i64 2), (.int .i64 n105), (.int .i64 n108), (.int .u64 0), (.int .u64 0), (.int .u64 0), (.int .u64 0)])] H107 (fun v109 H110 =>
 ∃ n111 : Int, v109 = (.int .i64 n111) ∧ Q (.int .i64 n111) H110) (fun _ _ => False)) (fun _ _ => False)) (fun _ _ => False)

def us_11_M (Q : QT) (E : ET) (τ : Tau) (H : Heap) : Prop := mP (τ 0) fun x0 => mI .i64 (τ 2) fun x2 => mP (τ 7) fun x7 => us_11 Q E x0 x2 x7 H

theorem us_12ok (Q : QT) (E : ET) (τ : Tau) (H : Heap) (h : us_11_M Q E τ H) : vc Pr us_p20 τ (us_q3 Q E) E H :=
  vP (i := 0) h (fun x0 h => vI (i := 2) h (fun x2 h => vP (i := 7) h (fun x7 h => (conv (by kernel_rfl) h))))

@[reducible] noncomputable def us_p21 : Code := sE us_p19

@[reducible] noncomputable def us_p22 : Code := sB us_p21

@[reducible] noncomputable def us_p23 : Code := sT us_p22

def us_13 (Q : QT) (E : ET) (x0 : OA) (x2 : Int) (x7 : OA) (H : Heap) : Prop :=
 ptr x7 fun q112 =>
 ldI .i64 (Addr.add q112 1) H fun n113 =>
 Does Pr 83 #[(.pointer x0), (.int .i64 n113), (.int .i64 x2)] H (fun v114 H115 =>
 ∃ n116 : Int, v114 = (.int .i64 n116) ∧ Does Pr 82 #[(.pointer x0), (.agg #[(.int .i64 2), (.int .i64 n116), (.int .i64 x2), (.int .u64 0), (.int .u64 0), (.int .u64 0), (.int .u64 0)])] H115 (fun v117 H118 =>
 ∃ n119 : Int, v117 = (.int .i64 n119) ∧ Q (.int .i64 n119) H118) E) E

def us_13_M (Q : QT) (E : ET) (τ : Tau) (H : Heap) : Prop := mP (τ 0) fun x0 => mI .i64 (τ 2) fun x2 => mP (τ 7) fun x7 => us_13 Q E x0 x2 x7 H

theorem us_14ok (Q : QT) (E : ET) (τ : Tau) (H : Heap) (h : us_13_M Q E τ H) : vc Pr us_p23 τ (us_q3 Q E) E H :=
  vP (i := 0) h (fun x0 h => vI (i := 2) h (fun x2 h => vP (i := 7) h (fun x7 h => (conv (by kernel_rfl) h))))

@[reducible] noncomputable def us_p24 : Code := sE us_p22

@[reducible] noncomputable def us_p25 : Code := sB us_p24

@[reducible] noncomputable def us_p26 : Code := sT us_p25

@[reducible] noncomputable def us_p27 : Code := sB us_p26

@[reducible] noncomputable def us_p28 : Code := sB us_p27

@[reducible] noncomputable def us_p29 : Code := sB us_p28

@[reducible] noncomputable def us_p30 : Code := sB us_p29

def us_15 (Q : QT) (E : ET) (x8 : Int) (H : Heap) : Prop :=
 Q (.int .i64 x8) H

def us_15_M (Q : QT) (E : ET) (τ : Tau) (H : Heap) : Prop := mI .i64 (τ 8) fun x8 => us_15 Q E x8 H

theorem us_16ok (Q : QT) (E : ET) (τ : Tau) (H : Heap) (h : us_15_M Q E τ H) : vc Pr us_p30 τ (us_q3 Q E) E H :=
  vI (i := 8) h (fun x8 h => (conv (by kernel_rfl) h))

@[reducible] noncomputable def us_q4 (Q : QT) (E : ET) : Exit → Tau → Heap → Prop := (xthen (us_15_M Q E) (us_q3 Q E))

@[reducible] noncomputable def us_p31 : Code := sA us_p29

def us_17 (Q : QT) (E : ET) (x7 : OA) (x8 : Int) (x9 : Int) (H : Heap) : Prop :=
 ptr x7 fun q134 =>
 ldI .i64 q134 H fun n135 =>
 sel ((n135 : Int) == 6)
 (Q (.int .i64 x9) H)
 (us_15 Q E x8 H)

def us_17_M (Q : QT) (E : ET) (τ : Tau) (H : Heap) : Prop := mP (τ 7) fun x7 => mI .i64 (τ 8) fun x8 => mI .i64 (τ 9) fun x9 => us_17 Q E x7 x8 x9 H

theorem us_18ok (Q : QT) (E : ET) (τ : Tau) (H : Heap) (h : us_17_M Q E τ H) : vc Pr us_p31 τ (us_q4 Q E) E H :=
  vP (i := 7) h (fun x7 h => vI (i := 8) h (fun x8 h => vI (i := 9) h (fun x9 h => (conv (by kernel_rfl) h))))

theorem us_19ok (Q : QT) (E : ET) (τ : Tau) (H : Heap) (h : us_17_M Q E τ H) : vc Pr us_p29 τ (us_q3 Q E) E H :=
  (conv (B := vc Pr us_p29 τ (us_q3 Q E) E H) (by kernel_rfl) (vc_seq (K := (us_15_M Q E)) (us_18ok Q E τ H h) (us_16ok Q E)))

@[reducible] noncomputable def us_q5 (Q : QT) (E : ET) : Exit → Tau → Heap → Prop := (xthen (us_17_M Q E) (us_q3 Q E))

@[reducible] noncomputable def us_p32 : Code := sA us_p28

def us_20 (Q : QT) (E : ET) (x0 : OA) (x7 : OA) (x8 : Int) (x9 : Int) (H : Heap) : Prop :=
 ptr x0 fun q136 =>
 ldSl (Addr.add q136 1) H fun p137 l138 c139 =>
 (0 ≤ (x8 : Int) ∧ (x8 : Int) < ((l138 : Nat) : Int)) ∧ ptr p137 fun q140 =>
 wr (Addr.add (Addr.add q140 ((x8 : Int).toNat * 7)) 1) [(.int .i64 x9)] H fun H141 =>
 us_17 Q E x7 x8 x9 H141

def us_20_M (Q : QT) (E : ET) (τ : Tau) (H : Heap) : Prop := mP (τ 0) fun x0 => mP (τ 7) fun x7 => mI .i64 (τ 8) fun x8 => mI .i64 (τ 9) fun x9 => us_20 Q E x0 x7 x8 x9 H

theorem us_21ok (Q : QT) (E : ET) (τ : Tau) (H : Heap) (h : us_20_M Q E τ H) : vc Pr us_p32 τ (us_q5 Q E) E H :=
  vP (i := 0) h (fun x0 h => vP (i := 7) h (fun x7 h => vI (i := 8) h (fun x8 h => vI (i := 9) h (fun x9 h => (conv (by kernel_rfl) h)))))

theorem us_22ok (Q : QT) (E : ET) (τ : Tau) (H : Heap) (h : us_20_M Q E τ H) : vc Pr us_p28 τ (us_q3 Q E) E H :=
  (conv (B := vc Pr us_p28 τ (us_q3 Q E) E H) (by kernel_rfl) (vc_seq (K := (us_17_M Q E)) (us_21ok Q E τ H h) (us_19ok Q E)))

@[reducible] noncomputable def us_q6 (Q : QT) (E : ET) : Exit → Tau → Heap → Prop := (xthen (us_20_M Q E) (us_q3 Q E))

@[reducible] noncomputable def us_p33 : Code := sA us_p27

def us_23 (Q : QT) (E : ET) (x0 : OA) (x7 : OA) (x8 : Int) (H : Heap) : Prop :=
 ptr x7 fun q142 =>
 ldI .i64 (Addr.add q142 1) H fun n143 =>
 Does Pr 83 #[(.pointer x0), (.int .i64 n143), (.int .i64 x8)] H (fun v144 H145 =>
 ∃ n146 : Int, v144 = (.int .i64 n146) ∧ us_20 Q E x0 x7 x8 n146 H145) E

def us_23_M (Q : QT) (E : ET) (τ : Tau) (H : Heap) : Prop := mP (τ 0) fun x0 => mP (τ 7) fun x7 => mI .i64 (τ 8) fun x8 => us_23 Q E x0 x7 x8 H

theorem us_24ok (Q : QT) (E : ET) (τ : Tau) (H : Heap) (h : us_23_M Q E τ H) : vc Pr us_p33 τ (us_q6 Q E) E H :=
  vP (i := 0) h (fun x0 h => vP (i := 7) h (fun x7 h => vI (i := 8) h (fun x8 h => (conv (by kernel_rfl) h))))

theorem us_25ok (Q : QT) (E : ET) (τ : Tau) (H : Heap) (h : us_23_M Q E τ H) : vc Pr us_p27 τ (us_q3 Q E) E H :=
  (conv (B := vc Pr us_p27 τ (us_q3 Q E) E H) (by kernel_rfl) (vc_seq (K := (us_20_M Q E)) (us_24ok Q E τ H h) (us_22ok Q E)))

@[reducible] noncomputable def us_q7 (Q : QT) (E : ET) : Exit → Tau → Heap → Prop := (xthen (us_23_M Q E) (us_q3 Q E))

@[reducible] noncomputable def us_p34 : Code := sA us_p26

def us_26 (Q : QT) (E : ET) (x0 : OA) (x2 : Int) (x7 : OA) (H : Heap) : Prop :=
 Does Pr 82 #[(.pointer x0), (.agg #[(.int .i64 2), (.int .i64 0), (.int .i64 x2), (.int .u64 0), (.int .u64 0), (.int .u64 0), (.int .u64 0)])] H (fun v147 H148 =>
 ∃ n149 : Int, v147 = (.int .i64 n149) ∧ us_23 Q E x0 x7 n149 H148) E

def us_26_M (Q : QT) (E : ET) (τ : Tau) (H : Heap) : Prop := mP (τ 0) fun x0 => mI .i64 (τ 2) fun x2 => mP (τ 7) fun x7 => us_26 Q E x0 x2 x7 H

theorem us_27ok (Q : QT) (E : ET) (τ : Tau) (H : Heap) (h : us_26_M Q E τ H) : vc Pr us_p34 τ (us_q7 Q E) E H :=
  vP (i := 0) h (fun x0 h => vI (i := 2) h (fun x2 h => vP (i := 7) h (fun x7 h => (conv (by kernel_rfl) h))))

theorem us_28ok (Q : QT) (E : ET) (τ : Tau) (H : Heap) (h : us_26_M Q E τ H) : vc Pr us_p26 τ (us_q3 Q E) E H :=
  (conv (B := vc Pr us_p26 τ (us_q3 Q E) E H) (by kernel_rfl) (vc_seq (K := (us_23_M Q E)) (us_27ok Q E τ H h) (us_25ok Q E)))

@[reducible] noncomputable def us_p35 : Code := sE us_p25

def us_29 (Q : QT) (E : ET) (x2 : Int) (H : Heap) : Prop :=
 us_1 Q E x2 H

def us_29_M (Q : QT) (E : ET) (τ : Tau) (H : Heap) : Prop := mI .i64 (τ 2) fun x2 => us_29 Q E x2 H

theorem us_30ok (Q : QT) (E : ET) (τ : Tau) (H : Heap) (h : us_29_M Q E τ H) : vc Pr us_p35 τ (us_q3 Q E) E H :=
  vI (i := 2) h (fun x2 h => (conv (by kernel_rfl) h))

def us_31 (Q : QT) (E : ET) (x0 : OA) (x2 : Int) (x7 : OA) (x76 : Bool) (H : Heap) : Prop :=
 sel x76
 (us_26 Q E x0 x2 x7 H)
 (us_29 Q E x2 H)

def us_31_M (Q : QT) (E : ET) (τ : Tau) (H : Heap) : Prop := mP (τ 0) fun x0 => mI .i64 (τ 2) fun x2 => mP (τ 7) fun x7 => mB (τ 76) fun x76 => us_31 Q E x0 x2 x7 x76 H

theorem us_32ok (Q : QT) (E : ET) (τ : Tau) (H : Heap) (h : us_31_M Q E τ H) : vc Pr us_p25 τ (us_q3 Q E) E H :=
  vP (i := 0) h (fun x0 h => vI (i := 2) h (fun x2 h => vP (i := 7) h (fun x7 h => vB (i := 76) h (fun x76 h => (conv (B := vc Pr us_p25 (Tau.upd (Tau.upd (Tau.upd (Tau.upd τ 0 (.pointer x0)) 2 (.int .i64 x2)) 7 (.pointer x7)) 76 (.bool x76)) (us_q3 Q E) E H) (by kernel_rfl) (sel_map (us_28ok Q E (Tau.upd (Tau.upd (Tau.upd (Tau.upd τ 0 (.pointer x0)) 2 (.int .i64 x2)) 7 (.pointer x7)) 76 (.bool x76)) H) (us_30ok Q E (Tau.upd (Tau.upd (Tau.upd (Tau.upd τ 0 (.pointer x0)) 2 (.int .i64 x2)) 7 (.pointer x7)) 76 (.bool x76)) H) (conv (B := sel x76 (us_26_M Q E (Tau.upd (Tau.upd (Tau.upd (Tau.upd τ 0 (.pointer x0)) 2 (.int .i64 x2)) 7 (.pointer x7)) 76 (.bool x76)) H) (us_29_M Q E (Tau.upd (Tau.upd (Tau.upd (Tau.upd τ 0 (.pointer x0)) 2 (.int .i64 x2)) 7 (.pointer x7)) 76 (.bool x76)) H)) (by kernel_rfl) h)))))))

@[reducible] noncomputable def us_q8 (Q : QT) (E : ET) : Exit → Tau → Heap → Prop := (xthen (us_31_M Q E) (us_q3 Q E))

@[reducible] noncomputable def us_p36 : Code := sA us_p24

def us_33 (Q : QT) (E : ET) (x0 : OA) (x2 : Int) (x7 : OA) (x18 : Int) (H : Heap) : Prop :=
 sel ((x18 : Int) == 5)
 (us_31 Q E x0 x2 x7 ((x18 : Int) == 5) H)
 (us_31 Q E x0 x2 x7 ((x18 : Int) == 6) H)

def us_33_M (Q : QT) (E : ET) (τ : Tau) (H : Heap) : Prop := mP (τ 0) fun x0 => mI .i64 (τ 2) fun x2 => mP (τ 7) fun x7 => mI .i64 (τ 18) fun x18 => us_33 Q E x0 x2 x7 x18 H

theorem us_34ok (Q : QT) (E : ET) (τ : Tau) (H : Heap) (h : us_33_M Q E τ H) : vc Pr us_p36 τ (us_q8 Q E) E H :=
  vP (i := 0) h (fun x0 h => vI (i := 2) h (fun x2 h => vP (i := 7) h (fun x7 h => vI (i := 18) h (fun x18 h => (conv (by kernel_rfl) h)))))

theorem us_35ok (Q : QT) (E : ET) (τ : Tau) (H : Heap) (h : us_33_M Q E τ H) : vc Pr us_p24 τ (us_q3 Q E) E H :=
  (conv (B := vc Pr us_p24 τ (us_q3 Q E) E H) (by kernel_rfl) (vc_seq (K := (us_31_M Q E)) (us_34ok Q E τ H h) (us_32ok Q E)))

def us_36 (Q : QT) (E : ET) (x0 : OA) (x2 : Int) (x7 : OA) (x18 : Int) (x65 : Bool) (H : Heap) : Prop :=
 sel x65
 (us_13 Q E x0 x2 x7 H)
 (us_33 Q E x0 x2 x7 x18 H)

def us_36_M (Q : QT) (E : ET) (τ : Tau) (H : Heap) : Prop := mP (τ 0) fun x0 => mI .i64 (τ 2) fun x2 => mP (τ 7) fun x7 => mI .i64 (τ 18) fun x18 => mB (τ 65) fun x65 => us_36 Q E x0 x2 x7 x18 x65 H

theorem us_37ok (Q : QT) (E : ET) (τ : Tau) (H : Heap) (h : us_36_M Q E τ H) : vc Pr us_p22 τ (us_q3 Q E) E H :=
  vP (i := 0) h (fun x0 h => vI (i := 2) h (fun x2 h => vP (i := 7) h (fun x7 h => vI (i := 18) h (fun x18 h => vB (i := 65) h (fun x65 h => (conv (B := vc Pr us_p22 (Tau.upd (Tau.upd (Tau.upd (Tau.upd (Tau.upd τ 0 (.pointer x0)) 2 (.int .i64 x2)) 7 (.pointer x7)) 18 (.int .i64 x18)) 65 (.bool x65)) (us_q3 Q E) E H) (by kernel_rfl) (sel_map (us_14ok Q E (Tau.upd (Tau.upd (Tau.upd (Tau.upd (Tau.upd τ 0 (.pointer x0)) 2 (.int .i64 x2)) 7 (.pointer x7)) 18 (.int .i64 x18)) 65 (.bool x65)) H) (us_35ok Q E (Tau.upd (Tau.upd (Tau.upd (Tau.upd (Tau.upd τ 0 (.pointer x0)) 2 (.int .i64 x2)) 7 (.pointer x7)) 18 (.int .i64 x18)) 65 (.bool x65)) H) (conv (B := sel x65 (us_13_M Q E (Tau.upd (Tau.upd (Tau.upd (Tau.upd (Tau.upd τ 0 (.pointer x0)) 2 (.int .i64 x2)) 7 (.pointer x7)) 18 (.int .i64 x18)) 65 (.bool x65)) H) (us_33_M Q E (Tau.upd (Tau.upd (Tau.upd (Tau.upd (Tau.upd τ 0 (.pointer x0)) 2 (.int .i64 x2)) 7 (.pointer x7)) 18 (.int .i64 x18)) 65 (.bool x65)) H)) (by kernel_rfl) h))))))))

@[reducible] noncomputable def us_q9 (Q : QT) (E : ET) : Exit → Tau → Heap → Prop := (xthen (us_36_M Q E) (us_q3 Q E))

@[reducible] noncomputable def us_p37 : Code := sA us_p21

def us_38 (Q : QT) (E : ET) (x0 : OA) (x2 : Int) (x7 : OA) (x18 : Int) (H : Heap) : Prop :=
 us_36 Q E x0 x2 x7 x18 ((x18 : Int) == 7) H

def us_38_M (Q : QT) (E : ET) (τ : Tau) (H : Heap) : Prop := mP (τ 0) fun x0 => mI .i64 (τ 2) fun x2 => mP (τ 7) fun x7 => mI .i64 (τ 18) fun x18 => us_38 Q E x0 x2 x7 x18 H

theorem us_39ok (Q : QT) (E : ET) (τ : Tau) (H : Heap) (h : us_38_M Q E τ H) : vc Pr us_p37 τ (us_q9 Q E) E H :=
  vP (i := 0) h (fun x0 h => vI (i := 2) h (fun x2 h => vP (i := 7) h (fun x7 h => vI (i := 18) h (fun x18 h => (conv (by kernel_rfl) h)))))

theorem us_40ok (Q : QT) (E : ET) (τ : Tau) (H : Heap) (h : us_38_M Q E τ H) : vc Pr us_p21 τ (us_q3 Q E) E H :=
  (conv (B := vc Pr us_p21 τ (us_q3 Q E) E H) (by kernel_rfl) (vc_seq (K := (us_36_M Q E)) (us_39ok Q E τ H h) (us_37ok Q E)))

def us_41 (Q : QT) (E : ET) (x0 : OA) (x2 : Int) (x7 : OA) (x18 : Int) (x50 : Bool) (H : Heap) : Prop :=
 sel x50
 (us_11 Q E x0 x2 x7 H)
 (us_38 Q E x0 x2 x7 x18 H)

def us_41_M (Q : QT) (E : ET) (τ : Tau) (H : Heap) : Prop := mP (τ 0) fun x0 => mI .i64 (τ 2) fun x2 => mP (τ 7) fun x7 => mI .i64 (τ 18) fun x18 => mB (τ 50) fun x50 => us_41 Q E x0 x2 x7 x18 x50 H

theorem us_42ok (Q : QT) (E : ET) (τ : Tau) (H : Heap) (h : us_41_M Q E τ H) : vc Pr us_p19 τ (us_q3 Q E) E H :=
  vP (i := 0) h (fun x0 h => vI (i := 2) h (fun x2 h => vP (i := 7) h (fun x7 h => vI (i := 18) h (fun x18 h => vB (i := 50) h (fun x50 h => (conv (B := vc Pr us_p19 (Tau.upd (Tau.upd (Tau.upd (Tau.upd (Tau.upd τ 0 (.pointer x0)) 2 (.int .i64 x2)) 7 (.pointer x7)) 18 (.int .i64 x18)) 50 (.bool x50)) (us_q3 Q E) E H) (by kernel_rfl) (sel_map (us_12ok Q E (Tau.upd (Tau.upd (Tau.upd (Tau.upd (Tau.upd τ 0 (.pointer x0)) 2 (.int .i64 x2)) 7 (.pointer x7)) 18 (.int .i64 x18)) 50 (.bool x50)) H) (us_40ok Q E (Tau.upd (Tau.upd (Tau.upd (Tau.upd (Tau.upd τ 0 (.pointer x0)) 2 (.int .i64 x2)) 7 (.pointer x7)) 18 (.int .i64 x18)) 50 (.bool x50)) H) (conv (B := sel x50 (us_11_M Q E (Tau.upd (Tau.upd (Tau.upd (Tau.upd (Tau.upd τ 0 (.pointer x0)) 2 (.int .i64 x2)) 7 (.pointer x7)) 18 (.int .i64 x18)) 50 (.bool x50)) H) (us_38_M Q E (Tau.upd (Tau.upd (Tau.upd (Tau.upd (Tau.upd τ 0 (.pointer x0)) 2 (.int .i64 x2)) 7 (.pointer x7)) 18 (.int .i64 x18)) 50 (.bool x50)) H)) (by kernel_rfl) h))))))))

@[reducible] noncomputable def us_q10 (Q : QT) (E : ET) : Exit → Tau → Heap → Prop := (xthen (us_41_M Q E) (us_q3 Q E))

@[reducible] noncomputable def us_p38 : Code := sA us_p18

def us_43 (Q : QT) (E : ET) (x0 : OA) (x2 : Int) (x7 : OA) (x18 : Int) (H : Heap) : Prop :=
 us_41 Q E x0 x2 x7 x18 ((x18 : Int) == 4) H

def us_43_M (Q : QT) (E : ET) (τ : Tau) (H : Heap) : Prop := mP (τ 0) fun x0 => mI .i64 (τ 2) fun x2 => mP (τ 7) fun x7 => mI .i64 (τ 18) fun x18 => us_43 Q E x0 x2 x7 x18 H

theorem us_44ok (Q : QT) (E : ET) (τ : Tau) (H : Heap) (h : us_43_M Q E τ H) : vc Pr us_p38 τ (us_q10 Q E) E H :=
  vP (i := 0) h (fun x0 h => vI (i := 2) h (fun x2 h => vP (i := 7) h (fun x7 h => vI (i := 18) h (fun x18 h => (conv (by kernel_rfl) h)))))

theorem us_45ok (Q : QT) (E : ET) (τ : Tau) (H : Heap) (h : us_43_M Q E τ H) : vc Pr us_p18 τ (us_q3 Q E) E H :=
  (conv (B := vc Pr us_p18 τ (us_q3 Q E) E H) (by kernel_rfl) (vc_seq (K := (us_41_M Q E)) (us_44ok Q E τ H h) (us_42ok Q E)))

def us_46 (Q : QT) (E : ET) (x0 : OA) (x2 : Int) (x7 : OA) (x18 : Int) (x39 : Bool) (H : Heap) : Prop :=
 sel x39
 (us_9 Q E x0 x2 x7 H)
 (us_43 Q E x0 x2 x7 x18 H)

def us_46_M (Q : QT) (E : ET) (τ : Tau) (H : Heap) : Prop := mP (τ 0) fun x0 => mI .i64 (τ 2) fun x2 => mP (τ 7) fun x7 => mI .i64 (τ 18) fun x18 => mB (τ 39) fun x39 => us_46 Q E x0 x2 x7 x18 x39 H

theorem us_47ok (Q : QT) (E : ET) (τ : Tau) (H : Heap) (h : us_46_M Q E τ H) : vc Pr us_p16 τ (us_q3 Q E) E H :=
  vP (i := 0) h (fun x0 h => vI (i := 2) h (fun x2 h => vP (i := 7) h (fun x7 h => vI (i := 18) h (fun x18 h => vB (i := 39) h (fun x39 h => (conv (B := vc Pr us_p16 (Tau.upd (Tau.upd (Tau.upd (Tau.upd (Tau.upd τ 0 (.pointer x0)) 2 (.int .i64 x2)) 7 (.pointer x7)) 18 (.int .i64 x18)) 39 (.bool x39)) (us_q3 Q E) E H) (by kernel_rfl) (sel_map (us_10ok Q E (Tau.upd (Tau.upd (Tau.upd (Tau.upd (Tau.upd τ 0 (.pointer x0)) 2 (.int .i64 x2)) 7 (.pointer x7)) 18 (.int .i64 x18)) 39 (.bool x39)) H) (us_45ok Q E (Tau.upd (Tau.upd (Tau.upd (Tau.upd (Tau.upd τ 0 (.pointer x0)) 2 (.int .i64 x2)) 7 (.pointer x7)) 18 (.int .i64 x18)) 39 (.bool x39)) H) (conv (B := sel x39 (us_9_M Q E (Tau.upd (Tau.upd (Tau.upd (Tau.upd (Tau.upd τ 0 (.pointer x0)) 2 (.int .i64 x2)) 7 (.pointer x7)) 18 (.int .i64 x18)) 39 (.bool x39)) H) (us_43_M Q E (Tau.upd (Tau.upd (Tau.upd (Tau.upd (Tau.upd τ 0 (.pointer x0)) 2 (.int .i64 x2)) 7 (.pointer x7)) 18 (.int .i64 x18)) 39 (.bool x39)) H)) (by kernel_rfl) h))))))))

@[reducible] noncomputable def us_q11 (Q : QT) (E : ET) : Exit → Tau → Heap → Prop := (xthen (us_46_M Q E) (us_q3 Q E))

@[reducible] noncomputable def us_p39 : Code := sA us_p15

def us_48 (Q : QT) (E : ET) (x0 : OA) (x2 : Int) (x7 : OA) (x18 : Int) (H : Heap) : Prop :=
 us_46 Q E x0 x2 x7 x18 ((x18 : Int) == 3) H

def us_48_M (Q : QT) (E : ET) (τ : Tau) (H : Heap) : Prop := mP (τ 0) fun x0 => mI .i64 (τ 2) fun x2 => mP (τ 7) fun x7 => mI .i64 (τ 18) fun x18 => us_48 Q E x0 x2 x7 x18 H

theorem us_49ok (Q : QT) (E : ET) (τ : Tau) (H : Heap) (h : us_48_M Q E τ H) : vc Pr us_p39 τ (us_q11 Q E) E H :=
  vP (i := 0) h (fun x0 h => vI (i := 2) h (fun x2 h => vP (i := 7) h (fun x7 h => vI (i := 18) h (fun x18 h => (conv (by kernel_rfl) h)))))

theorem us_50ok (Q : QT) (E : ET) (τ : Tau) (H : Heap) (h : us_48_M Q E τ H) : vc Pr us_p15 τ (us_q3 Q E) E H :=
  (conv (B := vc Pr us_p15 τ (us_q3 Q E) E H) (by kernel_rfl) (vc_seq (K := (us_46_M Q E)) (us_49ok Q E τ H h) (us_47ok Q E)))

def us_51 (Q : QT) (E : ET) (x0 : OA) (x2 : Int) (x7 : OA) (x18 : Int) (x33 : Bool) (H : Heap) : Prop :=
 sel x33
 (us_7 Q E x0 x2 H)
 (us_48 Q E x0 x2 x7 x18 H)

def us_51_M (Q : QT) (E : ET) (τ : Tau) (H : Heap) : Prop := mP (τ 0) fun x0 => mI .i64 (τ 2) fun x2 => mP (τ 7) fun x7 => mI .i64 (τ 18) fun x18 => mB (τ 33) fun x33 => us_51 Q E x0 x2 x7 x18 x33 H

theorem us_52ok (Q : QT) (E : ET) (τ : Tau) (H : Heap) (h : us_51_M Q E τ H) : vc Pr us_p13 τ (us_q3 Q E) E H :=
  vP (i := 0) h (fun x0 h => vI (i := 2) h (fun x2 h => vP (i := 7) h (fun x7 h => vI (i := 18) h (fun x18 h => vB (i := 33) h (fun x33 h => (conv (B := vc Pr us_p13 (Tau.upd (Tau.upd (Tau.upd (Tau.upd (Tau.upd τ 0 (.pointer x0)) 2 (.int .i64 x2)) 7 (.pointer x7)) 18 (.int .i64 x18)) 33 (.bool x33)) (us_q3 Q E) E H) (by kernel_rfl) (sel_map (us_8ok Q E (Tau.upd (Tau.upd (Tau.upd (Tau.upd (Tau.upd τ 0 (.pointer x0)) 2 (.int .i64 x2)) 7 (.pointer x7)) 18 (.int .i64 x18)) 33 (.bool x33)) H) (us_50ok Q E (Tau.upd (Tau.upd (Tau.upd (Tau.upd (Tau.upd τ 0 (.pointer x0)) 2 (.int .i64 x2)) 7 (.pointer x7)) 18 (.int .i64 x18)) 33 (.bool x33)) H) (conv (B := sel x33 (us_7_M Q E (Tau.upd (Tau.upd (Tau.upd (Tau.upd (Tau.upd τ 0 (.pointer x0)) 2 (.int .i64 x2)) 7 (.pointer x7)) 18 (.int .i64 x18)) 33 (.bool x33)) H) (us_48_M Q E (Tau.upd (Tau.upd (Tau.upd (Tau.upd (Tau.upd τ 0 (.pointer x0)) 2 (.int .i64 x2)) 7 (.pointer x7)) 18 (.int .i64 x18)) 33 (.bool x33)) H)) (by kernel_rfl) h))))))))

@[reducible] noncomputable def us_q12 (Q : QT) (E : ET) : Exit → Tau → Heap → Prop := (xthen (us_51_M Q E) (us_q3 Q E))

@[reducible] noncomputable def us_p40 : Code := sA us_p12

def us_53 (Q : QT) (E : ET) (x0 : OA) (x2 : Int) (x7 : OA) (x18 : Int) (H : Heap) : Prop :=
 us_51 Q E x0 x2 x7 x18 ((x18 : Int) == 9) H

def us_53_M (Q : QT) (E : ET) (τ : Tau) (H : Heap) : Prop := mP (τ 0) fun x0 => mI .i64 (τ 2) fun x2 => mP (τ 7) fun x7 => mI .i64 (τ 18) fun x18 => us_53 Q E x0 x2 x7 x18 H

theorem us_54ok (Q : QT) (E : ET) (τ : Tau) (H : Heap) (h : us_53_M Q E τ H) : vc Pr us_p40 τ (us_q12 Q E) E H :=
  vP (i := 0) h (fun x0 h => vI (i := 2) h (fun x2 h => vP (i := 7) h (fun x7 h => vI (i := 18) h (fun x18 h => (conv (by kernel_rfl) h)))))

theorem us_55ok (Q : QT) (E : ET) (τ : Tau) (H : Heap) (h : us_53_M Q E τ H) : vc Pr us_p12 τ (us_q3 Q E) E H :=
  (conv (B := vc Pr us_p12 τ (us_q3 Q E) E H) (by kernel_rfl) (vc_seq (K := (us_51_M Q E)) (us_54ok Q E τ H h) (us_52ok Q E)))

def us_56 (Q : QT) (E : ET) (x0 : OA) (x2 : Int) (x7 : OA) (x18 : Int) (x27 : Bool) (H : Heap) : Prop :=
 sel x27
 (us_5 Q E x0 x2 H)
 (us_53 Q E x0 x2 x7 x18 H)

def us_56_M (Q : QT) (E : ET) (τ : Tau) (H : Heap) : Prop := mP (τ 0) fun x0 => mI .i64 (τ 2) fun x2 => mP (τ 7) fun x7 => mI .i64 (τ 18) fun x18 => mB (τ 27) fun x27 => us_56 Q E x0 x2 x7 x18 x27 H

theorem us_57ok (Q : QT) (E : ET) (τ : Tau) (H : Heap) (h : us_56_M Q E τ H) : vc Pr us_p10 τ (us_q3 Q E) E H :=
  vP (i := 0) h (fun x0 h => vI (i := 2) h (fun x2 h => vP (i := 7) h (fun x7 h => vI (i := 18) h (fun x18 h => vB (i := 27) h (fun x27 h => (conv (B := vc Pr us_p10 (Tau.upd (Tau.upd (Tau.upd (Tau.upd (Tau.upd τ 0 (.pointer x0)) 2 (.int .i64 x2)) 7 (.pointer x7)) 18 (.int .i64 x18)) 27 (.bool x27)) (us_q3 Q E) E H) (by kernel_rfl) (sel_map (us_6ok Q E (Tau.upd (Tau.upd (Tau.upd (Tau.upd (Tau.upd τ 0 (.pointer x0)) 2 (.int .i64 x2)) 7 (.pointer x7)) 18 (.int .i64 x18)) 27 (.bool x27)) H) (us_55ok Q E (Tau.upd (Tau.upd (Tau.upd (Tau.upd (Tau.upd τ 0 (.pointer x0)) 2 (.int .i64 x2)) 7 (.pointer x7)) 18 (.int .i64 x18)) 27 (.bool x27)) H) (conv (B := sel x27 (us_5_M Q E (Tau.upd (Tau.upd (Tau.upd (Tau.upd (Tau.upd τ 0 (.pointer x0)) 2 (.int .i64 x2)) 7 (.pointer x7)) 18 (.int .i64 x18)) 27 (.bool x27)) H) (us_53_M Q E (Tau.upd (Tau.upd (Tau.upd (Tau.upd (Tau.upd τ 0 (.pointer x0)) 2 (.int .i64 x2)) 7 (.pointer x7)) 18 (.int .i64 x18)) 27 (.bool x27)) H)) (by kernel_rfl) h))))))))

@[reducible] noncomputable def us_q13 (Q : QT) (E : ET) : Exit → Tau → Heap → Prop := (xthen (us_56_M Q E) (us_q3 Q E))

@[reducible] noncomputable def us_p41 : Code := sA us_p9

def us_58 (Q : QT) (E : ET) (x0 : OA) (x2 : Int) (x7 : OA) (x18 : Int) (H : Heap) : Prop :=
 us_56 Q E x0 x2 x7 x18 ((x18 : Int) == 8) H

def us_58_M (Q : QT) (E : ET) (τ : Tau) (H : Heap) : Prop := mP (τ 0) fun x0 => mI .i64 (τ 2) fun x2 => mP (τ 7) fun x7 => mI .i64 (τ 18) fun x18 => us_58 Q E x0 x2 x7 x18 H

theorem us_59ok (Q : QT) (E : ET) (τ : Tau) (H : Heap) (h : us_58_M Q E τ H) : vc Pr us_p41 τ (us_q13 Q E) E H :=
  vP (i := 0) h (fun x0 h => vI (i := 2) h (fun x2 h => vP (i := 7) h (fun x7 h => vI (i := 18) h (fun x18 h => (conv (by kernel_rfl) h)))))

theorem us_60ok (Q : QT) (E : ET) (τ : Tau) (H : Heap) (h : us_58_M Q E τ H) : vc Pr us_p9 τ (us_q3 Q E) E H :=
  (conv (B := vc Pr us_p9 τ (us_q3 Q E) E H) (by kernel_rfl) (vc_seq (K := (us_56_M Q E)) (us_59ok Q E τ H h) (us_57ok Q E)))

def us_61 (Q : QT) (E : ET) (x0 : OA) (x2 : Int) (x7 : OA) (x18 : Int) (x19 : Bool) (H : Heap) : Prop :=
 sel x19
 (us_3 Q E x0 x2 x7 H)
 (us_58 Q E x0 x2 x7 x18 H)

def us_61_M (Q : QT) (E : ET) (τ : Tau) (H : Heap) : Prop := mP (τ 0) fun x0 => mI .i64 (τ 2) fun x2 => mP (τ 7) fun x7 => mI .i64 (τ 18) fun x18 => mB (τ 19) fun x19 => us_61 Q E x0 x2 x7 x18 x19 H

theorem us_62ok (Q : QT) (E : ET) (τ : Tau) (H : Heap) (h : us_61_M Q E τ H) : vc Pr us_p7 τ (us_q3 Q E) E H :=
  vP (i := 0) h (fun x0 h => vI (i := 2) h (fun x2 h => vP (i := 7) h (fun x7 h => vI (i := 18) h (fun x18 h => vB (i := 19) h (fun x19 h => (conv (B := vc Pr us_p7 (Tau.upd (Tau.upd (Tau.upd (Tau.upd (Tau.upd τ 0 (.pointer x0)) 2 (.int .i64 x2)) 7 (.pointer x7)) 18 (.int .i64 x18)) 19 (.bool x19)) (us_q3 Q E) E H) (by kernel_rfl) (sel_map (us_4ok Q E (Tau.upd (Tau.upd (Tau.upd (Tau.upd (Tau.upd τ 0 (.pointer x0)) 2 (.int .i64 x2)) 7 (.pointer x7)) 18 (.int .i64 x18)) 19 (.bool x19)) H) (us_60ok Q E (Tau.upd (Tau.upd (Tau.upd (Tau.upd (Tau.upd τ 0 (.pointer x0)) 2 (.int .i64 x2)) 7 (.pointer x7)) 18 (.int .i64 x18)) 19 (.bool x19)) H) (conv (B := sel x19 (us_3_M Q E (Tau.upd (Tau.upd (Tau.upd (Tau.upd (Tau.upd τ 0 (.pointer x0)) 2 (.int .i64 x2)) 7 (.pointer x7)) 18 (.int .i64 x18)) 19 (.bool x19)) H) (us_58_M Q E (Tau.upd (Tau.upd (Tau.upd (Tau.upd (Tau.upd τ 0 (.pointer x0)) 2 (.int .i64 x2)) 7 (.pointer x7)) 18 (.int .i64 x18)) 19 (.bool x19)) H)) (by kernel_rfl) h))))))))

@[reducible] noncomputable def us_q14 (Q : QT) (E : ET) : Exit → Tau → Heap → Prop := (xthen (us_61_M Q E) (us_q3 Q E))

@[reducible] noncomputable def us_p42 : Code := sA us_p6

def us_63 (Q : QT) (E : ET) (x0 : OA) (x2 : Int) (x7 : OA) (x18 : Int) (H : Heap) : Prop :=
 us_61 Q E x0 x2 x7 x18 ((x18 : Int) == 2) H

def us_63_M (Q : QT) (E : ET) (τ : Tau) (H : Heap) : Prop := mP (τ 0) fun x0 => mI .i64 (τ 2) fun x2 => mP (τ 7) fun x7 => mI .i64 (τ 18) fun x18 => us_63 Q E x0 x2 x7 x18 H

theorem us_64ok (Q : QT) (E : ET) (τ : Tau) (H : Heap) (h : us_63_M Q E τ H) : vc Pr us_p42 τ (us_q14 Q E) E H :=
  vP (i := 0) h (fun x0 h => vI (i := 2) h (fun x2 h => vP (i := 7) h (fun x7 h => vI (i := 18) h (fun x18 h => (conv (by kernel_rfl) h)))))

theorem us_65ok (Q : QT) (E : ET) (τ : Tau) (H : Heap) (h : us_63_M Q E τ H) : vc Pr us_p6 τ (us_q3 Q E) E H :=
  (conv (B := vc Pr us_p6 τ (us_q3 Q E) E H) (by kernel_rfl) (vc_seq (K := (us_61_M Q E)) (us_64ok Q E τ H h) (us_62ok Q E)))

theorem us_66ok (Q : QT) (E : ET) (τ : Tau) (H : Heap) (h : us_63_M Q E τ H) : vc Pr us_p5 τ (us_q2 Q E) E H :=
  (conv (B := vc Pr us_p5 τ (us_q2 Q E) E H) (by kernel_rfl) (us_65ok Q E τ H h))

@[reducible] noncomputable def us_q15 (Q : QT) (E : ET) : Exit → Tau → Heap → Prop := (xthen (us_63_M Q E) (us_q2 Q E))

@[reducible] noncomputable def us_p43 : Code := sA us_p4

def us_67 (Q : QT) (E : ET) (x0 : OA) (x2 : Int) (x7 : OA) (H : Heap) : Prop :=
 ptr x7 fun q150 =>
 ldI .i64 q150 H fun n151 =>
 us_63 Q E x0 x2 x7 n151 H

def us_67_M (Q : QT) (E : ET) (τ : Tau) (H : Heap) : Prop := mP (τ 0) fun x0 => mI .i64 (τ 2) fun x2 => mP (τ 7) fun x7 => us_67 Q E x0 x2 x7 H

theorem us_68ok (Q : QT) (E : ET) (τ : Tau) (H : Heap) (h : us_67_M Q E τ H) : vc Pr us_p43 τ (us_q15 Q E) E H :=
  vP (i := 0) h (fun x0 h => vI (i := 2) h (fun x2 h => vP (i := 7) h (fun x7 h => (conv (by kernel_rfl) h))))

theorem us_69ok (Q : QT) (E : ET) (τ : Tau) (H : Heap) (h : us_67_M Q E τ H) : vc Pr us_p4 τ (us_q2 Q E) E H :=
  (conv (B := vc Pr us_p4 τ (us_q2 Q E) E H) (by kernel_rfl) (vc_seq (K := (us_63_M Q E)) (us_68ok Q E τ H h) (us_66ok Q E)))

theorem us_70ok (Q : QT) (E : ET) (τ : Tau) (H : Heap) (h : us_67_M Q E τ H) : vc Pr us_p2 τ (us_q1 Q E) E H :=
  (conv (B := vc Pr us_p2 τ (us_q1 Q E) E H) (by kernel_rfl) (vc_seq (K := (us_1_M Q E)) (us_69ok Q E τ H h) (us_2ok Q E)))

@[reducible] noncomputable def us_q16 (Q : QT) (E : ET) : Exit → Tau → Heap → Prop := (xthen (us_67_M Q E) (us_q1 Q E))

@[reducible] noncomputable def us_p44 : Code := sA us_p1

def us_71 (Q : QT) (E : ET) (x0 : OA) (x1 : Int) (x2 : Int) (H : Heap) : Prop :=
 ptr x0 fun q152 =>
 ldSl q152 H fun p153 l154 c155 =>
 (0 ≤ (x1 : Int) ∧ (x1 : Int) < ((l154 : Nat) : Int)) ∧ ptr p153 fun q156 =>
 ∃ n157 n158 n159 n160 n161 n162 n163 : Int, Heap.rd H (Addr.add q156 ((x1 : Int).toNat * 7)) 0 [(.int .i64 n157), (.int .i64 n158), (.int .i64 n159), (.int .u64 n160), (.int .u64 n161), (.int .u64 n162), (.int .u64 n163)] ∧ nw (.cells #[(.int .i64 0), (.int .i64 0), (.int .i64 0), (.int .u64 0), (.int .u64 0), (.int .u64 0), (.int .u64 0)] 48 (0, 0)) H fun i164 H165 =>
 wr ⟨i164, 0, none⟩ [(.int .i64 n157), (.int .i64 n158), (.int .i64 n159), (.int .u64 n160), (.int .u64 n161), (.int .u64 n162), (.int .u64 n163)] H165 fun H166 =>
 us_67 Q E x0 x2 (some ⟨i164, 0, none⟩) H166

def us_71_M (Q : QT) (E : ET) (τ : Tau) (H : Heap) : Prop := mP (τ 0) fun x0 => mI .i64 (τ 1) fun x1 => mI .i64 (τ 2) fun x2 => us_71 Q E x0 x1 x2 H

theorem us_72ok (Q : QT) (E : ET) (τ : Tau) (H : Heap) (h : us_71_M Q E τ H) : vc Pr us_p44 τ (us_q16 Q E) E H :=
  vP (i := 0) h (fun x0 h => vI (i := 1) h (fun x1 h => vI (i := 2) h (fun x2 h => (conv (by kernel_rfl) h))))

theorem us_73ok (Q : QT) (E : ET) (τ : Tau) (H : Heap) (h : us_71_M Q E τ H) : vc Pr us_p1 τ (us_q1 Q E) E H :=
  (conv (B := vc Pr us_p1 τ (us_q1 Q E) E H) (by kernel_rfl) (vc_seq (K := (us_67_M Q E)) (us_72ok Q E τ H h) (us_70ok Q E)))

@[reducible] noncomputable def us_q17 (Q : QT) (E : ET) : Exit → Tau → Heap → Prop := (xthen (us_71_M Q E) (us_q1 Q E))

@[reducible] noncomputable def us_p45 : Code := sA us_p0

def us (Q : QT) (E : ET) (a0 : OA) (a1 : Int) (a2 : Int) (H : Heap) : Prop :=
 us_71 Q E a0 a1 a2 H

theorem us_fn (a0 : OA) (a1 : Int) (a2 : Int) (Q : QT) (E : ET) (H : Heap) (h : us Q E a0 a1 a2 H)   : Does Pr 83 #[(.pointer a0), (.int .i64 a1), (.int .i64 a2)] H Q E :=
  Fn_of_vc (fn := Try.f83) (c := us_p0) (args := [(.pointer a0), (.int .i64 a1), (.int .i64 a2)]) mixed (by kernel_rfl) (by kernel_rfl) (by kernel_rfl) (by kernel_rfl) (by kernel_rfl) ((conv (B := vc Pr us_p0 (argT [(.pointer a0), (.int .i64 a1), (.int .i64 a2)]) (us_q1 Q E) E H) (by kernel_rfl) (vc_seq (K := (us_71_M Q E)) (conv (B := vc Pr us_p45 (argT [(.pointer a0), (.int .i64 a1), (.int .i64 a2)]) (us_q17 Q E) E H) (by kernel_rfl) h) (us_73ok Q E))))

/-! (*jobmux/auto.set).clear -/
@[reducible] noncomputable def ut_q1 (Q : QT) (E : ET) : Exit → Tau → Heap → Prop := (retQ Pr (Try.f92).results.toList Q)

@[reducible] noncomputable def ut_p0 : Code := bodyOf Try.f92

def ut (Q : QT) (E : ET) (a0 : OA) (H : Heap) : Prop :=
 ptr a0 fun q1 =>
 ldSl (Addr.add q1 1) H fun p2 l3 c4 =>
 wrS p2 0 (rep l3 [(.bool false)]) H fun H5 =>
 ptr a0 fun q6 =>
 ldSl q6 H5 fun p7 l8 c9 =>
 (0 ≤ (0 : Int) ∧ (0 : Int) ≤ ((c9 : Nat) : Int)) ∧ ptr a0 fun q10 =>
 wr q10 [(.slice (if c9 = 0 then p7 else Option.map (fun a => Addr.add a (0 * 1)) p7) ((0 : Int).toNat - 0) (c9 - 0))] H5 fun H11 =>
 Q (.tuple #[]) H11

theorem ut_fn (a0 : OA) (Q : QT) (E : ET) (H : Heap) (h : ut Q E a0 H)   : Does Pr 92 #[(.pointer a0)] H Q E :=
  Fn_of_vc (fn := Try.f92) (c := ut_p0) (args := [(.pointer a0)]) mixed (by kernel_rfl) (by kernel_rfl) (by kernel_rfl) (by kernel_rfl) (by kernel_rfl) ((conv (B := vc Pr ut_p0 (argT [(.pointer a0)]) (ut_q1 Q E) E H) (by kernel_rfl) h))

end Go.Proofs.Ytaffcoiomggpfaa
