import Derived.Test.YtaffcoiomggpfaaVPr
/- Printed by gen.py: the Go functions of package mill over a heap view, and that the model does so. -/
namespace Go.Proofs.Ytaffcoiomggpfaa
open Go.V
set_option linter.unusedVariables false
set_option maxRecDepth 100000
/-! jobmux/jobmuxmill.Patterns -/
@[reducible] noncomputable def zqn1_q1 (Q : QT) (E : ET) : Exit → Tau → Heap → Prop := (retQ Pr (Try.f21).results.toList Q)

@[reducible] noncomputable def zqn1_p0 : Code := bodyOf Try.f21

def zqn1 (Q : QT) (E : ET)  (H : Heap) : Prop :=
 nw (.cells #[(.string ⟨[111, 107].toArray⟩), (.string ⟨#[]⟩), (.string ⟨[114, 46, 42, 121, 36].toArray⟩), (.string ⟨[94, 117, 112, 124, 103, 111, 43].toArray⟩), (.string ⟨[91, 48, 45, 57, 93, 43, 120, 63].toArray⟩), (.string ⟨[40, 97, 98, 41, 42, 99].toArray⟩), (.string ⟨[94, 36].toArray⟩)] 9 (0, 0)) H fun i1 H2 =>
 Q (.slice (some ⟨i1, 0, none⟩) 7 7) H2

theorem zqn1_fn  (Q : QT) (E : ET) (H : Heap) (h : zqn1 Q E  H)   : Does Pr 21 #[] H Q E :=
  Fn_of_vc (fn := Try.f21) (c := zqn1_p0) (args := []) mixed (by kernel_rfl) (by kernel_rfl) (by kernel_rfl) (by kernel_rfl) (by kernel_rfl) ((conv (B := vc Pr zqn1_p0 (argT []) (zqn1_q1 Q E) E H) (by kernel_rfl) h))

/-! jobmux/jobmuxmill.Mod -/
@[reducible] noncomputable def zqo1_q1 (Q : QT) (E : ET) : Exit → Tau → Heap → Prop := (retQ Pr (Try.f22).results.toList Q)

@[reducible] noncomputable def zqo1_p0 : Code := bodyOf Try.f22

@[reducible] noncomputable def zqo1_p1 : Code := sB zqo1_p0

@[reducible] noncomputable def zqo1_p2 : Code := sB zqo1_p1

@[reducible] noncomputable def zqo1_p3 : Code := sB zqo1_p2

def zqo1_1 (Q : QT) (E : ET) (x5 : Int) (H : Heap) : Prop :=
 Q (.int .i64 x5) H

def zqo1_1_M (Q : QT) (E : ET) (τ : Tau) (H : Heap) : Prop := mI .i64 (τ 5) fun x5 => zqo1_1 Q E x5 H

theorem zqo1_2ok (Q : QT) (E : ET) (τ : Tau) (H : Heap) (h : zqo1_1_M Q E τ H) : vc Pr zqo1_p3 τ (zqo1_q1 Q E) E H :=
  vI (i := 5) h (fun x5 h => (conv (by kernel_rfl) h))

@[reducible] noncomputable def zqo1_q2 (Q : QT) (E : ET) : Exit → Tau → Heap → Prop := (xthen (zqo1_1_M Q E) (zqo1_q1 Q E))

@[reducible] noncomputable def zqo1_p4 : Code := sA zqo1_p2

def zqo1_3 (Q : QT) (E : ET) (x1 : Int) (x5 : Int) (H : Heap) : Prop :=
 sel (decide ((x5 : Int) < 0))
 (zqo1_1 Q E (IntKind.wrap .i64 (x5 + x1)) H)
 (zqo1_1 Q E x5 H)

def zqo1_3_M (Q : QT) (E : ET) (τ : Tau) (H : Heap) : Prop := mI .i64 (τ 1) fun x1 => mI .i64 (τ 5) fun x5 => zqo1_3 Q E x1 x5 H

theorem zqo1_4ok (Q : QT) (E : ET) (τ : Tau) (H : Heap) (h : zqo1_3_M Q E τ H) : vc Pr zqo1_p4 τ (zqo1_q2 Q E) E H :=
  vI (i := 1) h (fun x1 h => vI (i := 5) h (fun x5 h => (conv (by kernel_rfl) h)))

theorem zqo1_5ok (Q : QT) (E : ET) (τ : Tau) (H : Heap) (h : zqo1_3_M Q E τ H) : vc Pr zqo1_p2 τ (zqo1_q1 Q E) E H :=
  (conv (B := vc Pr zqo1_p2 τ (zqo1_q1 Q E) E H) (by kernel_rfl) (vc_seq (K := (zqo1_1_M Q E)) (zqo1_4ok Q E τ H h) (zqo1_2ok Q E)))

@[reducible] noncomputable def zqo1_q3 (Q : QT) (E : ET) : Exit → Tau → Heap → Prop := (xthen (zqo1_3_M Q E) (zqo1_q1 Q E))

@[reducible] noncomputable def zqo1_p5 : Code := sA zqo1_p1

def zqo1_6 (Q : QT) (E : ET) (x0 : Int) (x1 : Int) (H : Heap) : Prop :=
 (x1 : Int) ≠ 0 ∧ zqo1_3 Q E x1 (Int.tmod x0 x1) H

def zqo1_6_M (Q : QT) (E : ET) (τ : Tau) (H : Heap) : Prop := mI .i64 (τ 0) fun x0 => mI .i64 (τ 1) fun x1 => zqo1_6 Q E x0 x1 H

theorem zqo1_7ok (Q : QT) (E : ET) (τ : Tau) (H : Heap) (h : zqo1_6_M Q E τ H) : vc Pr zqo1_p5 τ (zqo1_q3 Q E) E H :=
  vI (i := 0) h (fun x0 h => vI (i := 1) h (fun x1 h => (conv (by kernel_rfl) h)))

theorem zqo1_8ok (Q : QT) (E : ET) (τ : Tau) (H : Heap) (h : zqo1_6_M Q E τ H) : vc Pr zqo1_p1 τ (zqo1_q1 Q E) E H :=
  (conv (B := vc Pr zqo1_p1 τ (zqo1_q1 Q E) E H) (by kernel_rfl) (vc_seq (K := (zqo1_3_M Q E)) (zqo1_7ok Q E τ H h) (zqo1_5ok Q E)))

@[reducible] noncomputable def zqo1_q4 (Q : QT) (E : ET) : Exit → Tau → Heap → Prop := (xthen (zqo1_6_M Q E) (zqo1_q1 Q E))

@[reducible] noncomputable def zqo1_p6 : Code := sA zqo1_p0

def zqo1 (Q : QT) (E : ET) (a0 : Int) (a1 : Int) (H : Heap) : Prop :=
 zqo1_6 Q E a0 a1 H

theorem zqo1_fn (a0 : Int) (a1 : Int) (Q : QT) (E : ET) (H : Heap) (h : zqo1 Q E a0 a1 H)   : Does Pr 22 #[(.int .i64 a0), (.int .i64 a1)] H Q E :=
  Fn_of_vc (fn := Try.f22) (c := zqo1_p0) (args := [(.int .i64 a0), (.int .i64 a1)]) mixed (by kernel_rfl) (by kernel_rfl) (by kernel_rfl) (by kernel_rfl) (by kernel_rfl) ((conv (B := vc Pr zqo1_p0 (argT [(.int .i64 a0), (.int .i64 a1)]) (zqo1_q1 Q E) E H) (by kernel_rfl) (vc_seq (K := (zqo1_6_M Q E)) (conv (B := vc Pr zqo1_p6 (argT [(.int .i64 a0), (.int .i64 a1)]) (zqo1_q4 Q E) E H) (by kernel_rfl) h) (zqo1_8ok Q E))))

/-! jobmux/jobmuxmill.New -/
@[reducible] noncomputable def zqp1_q1 (Q : QT) (E : ET) : Exit → Tau → Heap → Prop := (retQ Pr (Try.f47).results.toList Q)

@[reducible] noncomputable def zqp1_p0 : Code := bodyOf Try.f47

def zqp1 (Q : QT) (E : ET) (a0 : OA) (a0l : Nat) (a0c : Nat) (H : Heap) : Prop :=
 nw (.cells #[(.slice a0 a0l a0c), (.int .i64 0)] 123 (0, 0)) H fun i1 H2 =>
 Q (.pointer (some ⟨i1, 0, none⟩)) H2

theorem zqp1_fn (a0 : OA) (a0l : Nat) (a0c : Nat) (Q : QT) (E : ET) (H : Heap) (h : zqp1 Q E a0 a0l a0c H)   : Does Pr 47 #[(.slice a0 a0l a0c)] H Q E :=
  Fn_of_vc (fn := Try.f47) (c := zqp1_p0) (args := [(.slice a0 a0l a0c)]) mixed (by kernel_rfl) (by kernel_rfl) (by kernel_rfl) (by kernel_rfl) (by kernel_rfl) ((conv (B := vc Pr zqp1_p0 (argT [(.slice a0 a0l a0c)]) (zqp1_q1 Q E) E H) (by kernel_rfl) h))

/-! (*jobmux/jobmuxmill.Deck).Range -/
@[reducible] noncomputable def zqq1_q1 (Q : QT) (E : ET) : Exit → Tau → Heap → Prop := (retQ Pr (Try.f48).results.toList Q)

@[reducible] noncomputable def zqq1_p0 : Code := bodyOf Try.f48

def zqq1 (Q : QT) (E : ET) (a0 : OA) (a1 : Int) (a2 : Int) (H : Heap) : Prop :=
 Does Pr 49 #[(.pointer a0), (.int .i64 (IntKind.wrap .i64 ((IntKind.wrap .i64 (a2 - a1)) + 1)))] H (fun v1 H2 =>
 ∃ n3 : Int, v1 = (.int .i64 n3) ∧ Q (.int .i64 (IntKind.wrap .i64 (a1 + n3))) H2) E

theorem zqq1_fn (a0 : OA) (a1 : Int) (a2 : Int) (Q : QT) (E : ET) (H : Heap) (h : zqq1 Q E a0 a1 a2 H)   : Does Pr 48 #[(.pointer a0), (.int .i64 a1), (.int .i64 a2)] H Q E :=
  Fn_of_vc (fn := Try.f48) (c := zqq1_p0) (args := [(.pointer a0), (.int .i64 a1), (.int .i64 a2)]) mixed (by kernel_rfl) (by kernel_rfl) (by kernel_rfl) (by kernel_rfl) (by kernel_rfl) ((conv (B := vc Pr zqq1_p0 (argT [(.pointer a0), (.int .i64 a1), (.int .i64 a2)]) (zqq1_q1 Q E) E H) (by kernel_rfl) h))

/-! (*jobmux/jobmuxmill.Deck).Next -/
@[reducible] noncomputable def zqr1_q1 (Q : QT) (E : ET) : Exit → Tau → Heap → Prop := (retQ Pr (Try.f49).results.toList Q)

@[reducible] noncomputable def zqr1_p0 : Code := bodyOf Try.f49

@[reducible] noncomputable def zqr1_p1 : Code := sB zqr1_p0

@[reducible] noncomputable def zqr1_p2 : Code := sB zqr1_p1

def zqr1_1 (Q : QT) (E : ET) (x0 : OA) (x1 : Int) (H : Heap) : Prop :=
 ptr x0 fun q4 =>
 ldI .i64 (Addr.add q4 1) H fun n5 =>
 ptr x0 fun q6 =>
 wr (Addr.add q6 1) [(.int .i64 (IntKind.wrap .i64 (n5 + 1)))] H fun H7 =>
 ptr x0 fun q8 =>
 ldSl q8 H7 fun p9 l10 c11 =>
 ptr x0 fun q12 =>
 ldI .i64 (Addr.add q12 1) H7 fun n13 =>
 (0 ≤ ((IntKind.wrap .i64 (n13 - 1)) : Int) ∧ ((IntKind.wrap .i64 (n13 - 1)) : Int) < ((l10 : Nat) : Int)) ∧ ptr p9 fun q14 =>
 ldI .i64 (Addr.add q14 (((IntKind.wrap .i64 (n13 - 1)) : Int).toNat * 1)) H7 fun n15 =>
 Does Pr 22 #[(.int .i64 n15), (.int .i64 x1)] H7 (fun v16 H17 =>
 ∃ n18 : Int, v16 = (.int .i64 n18) ∧ Q (.int .i64 n18) H17) (fun _ _ => False)

def zqr1_1_M (Q : QT) (E : ET) (τ : Tau) (H : Heap) : Prop := mP (τ 0) fun x0 => mI .i64 (τ 1) fun x1 => zqr1_1 Q E x0 x1 H

theorem zqr1_2ok (Q : QT) (E : ET) (τ : Tau) (H : Heap) (h : zqr1_1_M Q E τ H) : vc Pr zqr1_p2 τ (zqr1_q1 Q E) E H :=
  vP (i := 0) h (fun x0 h => vI (i := 1) h (fun x1 h => (conv (by kernel_rfl) h)))

@[reducible] noncomputable def zqr1_q2 (Q : QT) (E : ET) : Exit → Tau → Heap → Prop := (xthen (zqr1_1_M Q E) (zqr1_q1 Q E))

@[reducible] noncomputable def zqr1_p3 : Code := sA zqr1_p1

def zqr1_3 (Q : QT) (E : ET) (x0 : OA) (x1 : Int) (H : Heap) : Prop :=
 Does Pr 61 #[(.pointer x0)] H (fun v19 H20 =>
 ∃ b21 : Bool, v19 = (.bool b21) ∧ sel (!b21)
 (Q (.int .i64 0) H20)
 (zqr1_1 Q E x0 x1 H20)) E

def zqr1_3_M (Q : QT) (E : ET) (τ : Tau) (H : Heap) : Prop := mP (τ 0) fun x0 => mI .i64 (τ 1) fun x1 => zqr1_3 Q E x0 x1 H

theorem zqr1_4ok (Q : QT) (E : ET) (τ : Tau) (H : Heap) (h : zqr1_3_M Q E τ H) : vc Pr zqr1_p3 τ (zqr1_q2 Q E) E H :=
  vP (i := 0) h (fun x0 h => vI (i := 1) h (fun x1 h => (conv (by kernel_rfl) h)))

theorem zqr1_5ok (Q : QT) (E : ET) (τ : Tau) (H : Heap) (h : zqr1_3_M Q E τ H) : vc Pr zqr1_p1 τ (zqr1_q1 Q E) E H :=
  (conv (B := vc Pr zqr1_p1 τ (zqr1_q1 Q E) E H) (by kernel_rfl) (vc_seq (K := (zqr1_1_M Q E)) (zqr1_4ok Q E τ H h) (zqr1_2ok Q E)))

@[reducible] noncomputable def zqr1_q3 (Q : QT) (E : ET) : Exit → Tau → Heap → Prop := (xthen (zqr1_3_M Q E) (zqr1_q1 Q E))

@[reducible] noncomputable def zqr1_p4 : Code := sA zqr1_p0

def zqr1 (Q : QT) (E : ET) (a0 : OA) (a1 : Int) (H : Heap) : Prop :=
 zqr1_3 Q E a0 a1 H

theorem zqr1_fn (a0 : OA) (a1 : Int) (Q : QT) (E : ET) (H : Heap) (h : zqr1 Q E a0 a1 H)   : Does Pr 49 #[(.pointer a0), (.int .i64 a1)] H Q E :=
  Fn_of_vc (fn := Try.f49) (c := zqr1_p0) (args := [(.pointer a0), (.int .i64 a1)]) mixed (by kernel_rfl) (by kernel_rfl) (by kernel_rfl) (by kernel_rfl) (by kernel_rfl) ((conv (B := vc Pr zqr1_p0 (argT [(.pointer a0), (.int .i64 a1)]) (zqr1_q1 Q E) E H) (by kernel_rfl) (vc_seq (K := (zqr1_3_M Q E)) (conv (B := vc Pr zqr1_p4 (argT [(.pointer a0), (.int .i64 a1)]) (zqr1_q3 Q E) E H) (by kernel_rfl) h) (zqr1_5ok Q E))))

/-! (*jobmux/jobmuxmill.Deck).Left -/
@[reducible] noncomputable def zqs1_q1 (Q : QT) (E : ET) : Exit → Tau → Heap → Prop := (retQ Pr (Try.f61).results.toList Q)

@[reducible] noncomputable def zqs1_p0 : Code := bodyOf Try.f61

def zqs1 (Q : QT) (E : ET) (a0 : OA) (H : Heap) : Prop :=
 ptr a0 fun q1 =>
 ldI .i64 (Addr.add q1 1) H fun n2 =>
 ptr a0 fun q3 =>
 ldSl q3 H fun p4 l5 c6 =>
 Q (.bool (decide ((n2 : Int) < ((l5 : Nat) : Int)))) H

theorem zqs1_fn (a0 : OA) (Q : QT) (E : ET) (H : Heap) (h : zqs1 Q E a0 H)   : Does Pr 61 #[(.pointer a0)] H Q E :=
  Fn_of_vc (fn := Try.f61) (c := zqs1_p0) (args := [(.pointer a0)]) mixed (by kernel_rfl) (by kernel_rfl) (by kernel_rfl) (by kernel_rfl) (by kernel_rfl) ((conv (B := vc Pr zqs1_p0 (argT [(.pointer a0)]) (zqs1_q1 Q E) E H) (by kernel_rfl) h))

end Go.Proofs.Ytaffcoiomggpfaa
