import Derived.Test.YtaffcoiomggpfaaVPr
/- Printed by gen.py: the Go functions of package mill over a heap view, and that the model does so. -/
namespace Go.Proofs.Ytaffcoiomggpfaa
open Go.V
set_option linter.unusedVariables false
set_option maxRecDepth 100000
/-! jobmux/jobmuxmill.Patterns -/
@[reducible] noncomputable def mill_Patterns_q1 (Q : QT) (E : ET) : Exit → Tau → Heap → Prop := (retQ Pr (Try.f21).results.toList Q)

@[reducible] noncomputable def mill_Patterns_p0 : Code := bodyOf Try.f21

def mill_Patterns (Q : QT) (E : ET)  (H : Heap) : Prop :=
 nw (.cells #[(.string ⟨[111, 107].toArray⟩), (.string ⟨#[]⟩), (.string ⟨[114, 46, 42, 121, 36].toArray⟩), (.string ⟨[94, 117, 112, 124, 103, 111, 43].toArray⟩), (.string ⟨[91, 48, 45, 57, 93, 43, 120, 63].toArray⟩), (.string ⟨[40, 97, 98, 41, 42, 99].toArray⟩), (.string ⟨[94, 36].toArray⟩)] 9 (0, 0)) H fun i1 H2 =>
 Q (.slice (some ⟨i1, 0, none⟩) 7 7) H2

theorem mill_Patterns_fn  (Q : QT) (E : ET) (H : Heap) (h : mill_Patterns Q E  H)   : Does Pr 21 #[] H Q E :=
  Fn_of_vc (fn := Try.f21) (c := mill_Patterns_p0) (args := []) mixed (by kernel_rfl) (by kernel_rfl) (by kernel_rfl) (by kernel_rfl) (by kernel_rfl) ((conv (B := vc Pr mill_Patterns_p0 (argT []) (mill_Patterns_q1 Q E) E H) (by kernel_rfl) h))

/-! jobmux/jobmuxmill.Mod -/
@[reducible] noncomputable def mill_Mod_q1 (Q : QT) (E : ET) : Exit → Tau → Heap → Prop := (retQ Pr (Try.f22).results.toList Q)

@[reducible] noncomputable def mill_Mod_p0 : Code := bodyOf Try.f22

@[reducible] noncomputable def mill_Mod_p1 : Code := sB mill_Mod_p0

@[reducible] noncomputable def mill_Mod_p2 : Code := sB mill_Mod_p1

@[reducible] noncomputable def mill_Mod_p3 : Code := sB mill_Mod_p2

def mill_Mod_1 (Q : QT) (E : ET) (x5 : Int) (H : Heap) : Prop :=
 Q (.int .i64 x5) H

def mill_Mod_1_M (Q : QT) (E : ET) (τ : Tau) (H : Heap) : Prop := mI .i64 (τ 5) fun x5 => mill_Mod_1 Q E x5 H

theorem mill_Mod_2ok (Q : QT) (E : ET) (τ : Tau) (H : Heap) (h : mill_Mod_1_M Q E τ H) : vc Pr mill_Mod_p3 τ (mill_Mod_q1 Q E) E H :=
  vI (i := 5) h (fun x5 h => (conv (by kernel_rfl) h))

@[reducible] noncomputable def mill_Mod_q2 (Q : QT) (E : ET) : Exit → Tau → Heap → Prop := (xthen (mill_Mod_1_M Q E) (mill_Mod_q1 Q E))

@[reducible] noncomputable def mill_Mod_p4 : Code := sA mill_Mod_p2

def mill_Mod_3 (Q : QT) (E : ET) (x1 : Int) (x5 : Int) (H : Heap) : Prop :=
 sel (decide ((x5 : Int) < 0))
 (mill_Mod_1 Q E (IntKind.wrap .i64 (x5 + x1)) H)
 (mill_Mod_1 Q E x5 H)

def mill_Mod_3_M (Q : QT) (E : ET) (τ : Tau) (H : Heap) : Prop := mI .i64 (τ 1) fun x1 => mI .i64 (τ 5) fun x5 => mill_Mod_3 Q E x1 x5 H

theorem mill_Mod_4ok (Q : QT) (E : ET) (τ : Tau) (H : Heap) (h : mill_Mod_3_M Q E τ H) : vc Pr mill_Mod_p4 τ (mill_Mod_q2 Q E) E H :=
  vI (i := 1) h (fun x1 h => vI (i := 5) h (fun x5 h => (conv (by kernel_rfl) h)))

theorem mill_Mod_5ok (Q : QT) (E : ET) (τ : Tau) (H : Heap) (h : mill_Mod_3_M Q E τ H) : vc Pr mill_Mod_p2 τ (mill_Mod_q1 Q E) E H :=
  (conv (B := vc Pr mill_Mod_p2 τ (mill_Mod_q1 Q E) E H) (by kernel_rfl) (vc_seq (K := (mill_Mod_1_M Q E)) (mill_Mod_4ok Q E τ H h) (mill_Mod_2ok Q E)))

@[reducible] noncomputable def mill_Mod_q3 (Q : QT) (E : ET) : Exit → Tau → Heap → Prop := (xthen (mill_Mod_3_M Q E) (mill_Mod_q1 Q E))

@[reducible] noncomputable def mill_Mod_p5 : Code := sA mill_Mod_p1

def mill_Mod_6 (Q : QT) (E : ET) (x0 : Int) (x1 : Int) (H : Heap) : Prop :=
 (x1 : Int) ≠ 0 ∧ mill_Mod_3 Q E x1 (Int.tmod x0 x1) H

def mill_Mod_6_M (Q : QT) (E : ET) (τ : Tau) (H : Heap) : Prop := mI .i64 (τ 0) fun x0 => mI .i64 (τ 1) fun x1 => mill_Mod_6 Q E x0 x1 H

theorem mill_Mod_7ok (Q : QT) (E : ET) (τ : Tau) (H : Heap) (h : mill_Mod_6_M Q E τ H) : vc Pr mill_Mod_p5 τ (mill_Mod_q3 Q E) E H :=
  vI (i := 0) h (fun x0 h => vI (i := 1) h (fun x1 h => (conv (by kernel_rfl) h)))

theorem mill_Mod_8ok (Q : QT) (E : ET) (τ : Tau) (H : Heap) (h : mill_Mod_6_M Q E τ H) : vc Pr mill_Mod_p1 τ (mill_Mod_q1 Q E) E H :=
  (conv (B := vc Pr mill_Mod_p1 τ (mill_Mod_q1 Q E) E H) (by kernel_rfl) (vc_seq (K := (mill_Mod_3_M Q E)) (mill_Mod_7ok Q E τ H h) (mill_Mod_5ok Q E)))

@[reducible] noncomputable def mill_Mod_q4 (Q : QT) (E : ET) : Exit → Tau → Heap → Prop := (xthen (mill_Mod_6_M Q E) (mill_Mod_q1 Q E))

@[reducible] noncomputable def mill_Mod_p6 : Code := sA mill_Mod_p0

def mill_Mod (Q : QT) (E : ET) (a0 : Int) (a1 : Int) (H : Heap) : Prop :=
 mill_Mod_6 Q E a0 a1 H

theorem mill_Mod_fn (a0 : Int) (a1 : Int) (Q : QT) (E : ET) (H : Heap) (h : mill_Mod Q E a0 a1 H)   : Does Pr 22 #[(.int .i64 a0), (.int .i64 a1)] H Q E :=
  Fn_of_vc (fn := Try.f22) (c := mill_Mod_p0) (args := [(.int .i64 a0), (.int .i64 a1)]) mixed (by kernel_rfl) (by kernel_rfl) (by kernel_rfl) (by kernel_rfl) (by kernel_rfl) ((conv (B := vc Pr mill_Mod_p0 (argT [(.int .i64 a0), (.int .i64 a1)]) (mill_Mod_q1 Q E) E H) (by kernel_rfl) (vc_seq (K := (mill_Mod_6_M Q E)) (conv (B := vc Pr mill_Mod_p6 (argT [(.int .i64 a0), (.int .i64 a1)]) (mill_Mod_q4 Q E) E H) (by kernel_rfl) h) (mill_Mod_8ok Q E))))

/-! jobmux/jobmuxmill.New -/
@[reducible] noncomputable def mill_New_q1 (Q : QT) (E : ET) : Exit → Tau → Heap → Prop := (retQ Pr (Try.f47).results.toList Q)

@[reducible] noncomputable def mill_New_p0 : Code := bodyOf Try.f47

def mill_New (Q : QT) (E : ET) (a0 : OA) (a0l : Nat) (a0c : Nat) (H : Heap) : Prop :=
 nw (.cells #[(.slice a0 a0l a0c), (.int .i64 0)] 123 (0, 0)) H fun i1 H2 =>
 Q (.pointer (some ⟨i1, 0, none⟩)) H2

theorem mill_New_fn (a0 : OA) (a0l : Nat) (a0c : Nat) (Q : QT) (E : ET) (H : Heap) (h : mill_New Q E a0 a0l a0c H)   : Does Pr 47 #[(.slice a0 a0l a0c)] H Q E :=
  Fn_of_vc (fn := Try.f47) (c := mill_New_p0) (args := [(.slice a0 a0l a0c)]) mixed (by kernel_rfl) (by kernel_rfl) (by kernel_rfl) (by kernel_rfl) (by kernel_rfl) ((conv (B := vc Pr mill_New_p0 (argT [(.slice a0 a0l a0c)]) (mill_New_q1 Q E) E H) (by kernel_rfl) h))

/-! (*jobmux/jobmuxmill.Deck).Range -/
@[reducible] noncomputable def mill_Deck_Range_q1 (Q : QT) (E : ET) : Exit → Tau → Heap → Prop := (retQ Pr (Try.f48).results.toList Q)

@[reducible] noncomputable def mill_Deck_Range_p0 : Code := bodyOf Try.f48

def mill_Deck_Range (Q : QT) (E : ET) (a0 : OA) (a1 : Int) (a2 : Int) (H : Heap) : Prop :=
 Does Pr 49 #[(.pointer a0), (.int .i64 (IntKind.wrap .i64 ((IntKind.wrap .i64 (a2 - a1)) + 1)))] H (fun v1 H2 =>
 ∃ n3 : Int, v1 = (.int .i64 n3) ∧ Q (.int .i64 (IntKind.wrap .i64 (a1 + n3))) H2) E

theorem mill_Deck_Range_fn (a0 : OA) (a1 : Int) (a2 : Int) (Q : QT) (E : ET) (H : Heap) (h : mill_Deck_Range Q E a0 a1 a2 H)   : Does Pr 48 #[(.pointer a0), (.int .i64 a1), (.int .i64 a2)] H Q E :=
  Fn_of_vc (fn := Try.f48) (c := mill_Deck_Range_p0) (args := [(.pointer a0), (.int .i64 a1), (.int .i64 a2)]) mixed (by kernel_rfl) (by kernel_rfl) (by kernel_rfl) (by kernel_rfl) (by kernel_rfl) ((conv (B := vc Pr mill_Deck_Range_p0 (argT [(.pointer a0), (.int .i64 a1), (.int .i64 a2)]) (mill_Deck_Range_q1 Q E) E H) (by kernel_rfl) h))

/-! (*jobmux/jobmuxmill.Deck).Next -/
@[reducible] noncomputable def mill_Deck_Next_q1 (Q : QT) (E : ET) : Exit → Tau → Heap → Prop := (retQ Pr (Try.f49).results.toList Q)

@[reducible] noncomputable def mill_Deck_Next_p0 : Code := bodyOf Try.f49

@[reducible] noncomputable def mill_Deck_Next_p1 : Code := sB mill_Deck_Next_p0

@[reducible] noncomputable def mill_Deck_Next_p2 : Code := sB mill_Deck_Next_p1

def mill_Deck_Next_1 (Q : QT) (E : ET) (x0 : OA) (x1 : Int) (H : Heap) : Prop :=
 ptr x0 fun q4 =>
 ldI .i64 (Addr.add q4 1) H fun n5 =>
 ptr x0 fun q6 =>
 wr (Addr.add q6 1) [(.int .i64 (IntKind.wrap .i64 (n5 + 1)))] H fun H7 =>
 ptr x0 fun q8 =>
 ldSl q8 H7 fun p9 l10 c11 =>
 ptr x0 fun q12 =>
 ldI .i64 (Addr.add q12 1) H7 fun n13 =>
 (0 ≤ ((IntKind.wrap .i64 (n13 - 1)) : Int) ∧ ((IntKind.wrap .i64 (n13 - 1)) : Int) < ((l10 : Nat) : Int)) ∧ ptr p9 fun q14 =>
 ldI .i64 (Addr.add q14 (((IntKind.wrap .i64 (n13 - 1)) : Int).toNat * 1)) H7 fun n15 =>
 Does Pr 22 #[(.int .i64 n15), (.int .i64 x1)] H7 (fun v16 H17 =>
 ∃ n18 : Int, v16 = (.int .i64 n18) ∧ Q (.int .i64 n18) H17) (fun _ _ => False)

def mill_Deck_Next_1_M (Q : QT) (E : ET) (τ : Tau) (H : Heap) : Prop := mP (τ 0) fun x0 => mI .i64 (τ 1) fun x1 => mill_Deck_Next_1 Q E x0 x1 H

theorem mill_Deck_Next_2ok (Q : QT) (E : ET) (τ : Tau) (H : Heap) (h : mill_Deck_Next_1_M Q E τ H) : vc Pr mill_Deck_Next_p2 τ (mill_Deck_Next_q1 Q E) E H :=
  vP (i := 0) h (fun x0 h => vI (i := 1) h (fun x1 h => (conv (by kernel_rfl) h)))

@[reducible] noncomputable def mill_Deck_Next_q2 (Q : QT) (E : ET) : Exit → Tau → Heap → Prop := (xthen (mill_Deck_Next_1_M Q E) (mill_Deck_Next_q1 Q E))

@[reducible] noncomputable def mill_Deck_Next_p3 : Code := sA mill_Deck_Next_p1

def mill_Deck_Next_3 (Q : QT) (E : ET) (x0 : OA) (x1 : Int) (H : Heap) : Prop :=
 Does Pr 61 #[(.pointer x0)] H (fun v19 H20 =>
 ∃ b21 : Bool, v19 = (.bool b21) ∧ sel (!b21)
 (Q (.int .i64 0) H20)
 (mill_Deck_Next_1 Q E x0 x1 H20)) E

def mill_Deck_Next_3_M (Q : QT) (E : ET) (τ : Tau) (H : Heap) : Prop := mP (τ 0) fun x0 => mI .i64 (τ 1) fun x1 => mill_Deck_Next_3 Q E x0 x1 H

theorem mill_Deck_Next_4ok (Q : QT) (E : ET) (τ : Tau) (H : Heap) (h : mill_Deck_Next_3_M Q E τ H) : vc Pr mill_Deck_Next_p3 τ (mill_Deck_Next_q2 Q E) E H :=
  vP (i := 0) h (fun x0 h => vI (i := 1) h (fun x1 h => (conv (by kernel_rfl) h)))

theorem mill_Deck_Next_5ok (Q : QT) (E : ET) (τ : Tau) (H : Heap) (h : mill_Deck_Next_3_M Q E τ H) : vc Pr mill_Deck_Next_p1 τ (mill_Deck_Next_q1 Q E) E H :=
  (conv (B := vc Pr mill_Deck_Next_p1 τ (mill_Deck_Next_q1 Q E) E H) (by kernel_rfl) (vc_seq (K := (mill_Deck_Next_1_M Q E)) (mill_Deck_Next_4ok Q E τ H h) (mill_Deck_Next_2ok Q E)))

@[reducible] noncomputable def mill_Deck_Next_q3 (Q : QT) (E : ET) : Exit → Tau → Heap → Prop := (xthen (mill_Deck_Next_3_M Q E) (mill_Deck_Next_q1 Q E))

@[reducible] noncomputable def mill_Deck_Next_p4 : Code := sA mill_Deck_Next_p0

def mill_Deck_Next (Q : QT) (E : ET) (a0 : OA) (a1 : Int) (H : Heap) : Prop :=
 mill_Deck_Next_3 Q E a0 a1 H

theorem mill_Deck_Next_fn (a0 : OA) (a1 : Int) (Q : QT) (E : ET) (H : Heap) (h : mill_Deck_Next Q E a0 a1 H)   : Does Pr 49 #[(.pointer a0), (.int .i64 a1)] H Q E :=
  Fn_of_vc (fn := Try.f49) (c := mill_Deck_Next_p0) (args := [(.pointer a0), (.int .i64 a1)]) mixed (by kernel_rfl) (by kernel_rfl) (by kernel_rfl) (by kernel_rfl) (by kernel_rfl) ((conv (B := vc Pr mill_Deck_Next_p0 (argT [(.pointer a0), (.int .i64 a1)]) (mill_Deck_Next_q1 Q E) E H) (by kernel_rfl) (vc_seq (K := (mill_Deck_Next_3_M Q E)) (conv (B := vc Pr mill_Deck_Next_p4 (argT [(.pointer a0), (.int .i64 a1)]) (mill_Deck_Next_q3 Q E) E H) (by kernel_rfl) h) (mill_Deck_Next_5ok Q E))))

/-! (*jobmux/jobmuxmill.Deck).Left -/
@[reducible] noncomputable def mill_Deck_Left_q1 (Q : QT) (E : ET) : Exit → Tau → Heap → Prop := (retQ Pr (Try.f61).results.toList Q)

@[reducible] noncomputable def mill_Deck_Left_p0 : Code := bodyOf Try.f61

def mill_Deck_Left (Q : QT) (E : ET) (a0 : OA) (H : Heap) : Prop :=
 ptr a0 fun q1 =>
 ldI .i64 (Addr.add q1 1) H fun n2 =>
 ptr a0 fun q3 =>
 ldSl q3 H fun p4 l5 c6 =>
 Q (.bool (decide ((n2 : Int) < ((l5 : Nat) : Int)))) H

theorem mill_Deck_Left_fn (a0 : OA) (Q : QT) (E : ET) (H : Heap) (h : mill_Deck_Left Q E a0 H)   : Does Pr 61 #[(.pointer a0)] H Q E :=
  Fn_of_vc (fn := Try.f61) (c := mill_Deck_Left_p0) (args := [(.pointer a0)]) mixed (by kernel_rfl) (by kernel_rfl) (by kernel_rfl) (by kernel_rfl) (by kernel_rfl) ((conv (B := vc Pr mill_Deck_Left_p0 (argT [(.pointer a0)]) (mill_Deck_Left_q1 Q E) E H) (by kernel_rfl) h))

end Go.Proofs.Ytaffcoiomggpfaa
