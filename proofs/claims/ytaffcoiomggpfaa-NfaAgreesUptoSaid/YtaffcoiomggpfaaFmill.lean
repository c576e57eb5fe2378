import Derived.Test.YtaffcoiomggpfaaVPr
/- Printed by gen.py: the Go functions of package mill over a heap view, and that the model does so. -/
namespace Go.Proofs.Ytaffcoiomggpfaa
open Go.V
set_option linter.unusedVariables false
set_option maxRecDepth 100000
variable (Q : QT) (E : ET)
/-! jobmux/jobmuxmill.Patterns -/
def zqt1 (Q : QT) (E : ET)  (H : Heap) : Prop :=
 nw (.cells #[(.string ⟨[111, 107].toArray⟩), (.string ⟨#[]⟩), (.string ⟨[114, 46, 42, 121, 36].toArray⟩), (.string ⟨[94, 117, 112, 124, 103, 111, 43].toArray⟩), (.string ⟨[91, 48, 45, 57, 93, 43, 120, 63].toArray⟩), (.string ⟨[40, 97, 98, 41, 42, 99].toArray⟩), (.string ⟨[94, 36].toArray⟩)] 9 (0, 0)) H fun i1 H2 =>
 Q (.slice (some ⟨i1, 0, none⟩) 7 7) H2

theorem zqt1_fn  (Q : QT) (E : ET) (H : Heap) (h : zqt1 Q E  H)   : Does Pr 21 #[] H Q E :=
  Fn_of_vc (fn := Try.f21) (c := (bodyOf Try.f21)) (args := []) mixed (by kernel_rfl) (by kernel_rfl) (by kernel_rfl) (by kernel_rfl) (by kernel_rfl) ((conv (B := vc Pr (bodyOf Try.f21) (argT []) (retQ Pr (Try.f21).results.toList Q) E H) (by kernel_rfl) h))

/-! jobmux/jobmuxmill.Mod -/
noncomputable def zqu1_q1 (Q : QT) (E : ET) : XT := (retQ Pr (Try.f22).results.toList Q)

noncomputable def zqu1_p1 : Code := sB (bodyOf Try.f22)

def zqu1_1 (Q : QT) (E : ET) (x5 : Int) (H : Heap) : Prop :=
 Q (.int .i64 x5) H

def zqu1_1_M  (τ : Tau) (H : Heap) : Prop := mI .i64 (τ 5) fun x5 => zqu1_1 Q E x5 H

theorem zqu1_2ok  : Ok Pr (zqu1_1_M Q E) (sB (sB zqu1_p1)) (zqu1_q1 Q E) E := fun τ H h =>
  wI 5 h (fun x5 h => (conv (by kernel_rfl) h))

noncomputable def zqu1_q2  : XT := (xthen (zqu1_1_M Q E) (zqu1_q1 Q E))

def zqu1_3 (Q : QT) (E : ET) (x1 x5 : Int) (H : Heap) : Prop :=
 sel (decide (x5 < 0))
 (zqu1_1 Q E (IntKind.wrap .i64 (x5 + x1)) H)
 (zqu1_1 Q E x5 H)

def zqu1_3_M  (τ : Tau) (H : Heap) : Prop := mI .i64 (τ 1) fun x1 => mI .i64 (τ 5) fun x5 => zqu1_3 Q E x1 x5 H

theorem zqu1_4ok  : Ok Pr (zqu1_3_M Q E) (sA (sB zqu1_p1)) (zqu1_q2 Q E) E := fun τ H h =>
  wI 1 h (fun x1 h => wI 5 h (fun x5 h => (conv (by kernel_rfl) h)))

theorem zqu1_5ok  : Ok Pr (zqu1_3_M Q E) (sB zqu1_p1) (zqu1_q1 Q E) E := fun τ H h =>
  (conv (by kernel_rfl) (vc_seq (K := (zqu1_1_M Q E)) (zqu1_4ok Q E τ H h) (zqu1_2ok Q E)))

noncomputable def zqu1_q3  : XT := (xthen (zqu1_3_M Q E) (zqu1_q1 Q E))

def zqu1_6 (Q : QT) (E : ET) (x0 x1 : Int) (H : Heap) : Prop :=
 (x1 : Int) ≠ 0 ∧ zqu1_3 Q E x1 (Int.tmod x0 x1) H

def zqu1_6_M  (τ : Tau) (H : Heap) : Prop := mI .i64 (τ 0) fun x0 => mI .i64 (τ 1) fun x1 => zqu1_6 Q E x0 x1 H

theorem zqu1_7ok  : Ok Pr (zqu1_6_M Q E) (sA zqu1_p1) (zqu1_q3 Q E) E := fun τ H h =>
  wI 0 h (fun x0 h => wI 1 h (fun x1 h => (conv (by kernel_rfl) h)))

theorem zqu1_8ok  : Ok Pr (zqu1_6_M Q E) zqu1_p1 (zqu1_q1 Q E) E := fun τ H h =>
  (conv (by kernel_rfl) (vc_seq (K := (zqu1_3_M Q E)) (zqu1_7ok Q E τ H h) (zqu1_5ok Q E)))

def zqu1 (Q : QT) (E : ET) (a0 : Int) (a1 : Int) (H : Heap) : Prop :=
 zqu1_6 Q E a0 a1 H

theorem zqu1_fn (a0 : Int) (a1 : Int) (Q : QT) (E : ET) (H : Heap) (h : zqu1 Q E a0 a1 H)   : Does Pr 22 #[(.int .i64 a0), (.int .i64 a1)] H Q E :=
  Fn_of_vc (fn := Try.f22) (c := (bodyOf Try.f22)) (args := [(.int .i64 a0), (.int .i64 a1)]) mixed (by kernel_rfl) (by kernel_rfl) (by kernel_rfl) (by kernel_rfl) (by kernel_rfl) ((conv (B := vc Pr (bodyOf Try.f22) (argT [(.int .i64 a0), (.int .i64 a1)]) (zqu1_q1 Q E) E H) (by kernel_rfl) (vc_seq (K := (zqu1_6_M Q E)) (conv (B := vc Pr (sA (bodyOf Try.f22)) (argT [(.int .i64 a0), (.int .i64 a1)]) (xthen (zqu1_6_M Q E) (zqu1_q1 Q E)) E H) (by kernel_rfl) h) (zqu1_8ok Q E))))

/-! jobmux/jobmuxmill.New -/
def zqv1 (Q : QT) (E : ET) (a0 : OA) (a0l : Nat) (a0c : Nat) (H : Heap) : Prop :=
 nw (.cells #[(.slice a0 a0l a0c), (.int .i64 0)] 123 (0, 0)) H fun i1 H2 =>
 Q (.pointer (some ⟨i1, 0, none⟩)) H2

theorem zqv1_fn (a0 : OA) (a0l : Nat) (a0c : Nat) (Q : QT) (E : ET) (H : Heap) (h : zqv1 Q E a0 a0l a0c H)   : Does Pr 47 #[(.slice a0 a0l a0c)] H Q E :=
  Fn_of_vc (fn := Try.f47) (c := (bodyOf Try.f47)) (args := [(.slice a0 a0l a0c)]) mixed (by kernel_rfl) (by kernel_rfl) (by kernel_rfl) (by kernel_rfl) (by kernel_rfl) ((conv (B := vc Pr (bodyOf Try.f47) (argT [(.slice a0 a0l a0c)]) (retQ Pr (Try.f47).results.toList Q) E H) (by kernel_rfl) h))

/-! (*jobmux/jobmuxmill.Deck).Range -/
def zqw1 (Q : QT) (E : ET) (a0 : OA) (a1 : Int) (a2 : Int) (H : Heap) : Prop :=
 Does Pr 49 #[(.pointer a0), (.int .i64 (IntKind.wrap .i64 ((IntKind.wrap .i64 (a2 - a1)) + 1)))] H (fun v1 H2 =>
 ∃ n3 : Int, v1 = (.int .i64 n3) ∧ Q (.int .i64 (IntKind.wrap .i64 (a1 + n3))) H2) E

theorem zqw1_fn (a0 : OA) (a1 : Int) (a2 : Int) (Q : QT) (E : ET) (H : Heap) (h : zqw1 Q E a0 a1 a2 H)   : Does Pr 48 #[(.pointer a0), (.int .i64 a1), (.int .i64 a2)] H Q E :=
  Fn_of_vc (fn := Try.f48) (c := (bodyOf Try.f48)) (args := [(.pointer a0), (.int .i64 a1), (.int .i64 a2)]) mixed (by kernel_rfl) (by kernel_rfl) (by kernel_rfl) (by kernel_rfl) (by kernel_rfl) ((conv (B := vc Pr (bodyOf Try.f48) (argT [(.pointer a0), (.int .i64 a1), (.int .i64 a2)]) (retQ Pr (Try.f48).results.toList Q) E H) (by kernel_rfl) h))

/-! (*jobmux/jobmuxmill.Deck).Next -/
noncomputable def zqx1_q1 (Q : QT) (E : ET) : XT := (retQ Pr (Try.f49).results.toList Q)

def zqx1_1 (Q : QT) (E : ET) (x0 : OA) (x1 : Int) (H : Heap) : Prop :=
 ptr x0 fun q4 =>
 ldI .i64 (Addr.add q4 1) H fun n5 =>
 ptr x0 fun q6 =>
 wr (Addr.add q6 1) [(.int .i64 (IntKind.wrap .i64 (n5 + 1)))] H fun H7 =>
 ptr x0 fun q8 =>
 ldSl q8 H7 fun p9 l10 c11 =>
 ptr x0 fun q12 =>
 ldI .i64 (Addr.add q12 1) H7 fun n13 =>
 (0 ≤ ((IntKind.wrap .i64 (n13 - 1)) : Int) ∧ ((IntKind.wrap .i64 (n13 - 1)) : Int) < (l10 : Int)) ∧ ptr p9 fun q14 =>
 ldI .i64 (Addr.add q14 (((IntKind.wrap .i64 (n13 - 1)) : Int).toNat * 1)) H7 fun n15 =>
 Does Pr 22 #[(.int .i64 n15), (.int .i64 x1)] H7 (fun v16 H17 =>
 ∃ n18 : Int, v16 = (.int .i64 n18) ∧ Q (.int .i64 n18) H17) (fun _ _ => False)

def zqx1_1_M  (τ : Tau) (H : Heap) : Prop := mP (τ 0) fun x0 => mI .i64 (τ 1) fun x1 => zqx1_1 Q E x0 x1 H

theorem zqx1_2ok  : Ok Pr (zqx1_1_M Q E) (sB (sB (bodyOf Try.f49))) (zqx1_q1 Q E) E := fun τ H h =>
  wP 0 h (fun x0 h => wI 1 h (fun x1 h => (conv (by kernel_rfl) h)))

noncomputable def zqx1_q2  : XT := (xthen (zqx1_1_M Q E) (zqx1_q1 Q E))

def zqx1_3 (Q : QT) (E : ET) (x0 : OA) (x1 : Int) (H : Heap) : Prop :=
 Does Pr 61 #[(.pointer x0)] H (fun v19 H20 =>
 ∃ b21 : Bool, v19 = (.bool b21) ∧ sel (!b21)
 (Q (.int .i64 0) H20)
 (zqx1_1 Q E x0 x1 H20)) E

def zqx1_3_M  (τ : Tau) (H : Heap) : Prop := mP (τ 0) fun x0 => mI .i64 (τ 1) fun x1 => zqx1_3 Q E x0 x1 H

theorem zqx1_4ok  : Ok Pr (zqx1_3_M Q E) (sA (sB (bodyOf Try.f49))) (zqx1_q2 Q E) E := fun τ H h =>
  wP 0 h (fun x0 h => wI 1 h (fun x1 h => (conv (by kernel_rfl) h)))

theorem zqx1_5ok  : Ok Pr (zqx1_3_M Q E) (sB (bodyOf Try.f49)) (zqx1_q1 Q E) E := fun τ H h =>
  (conv (by kernel_rfl) (vc_seq (K := (zqx1_1_M Q E)) (zqx1_4ok Q E τ H h) (zqx1_2ok Q E)))

def zqx1 (Q : QT) (E : ET) (a0 : OA) (a1 : Int) (H : Heap) : Prop :=
 zqx1_3 Q E a0 a1 H

theorem zqx1_fn (a0 : OA) (a1 : Int) (Q : QT) (E : ET) (H : Heap) (h : zqx1 Q E a0 a1 H)   : Does Pr 49 #[(.pointer a0), (.int .i64 a1)] H Q E :=
  Fn_of_vc (fn := Try.f49) (c := (bodyOf Try.f49)) (args := [(.pointer a0), (.int .i64 a1)]) mixed (by kernel_rfl) (by kernel_rfl) (by kernel_rfl) (by kernel_rfl) (by kernel_rfl) ((conv (B := vc Pr (bodyOf Try.f49) (argT [(.pointer a0), (.int .i64 a1)]) (zqx1_q1 Q E) E H) (by kernel_rfl) (vc_seq (K := (zqx1_3_M Q E)) (conv (B := vc Pr (sA (bodyOf Try.f49)) (argT [(.pointer a0), (.int .i64 a1)]) (xthen (zqx1_3_M Q E) (zqx1_q1 Q E)) E H) (by kernel_rfl) h) (zqx1_5ok Q E))))

/-! (*jobmux/jobmuxmill.Deck).Left -/
def zqy1 (Q : QT) (E : ET) (a0 : OA) (H : Heap) : Prop :=
 ptr a0 fun q1 =>
 ldI .i64 (Addr.add q1 1) H fun n2 =>
 ptr a0 fun q3 =>
 ldSl q3 H fun p4 l5 c6 =>
 Q (.bool (decide (n2 < (l5 : Int)))) H

theorem zqy1_fn (a0 : OA) (Q : QT) (E : ET) (H : Heap) (h : zqy1 Q E a0 H)   : Does Pr 61 #[(.pointer a0)] H Q E :=
  Fn_of_vc (fn := Try.f61) (c := (bodyOf Try.f61)) (args := [(.pointer a0)]) mixed (by kernel_rfl) (by kernel_rfl) (by kernel_rfl) (by kernel_rfl) (by kernel_rfl) ((conv (B := vc Pr (bodyOf Try.f61) (argT [(.pointer a0)]) (retQ Pr (Try.f61).results.toList Q) E H) (by kernel_rfl) h))

end Go.Proofs.Ytaffcoiomggpfaa
