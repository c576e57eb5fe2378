import Derived.Test.YtombjgnlpdnclaaVPr
/- Printed by gen.py: the Go functions of package mill over a heap view, and that the model does so. -/
namespace Go.Proofs.Ytombjgnlpdnclaa
open Go.V
set_option linter.unusedVariables false
set_option maxRecDepth 100000
variable (Q : QT) (E : ET)
/-! jobmux/jobmuxmill.Mod -/
noncomputable def mill_Mod_q1 (Q : QT) (E : ET)  : XT := (retQ Pr (Try.f12).results.toList Q)

noncomputable def mill_Mod_p1 : Code := sB (bodyOf Try.f12)

def mill_Mod_1 (Q : QT) (E : ET) (x5 : Int) (H : Heap) : Prop :=
 Q (.int .i64 x5) H

def mill_Mod_1_M  (τ : Tau) (H : Heap) : Prop := mI .i64 (τ 5) fun x5 => mill_Mod_1 Q E x5 H

theorem mill_Mod_2ok  : Ok Pr (mill_Mod_1_M Q E) (sB (sB mill_Mod_p1)) (mill_Mod_q1 Q E) E := fun τ H h =>
  wI 5 h (fun x5 h => (conv (by kernel_rfl) h))

noncomputable def mill_Mod_q2  : XT := (xthen (mill_Mod_1_M Q E) (mill_Mod_q1 Q E))

def mill_Mod_3 (Q : QT) (E : ET) (x1 x5 : Int) (H : Heap) : Prop :=
 sel (decide (x5 < 0))
 (mill_Mod_1 Q E (IntKind.wrap .i64 (x5 + x1)) H)
 (mill_Mod_1 Q E x5 H)

def mill_Mod_3_M  (τ : Tau) (H : Heap) : Prop := mI .i64 (τ 1) fun x1 => mI .i64 (τ 5) fun x5 => mill_Mod_3 Q E x1 x5 H

theorem mill_Mod_4ok  : Ok Pr (mill_Mod_3_M Q E) (sA (sB mill_Mod_p1)) (mill_Mod_q2 Q E) E := fun τ H h =>
  wI 1 h (fun x1 h => wI 5 h (fun x5 h => (conv (by kernel_rfl) h)))

theorem mill_Mod_5ok  : Ok Pr (mill_Mod_3_M Q E) (sB mill_Mod_p1) (mill_Mod_q1 Q E) E := fun τ H h =>
  (conv (by kernel_rfl) (vc_seq (K := (mill_Mod_1_M Q E)) (mill_Mod_4ok Q E τ H h) (mill_Mod_2ok Q E)))

noncomputable def mill_Mod_q3  : XT := (xthen (mill_Mod_3_M Q E) (mill_Mod_q1 Q E))

def mill_Mod_6 (Q : QT) (E : ET) (x0 x1 : Int) (H : Heap) : Prop :=
 (x1 : Int) ≠ 0 ∧ mill_Mod_3 Q E x1 (Int.tmod x0 x1) H

def mill_Mod_6_M  (τ : Tau) (H : Heap) : Prop := mI .i64 (τ 0) fun x0 => mI .i64 (τ 1) fun x1 => mill_Mod_6 Q E x0 x1 H

theorem mill_Mod_7ok  : Ok Pr (mill_Mod_6_M Q E) (sA mill_Mod_p1) (mill_Mod_q3 Q E) E := fun τ H h =>
  wI 0 h (fun x0 h => wI 1 h (fun x1 h => (conv (by kernel_rfl) h)))

theorem mill_Mod_8ok  : Ok Pr (mill_Mod_6_M Q E) mill_Mod_p1 (mill_Mod_q1 Q E) E := fun τ H h =>
  (conv (by kernel_rfl) (vc_seq (K := (mill_Mod_3_M Q E)) (mill_Mod_7ok Q E τ H h) (mill_Mod_5ok Q E)))

def mill_Mod (Q : QT) (E : ET) (a0 : Int) (a1 : Int) (H : Heap) : Prop :=
 mill_Mod_6 Q E a0 a1 H

theorem mill_Mod_fn (a0 : Int) (a1 : Int) (Q : QT) (E : ET) (H : Heap) (h : mill_Mod Q E a0 a1 H)   : Does Pr 12 #[(.int .i64 a0), (.int .i64 a1)] H Q E :=
  Fn_of_vc (fn := Try.f12) (c := (bodyOf Try.f12)) (args := [(.int .i64 a0), (.int .i64 a1)]) mixed (by kernel_rfl) (by kernel_rfl) (by kernel_rfl) (by kernel_rfl) (by kernel_rfl) ((conv (B := vc Pr (bodyOf Try.f12) (argT [(.int .i64 a0), (.int .i64 a1)]) (mill_Mod_q1 Q E) E H) (by kernel_rfl) (vc_seq (K := (mill_Mod_6_M Q E)) (conv (B := vc Pr (sA (bodyOf Try.f12)) (argT [(.int .i64 a0), (.int .i64 a1)]) (xthen (mill_Mod_6_M Q E) (mill_Mod_q1 Q E)) E H) (by kernel_rfl) h) (mill_Mod_8ok Q E))))

/-! jobmux/jobmuxmill.New -/
noncomputable def mill_New_q1 (Q : QT) (E : ET)  : XT := (retQ Pr (Try.f14).results.toList Q)

def mill_New (Q : QT) (E : ET) (a0 : OA) (a0l : Nat) (a0c : Nat) (H : Heap) : Prop :=
 nw (.cells #[(.slice a0 a0l a0c), (.int .i64 0)] 54 (0, 0)) H fun i1 H2 =>
 Q (.pointer (some ⟨i1, 0, none⟩)) H2

theorem mill_New_fn (a0 : OA) (a0l : Nat) (a0c : Nat) (Q : QT) (E : ET) (H : Heap) (h : mill_New Q E a0 a0l a0c H)   : Does Pr 14 #[(.slice a0 a0l a0c)] H Q E :=
  Fn_of_vc (fn := Try.f14) (c := (bodyOf Try.f14)) (args := [(.slice a0 a0l a0c)]) mixed (by kernel_rfl) (by kernel_rfl) (by kernel_rfl) (by kernel_rfl) (by kernel_rfl) ((conv (B := vc Pr (bodyOf Try.f14) (argT [(.slice a0 a0l a0c)]) (mill_New_q1 Q E) E H) (by kernel_rfl) h))

/-! (*jobmux/jobmuxmill.Deck).Left -/
noncomputable def mill_Deck_Left_q1 (Q : QT) (E : ET)  : XT := (retQ Pr (Try.f15).results.toList Q)

def mill_Deck_Left (Q : QT) (E : ET) (a0 : OA) (H : Heap) : Prop :=
 ptr a0 fun q1 =>
 ldI .i64 (Addr.add q1 1) H fun n2 =>
 ptr a0 fun q3 =>
 ldSl q3 H fun p4 l5 c6 =>
 Q (.bool (decide (n2 < (l5 : Int)))) H

theorem mill_Deck_Left_fn (a0 : OA) (Q : QT) (E : ET) (H : Heap) (h : mill_Deck_Left Q E a0 H)   : Does Pr 15 #[(.pointer a0)] H Q E :=
  Fn_of_vc (fn := Try.f15) (c := (bodyOf Try.f15)) (args := [(.pointer a0)]) mixed (by kernel_rfl) (by kernel_rfl) (by kernel_rfl) (by kernel_rfl) (by kernel_rfl) ((conv (B := vc Pr (bodyOf Try.f15) (argT [(.pointer a0)]) (mill_Deck_Left_q1 Q E) E H) (by kernel_rfl) h))

/-! (*jobmux/jobmuxmill.Deck).Next -/
noncomputable def mill_Deck_Next_q1 (Q : QT) (E : ET)  : XT := (retQ Pr (Try.f16).results.toList Q)

def mill_Deck_Next_1 (Q : QT) (E : ET) (x0 : OA) (x1 : Int) (H : Heap) : Prop :=
 ptr x0 fun q4 =>
 ldI .i64 (Addr.add q4 1) H fun n5 =>
 ptr x0 fun q6 =>
 wr (Addr.add q6 1) [(.int .i64 (IntKind.wrap .i64 (n5 + 1)))] H fun H7 =>
 ptr x0 fun q8 =>
 ldSl q8 H7 fun p9 l10 c11 =>
 ptr x0 fun q12 =>
 ldI .i64 (Addr.add q12 1) H7 fun n13 =>
 (0 ≤ ((IntKind.wrap .i64 (n13 - 1)) : Int) ∧ ((IntKind.wrap .i64 (n13 - 1)) : Int) < (l10 : Int)) ∧ ptr p9 fun q14 =>
 ldI .i64 (Addr.add q14 (((IntKind.wrap .i64 (n13 - 1)) : Int).toNat * 1)) H7 fun n15 =>
 Does Pr 12 #[(.int .i64 n15), (.int .i64 x1)] H7 (fun v16 H17 =>
 ∃ n18 : Int, v16 = (.int .i64 n18) ∧ Q (.int .i64 n18) H17) (fun _ _ => False)

def mill_Deck_Next_1_M  (τ : Tau) (H : Heap) : Prop := mP (τ 0) fun x0 => mI .i64 (τ 1) fun x1 => mill_Deck_Next_1 Q E x0 x1 H

theorem mill_Deck_Next_2ok  : Ok Pr (mill_Deck_Next_1_M Q E) (sB (sB (bodyOf Try.f16))) (mill_Deck_Next_q1 Q E) E := fun τ H h =>
  wP 0 h (fun x0 h => wI 1 h (fun x1 h => (conv (by kernel_rfl) h)))

noncomputable def mill_Deck_Next_q2  : XT := (xthen (mill_Deck_Next_1_M Q E) (mill_Deck_Next_q1 Q E))

def mill_Deck_Next_3 (Q : QT) (E : ET) (x0 : OA) (x1 : Int) (H : Heap) : Prop :=
 Does Pr 15 #[(.pointer x0)] H (fun v19 H20 =>
 ∃ b21 : Bool, v19 = (.bool b21) ∧ sel (!b21)
 (Q (.int .i64 0) H20)
 (mill_Deck_Next_1 Q E x0 x1 H20)) E

def mill_Deck_Next_3_M  (τ : Tau) (H : Heap) : Prop := mP (τ 0) fun x0 => mI .i64 (τ 1) fun x1 => mill_Deck_Next_3 Q E x0 x1 H

theorem mill_Deck_Next_4ok  : Ok Pr (mill_Deck_Next_3_M Q E) (sA (sB (bodyOf Try.f16))) (mill_Deck_Next_q2 Q E) E := fun τ H h =>
  wP 0 h (fun x0 h => wI 1 h (fun x1 h => (conv (by kernel_rfl) h)))

theorem mill_Deck_Next_5ok  : Ok Pr (mill_Deck_Next_3_M Q E) (sB (bodyOf Try.f16)) (mill_Deck_Next_q1 Q E) E := fun τ H h =>
  (conv (by kernel_rfl) (vc_seq (K := (mill_Deck_Next_1_M Q E)) (mill_Deck_Next_4ok Q E τ H h) (mill_Deck_Next_2ok Q E)))

def mill_Deck_Next (Q : QT) (E : ET) (a0 : OA) (a1 : Int) (H : Heap) : Prop :=
 mill_Deck_Next_3 Q E a0 a1 H

theorem mill_Deck_Next_fn (a0 : OA) (a1 : Int) (Q : QT) (E : ET) (H : Heap) (h : mill_Deck_Next Q E a0 a1 H)   : Does Pr 16 #[(.pointer a0), (.int .i64 a1)] H Q E :=
  Fn_of_vc (fn := Try.f16) (c := (bodyOf Try.f16)) (args := [(.pointer a0), (.int .i64 a1)]) mixed (by kernel_rfl) (by kernel_rfl) (by kernel_rfl) (by kernel_rfl) (by kernel_rfl) ((conv (B := vc Pr (bodyOf Try.f16) (argT [(.pointer a0), (.int .i64 a1)]) (mill_Deck_Next_q1 Q E) E H) (by kernel_rfl) (vc_seq (K := (mill_Deck_Next_3_M Q E)) (conv (B := vc Pr (sA (bodyOf Try.f16)) (argT [(.pointer a0), (.int .i64 a1)]) (xthen (mill_Deck_Next_3_M Q E) (mill_Deck_Next_q1 Q E)) E H) (by kernel_rfl) h) (mill_Deck_Next_5ok Q E))))

end Go.Proofs.Ytombjgnlpdnclaa
