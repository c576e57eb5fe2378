import Derived.Test.YtombjgnlpdnclaaVPr
/- Printed by gen.py: the Go functions of package slices over a heap view, and that the model does so. -/
namespace Go.Proofs.Ytombjgnlpdnclaa
open Go.V
set_option linter.unusedVariables false
set_option maxRecDepth 100000
variable (Q : QT) (E : ET)
/-! slices.Index[[]bool,bool] -/
noncomputable def slices_Index_bool_bool_q1 (Q : QT) (E : ET)  : XT := (retQ Pr (Try.f19).results.toList Q)

def slices_Index_bool_bool_1 (Q : QT) (E : ET)  (H : Heap) : Prop :=
 Q (.int .i64 (-1)) H

def slices_Index_bool_bool_1_M  (τ : Tau) (H : Heap) : Prop := slices_Index_bool_bool_1 Q E  H

theorem slices_Index_bool_bool_2ok  : Ok Pr (slices_Index_bool_bool_1_M Q E) (sB (sB (bodyOf Try.f19))) (slices_Index_bool_bool_q1 Q E) E := fun τ H h =>
  (conv (by kernel_rfl) h)

noncomputable def slices_Index_bool_bool_q2  : XT := (xthen (slices_Index_bool_bool_1_M Q E) (slices_Index_bool_bool_q1 Q E))

noncomputable def slices_Index_bool_bool_p3 : Code := sA (sB (bodyOf Try.f19))

noncomputable def slices_Index_bool_bool_q4 (nx3 : Int → HP) : XT := (xthen (fun τ H => mI .i64 (τ 8) fun x8' => nx3 x8' H) (xblock 0 (slices_Index_bool_bool_q2 Q E)))

noncomputable def slices_Index_bool_bool_p7 : Code := sB (sI (sI (sB slices_Index_bool_bool_p3)))

def slices_Index_bool_bool_3 (nx3 : Int → HP) (Q : QT) (E : ET) (x0 : OA) (l0 c0 : Nat) (x1 : Bool) (x7 x8 : Int) (H : Heap) : Prop :=
 nx3 (IntKind.wrap .i64 (x8 + 1)) H

def slices_Index_bool_bool_3_M (nx3 : Int → HP) (τ : Tau) (H : Heap) : Prop := mSl (τ 0) fun x0 l0 c0 => mB (τ 1) fun x1 => mI .i64 (τ 7) fun x7 => mI .i64 (τ 8) fun x8 => slices_Index_bool_bool_3 nx3 Q E x0 l0 c0 x1 x7 x8 H

theorem slices_Index_bool_bool_4ok (nx3 : Int → HP) : Ok Pr (slices_Index_bool_bool_3_M Q E nx3) (sB (sB slices_Index_bool_bool_p7)) (slices_Index_bool_bool_q4 Q E nx3) E := fun τ H h =>
  wSl 0 h (fun x0 l0 c0 h => wB 1 h (fun x1 h => wI 7 h (fun x7 h => wI 8 h (fun x8 h => (conv (by kernel_rfl) h)))))

noncomputable def slices_Index_bool_bool_q5 (nx3 : Int → HP) : XT := (xthen (slices_Index_bool_bool_3_M Q E nx3) (slices_Index_bool_bool_q4 Q E nx3))

def slices_Index_bool_bool_5 (nx3 : Int → HP) (Q : QT) (E : ET) (x0 : OA) (l0 c0 : Nat) (x1 : Bool) (x7 x8 : Int) (H : Heap) : Prop :=
 (0 ≤ x8 ∧ x8 < (l0 : Int)) ∧ ptr x0 fun q6 =>
 ldB (Addr.add q6 (x8.toNat * 1)) H fun b7 =>
 sel (x1 == b7)
 (Q (.int .i64 x8) H)
 (slices_Index_bool_bool_3 nx3 Q E x0 l0 c0 x1 x7 x8 H)

def slices_Index_bool_bool_5_M (nx3 : Int → HP) (τ : Tau) (H : Heap) : Prop := mSl (τ 0) fun x0 l0 c0 => mB (τ 1) fun x1 => mI .i64 (τ 7) fun x7 => mI .i64 (τ 8) fun x8 => slices_Index_bool_bool_5 nx3 Q E x0 l0 c0 x1 x7 x8 H

theorem slices_Index_bool_bool_6ok (nx3 : Int → HP) : Ok Pr (slices_Index_bool_bool_5_M Q E nx3) (sA (sB slices_Index_bool_bool_p7)) (slices_Index_bool_bool_q5 Q E nx3) E := fun τ H h =>
  wSl 0 h (fun x0 l0 c0 h => wB 1 h (fun x1 h => wI 7 h (fun x7 h => wI 8 h (fun x8 h => (conv (by kernel_rfl) h)))))

theorem slices_Index_bool_bool_7ok (nx3 : Int → HP) : Ok Pr (slices_Index_bool_bool_5_M Q E nx3) (sB slices_Index_bool_bool_p7) (slices_Index_bool_bool_q4 Q E nx3) E := fun τ H h =>
  (conv (by kernel_rfl) (vc_seq (K := (slices_Index_bool_bool_3_M Q E nx3)) (slices_Index_bool_bool_6ok Q E nx3 τ H h) (slices_Index_bool_bool_4ok Q E nx3)))

noncomputable def slices_Index_bool_bool_q6 (nx3 : Int → HP) : XT := (xthen (slices_Index_bool_bool_5_M Q E nx3) (slices_Index_bool_bool_q4 Q E nx3))

def slices_Index_bool_bool_8 (nx3 : Int → HP) (Q : QT) (E : ET) (x0 : OA) (l0 c0 : Nat) (x1 : Bool) (x7 x8 : Int) (x9 : Bool) (H : Heap) : Prop :=
 sel x9
 (slices_Index_bool_bool_5 nx3 Q E x0 l0 c0 x1 x7 x8 H)
 (slices_Index_bool_bool_1 Q E  H)

def slices_Index_bool_bool_8_M (nx3 : Int → HP) (τ : Tau) (H : Heap) : Prop := mSl (τ 0) fun x0 l0 c0 => mB (τ 1) fun x1 => mI .i64 (τ 7) fun x7 => mI .i64 (τ 8) fun x8 => mB (τ 9) fun x9 => slices_Index_bool_bool_8 nx3 Q E x0 l0 c0 x1 x7 x8 x9 H

theorem slices_Index_bool_bool_9ok (nx3 : Int → HP) : Ok Pr (slices_Index_bool_bool_8_M Q E nx3) (sA slices_Index_bool_bool_p7) (slices_Index_bool_bool_q6 Q E nx3) E := fun τ H h =>
  wSl 0 h (fun x0 l0 c0 h => wB 1 h (fun x1 h => wI 7 h (fun x7 h => wI 8 h (fun x8 h => wB 9 h (fun x9 h => (conv (by kernel_rfl) h))))))

theorem slices_Index_bool_bool_10ok (nx3 : Int → HP) : Ok Pr (slices_Index_bool_bool_8_M Q E nx3) slices_Index_bool_bool_p7 (slices_Index_bool_bool_q4 Q E nx3) E := fun τ H h =>
  (conv (by kernel_rfl) (vc_seq (K := (slices_Index_bool_bool_5_M Q E nx3)) (slices_Index_bool_bool_9ok Q E nx3 τ H h) (slices_Index_bool_bool_7ok Q E nx3)))

noncomputable def slices_Index_bool_bool_q7 (nx3 : Int → HP) : XT := (xthen (slices_Index_bool_bool_8_M Q E nx3) (slices_Index_bool_bool_q4 Q E nx3))

def slices_Index_bool_bool_11 (nx3 : Int → HP) (Q : QT) (E : ET) (x0 : OA) (l0 c0 : Nat) (x1 : Bool) (x7 x8 : Int) (H : Heap) : Prop :=
 slices_Index_bool_bool_8 nx3 Q E x0 l0 c0 x1 x7 x8 (decide (x8 < x7)) H

def slices_Index_bool_bool_11_M (nx3 : Int → HP) (τ : Tau) (H : Heap) : Prop := mSl (τ 0) fun x0 l0 c0 => mB (τ 1) fun x1 => mI .i64 (τ 7) fun x7 => mI .i64 (τ 8) fun x8 => slices_Index_bool_bool_11 nx3 Q E x0 l0 c0 x1 x7 x8 H

theorem slices_Index_bool_bool_12ok (nx3 : Int → HP) : Ok Pr (slices_Index_bool_bool_11_M Q E nx3) (sA (sI (sI (sB slices_Index_bool_bool_p3)))) (slices_Index_bool_bool_q7 Q E nx3) E := fun τ H h =>
  wSl 0 h (fun x0 l0 c0 h => wB 1 h (fun x1 h => wI 7 h (fun x7 h => wI 8 h (fun x8 h => (conv (by kernel_rfl) h)))))

theorem slices_Index_bool_bool_13ok (nx3 : Int → HP) : Ok Pr (slices_Index_bool_bool_11_M Q E nx3) (sI (sI (sB slices_Index_bool_bool_p3))) (slices_Index_bool_bool_q4 Q E nx3) E := fun τ H h =>
  (conv (by kernel_rfl) (vc_seq (K := (slices_Index_bool_bool_8_M Q E nx3)) (slices_Index_bool_bool_12ok Q E nx3 τ H h) (slices_Index_bool_bool_10ok Q E nx3)))

def slices_Index_bool_bool_14 (Q : QT) (E : ET) (x0 : OA) (l0 c0 : Nat) (x1 : Bool) (x7 x8 : Int) (H : Heap) : Prop :=
 ∃ (I : Int → HP) (μ : Int → Heap → Nat), I x8 H ∧ ∀ (x8 : Int) (H : Heap), I x8 H →
 slices_Index_bool_bool_11 (fun x8' H1 => I x8' H1 ∧ μ x8' H1 < μ x8 H) Q E x0 l0 c0 x1 x7 x8 H

def slices_Index_bool_bool_14_M  (τ : Tau) (H : Heap) : Prop := mSl (τ 0) fun x0 l0 c0 => mB (τ 1) fun x1 => mI .i64 (τ 7) fun x7 => mI .i64 (τ 8) fun x8 => slices_Index_bool_bool_14 Q E x0 l0 c0 x1 x7 x8 H

theorem slices_Index_bool_bool_15ok  : Ok Pr (slices_Index_bool_bool_14_M Q E) (sI (sB slices_Index_bool_bool_p3)) (xblock 0 (slices_Index_bool_bool_q2 Q E)) E := fun τ H h =>
  wSl 0 h (fun x0 l0 c0 h => wB 1 h (fun x1 h => wI 7 h (fun x7 h => wI 8 h (fun x8 h => match h with | ⟨I, μ, h0, hr⟩ => (conv (by kernel_rfl) (vc_loopG (c := sI (sI (sB slices_Index_bool_bool_p3))) (τ := (Tau.upd (Tau.upd (Tau.upd (Tau.upd τ 0 (.slice x0 l0 c0)) 1 (.bool x1)) 7 (.int .i64 x7)) 8 (.int .i64 x8))) [0, 1, 7] (fun τ H => mI .i64 (τ 8) fun x8' => I x8' H) (fun τ H => μ (gI (τ 8)) H) (by kernel_rfl) h0 (fun τ1 H1 hf hI => uF 0 (.slice x0 l0 c0) (hf 0 (by simp)) (uF 1 (.bool x1) (hf 1 (by simp)) (uF 7 (.int .i64 x7) (hf 7 (by simp)) (uI 8 hI (fun x8r h => lgx (slices_Index_bool_bool_13ok Q E (fun x8' H2 => I x8' H2 ∧ μ x8' H2 < μ x8r H1) (Tau.upd (Tau.upd (Tau.upd (Tau.upd τ1 0 (.slice x0 l0 c0)) 1 (.bool x1)) 7 (.int .i64 x7)) 8 (.int .i64 x8r)) H1 (conv (by kernel_rfl) (hr x8r H1 h))) (fun τ2 H2 hk => kI 8 hk (fun x8' h => conv (by kernel_rfl) h)))))))))))))

theorem slices_Index_bool_bool_16ok  : Ok Pr (slices_Index_bool_bool_14_M Q E) (sB slices_Index_bool_bool_p3) (slices_Index_bool_bool_q2 Q E) E := fun τ H h =>
  (conv (by kernel_rfl) (slices_Index_bool_bool_15ok Q E τ H h))

noncomputable def slices_Index_bool_bool_q8  : XT := (xthen (slices_Index_bool_bool_14_M Q E) (slices_Index_bool_bool_q2 Q E))

def slices_Index_bool_bool_17 (Q : QT) (E : ET) (x0 : OA) (l0 c0 : Nat) (x1 : Bool) (H : Heap) : Prop :=
 slices_Index_bool_bool_14 Q E x0 l0 c0 x1 (l0 : Int) 0 H

def slices_Index_bool_bool_17_M  (τ : Tau) (H : Heap) : Prop := mSl (τ 0) fun x0 l0 c0 => mB (τ 1) fun x1 => slices_Index_bool_bool_17 Q E x0 l0 c0 x1 H

theorem slices_Index_bool_bool_18ok  : Ok Pr (slices_Index_bool_bool_17_M Q E) (sA slices_Index_bool_bool_p3) (slices_Index_bool_bool_q8 Q E) E := fun τ H h =>
  wSl 0 h (fun x0 l0 c0 h => wB 1 h (fun x1 h => (conv (by kernel_rfl) h)))

theorem slices_Index_bool_bool_19ok  : Ok Pr (slices_Index_bool_bool_17_M Q E) slices_Index_bool_bool_p3 (slices_Index_bool_bool_q2 Q E) E := fun τ H h =>
  (conv (by kernel_rfl) (vc_seq (K := (slices_Index_bool_bool_14_M Q E)) (slices_Index_bool_bool_18ok Q E τ H h) (slices_Index_bool_bool_16ok Q E)))

theorem slices_Index_bool_bool_20ok  : Ok Pr (slices_Index_bool_bool_17_M Q E) (sB (bodyOf Try.f19)) (slices_Index_bool_bool_q1 Q E) E := fun τ H h =>
  (conv (by kernel_rfl) (vc_seq (K := (slices_Index_bool_bool_1_M Q E)) (slices_Index_bool_bool_19ok Q E τ H h) (slices_Index_bool_bool_2ok Q E)))

def slices_Index_bool_bool (Q : QT) (E : ET) (a0 : OA) (a0l : Nat) (a0c : Nat) (a1 : Bool) (H : Heap) : Prop :=
 slices_Index_bool_bool_17 Q E a0 a0l a0c a1 H

theorem slices_Index_bool_bool_fn (a0 : OA) (a0l : Nat) (a0c : Nat) (a1 : Bool) (Q : QT) (E : ET) (H : Heap) (h : slices_Index_bool_bool Q E a0 a0l a0c a1 H)   : Does Pr 19 #[(.slice a0 a0l a0c), (.bool a1)] H Q E :=
  Fn_of_vc (fn := Try.f19) (c := (bodyOf Try.f19)) (args := [(.slice a0 a0l a0c), (.bool a1)]) mixed (by kernel_rfl) (by kernel_rfl) (by kernel_rfl) (by kernel_rfl) (by kernel_rfl) ((conv (B := vc Pr (bodyOf Try.f19) (argT [(.slice a0 a0l a0c), (.bool a1)]) (slices_Index_bool_bool_q1 Q E) E H) (by kernel_rfl) (vc_seq (K := (slices_Index_bool_bool_17_M Q E)) (conv (B := vc Pr (sA (bodyOf Try.f19)) (argT [(.slice a0 a0l a0c), (.bool a1)]) (xthen (slices_Index_bool_bool_17_M Q E) (slices_Index_bool_bool_q1 Q E)) E H) (by kernel_rfl) h) (slices_Index_bool_bool_20ok Q E))))

/-! slices.Contains[[]int,int] -/
noncomputable def slices_Contains_int_int_q1 (Q : QT) (E : ET)  : XT := (retQ Pr (Try.f20).results.toList Q)

def slices_Contains_int_int (Q : QT) (E : ET) (a0 : OA) (a0l : Nat) (a0c : Nat) (a1 : Int) (H : Heap) : Prop :=
 Does Pr 23 #[(.slice a0 a0l a0c), (.int .i64 a1)] H (fun v1 H2 =>
 ∃ n3 : Int, v1 = (.int .i64 n3) ∧ Q (.bool (decide (n3 ≥ 0))) H2) E

theorem slices_Contains_int_int_fn (a0 : OA) (a0l : Nat) (a0c : Nat) (a1 : Int) (Q : QT) (E : ET) (H : Heap) (h : slices_Contains_int_int Q E a0 a0l a0c a1 H)   : Does Pr 20 #[(.slice a0 a0l a0c), (.int .i64 a1)] H Q E :=
  Fn_of_vc (fn := Try.f20) (c := (bodyOf Try.f20)) (args := [(.slice a0 a0l a0c), (.int .i64 a1)]) mixed (by kernel_rfl) (by kernel_rfl) (by kernel_rfl) (by kernel_rfl) (by kernel_rfl) ((conv (B := vc Pr (bodyOf Try.f20) (argT [(.slice a0 a0l a0c), (.int .i64 a1)]) (slices_Contains_int_int_q1 Q E) E H) (by kernel_rfl) h))

/-! slices.IndexFunc[[]int,int] -/
noncomputable def slices_IndexFunc_int_int_q1 (Q : QT) (E : ET)  : XT := (retQ Pr (Try.f21).results.toList Q)

def slices_IndexFunc_int_int_1 (Q : QT) (E : ET)  (H : Heap) : Prop :=
 Q (.int .i64 (-1)) H

def slices_IndexFunc_int_int_1_M  (τ : Tau) (H : Heap) : Prop := slices_IndexFunc_int_int_1 Q E  H

theorem slices_IndexFunc_int_int_2ok  : Ok Pr (slices_IndexFunc_int_int_1_M Q E) (sB (sB (bodyOf Try.f21))) (slices_IndexFunc_int_int_q1 Q E) E := fun τ H h =>
  (conv (by kernel_rfl) h)

noncomputable def slices_IndexFunc_int_int_q2  : XT := (xthen (slices_IndexFunc_int_int_1_M Q E) (slices_IndexFunc_int_int_q1 Q E))

noncomputable def slices_IndexFunc_int_int_p3 : Code := sA (sB (bodyOf Try.f21))

noncomputable def slices_IndexFunc_int_int_q4 (nx6 : Int → HP) : XT := (xthen (fun τ H => mI .i64 (τ 8) fun x8' => nx6 x8' H) (xblock 0 (slices_IndexFunc_int_int_q2 Q E)))

noncomputable def slices_IndexFunc_int_int_p7 : Code := sB (sI (sI (sB slices_IndexFunc_int_int_p3)))

def slices_IndexFunc_int_int_3 (nx6 : Int → HP) (Q : QT) (E : ET) (x0 : OA) (l0 c0 : Nat) (x1 : Value) (x7 x8 : Int) (H : Heap) : Prop :=
 nx6 (IntKind.wrap .i64 (x8 + 1)) H

def slices_IndexFunc_int_int_3_M (nx6 : Int → HP) (τ : Tau) (H : Heap) : Prop := mSl (τ 0) fun x0 l0 c0 => mV (τ 1) fun x1 => mI .i64 (τ 7) fun x7 => mI .i64 (τ 8) fun x8 => slices_IndexFunc_int_int_3 nx6 Q E x0 l0 c0 x1 x7 x8 H

theorem slices_IndexFunc_int_int_4ok (nx6 : Int → HP) : Ok Pr (slices_IndexFunc_int_int_3_M Q E nx6) (sB (sB slices_IndexFunc_int_int_p7)) (slices_IndexFunc_int_int_q4 Q E nx6) E := fun τ H h =>
  wSl 0 h (fun x0 l0 c0 h => wV 1 h (fun x1 h => wI 7 h (fun x7 h => wI 8 h (fun x8 h => (conv (by kernel_rfl) h)))))

noncomputable def slices_IndexFunc_int_int_q5 (nx6 : Int → HP) : XT := (xthen (slices_IndexFunc_int_int_3_M Q E nx6) (slices_IndexFunc_int_int_q4 Q E nx6))

def slices_IndexFunc_int_int_5 (nx6 : Int → HP) (Q : QT) (E : ET) (x0 : OA) (l0 c0 : Nat) (x1 : Value) (x7 x8 : Int) (H : Heap) : Prop :=
 (0 ≤ x8 ∧ x8 < (l0 : Int)) ∧ ptr x0 fun q12 =>
 ldI .i64 (Addr.add q12 (x8.toNat * 1)) H fun n13 =>
 callV Pr E x1 [(.int .i64 n13)] (fun v14 H15 =>
 ∃ b16 : Bool, v14 = (.bool b16) ∧ sel b16
 (Q (.int .i64 x8) H15)
 (slices_IndexFunc_int_int_3 nx6 Q E x0 l0 c0 x1 x7 x8 H15)) H

def slices_IndexFunc_int_int_5_M (nx6 : Int → HP) (τ : Tau) (H : Heap) : Prop := mSl (τ 0) fun x0 l0 c0 => mV (τ 1) fun x1 => mI .i64 (τ 7) fun x7 => mI .i64 (τ 8) fun x8 => slices_IndexFunc_int_int_5 nx6 Q E x0 l0 c0 x1 x7 x8 H

theorem slices_IndexFunc_int_int_6ok (nx6 : Int → HP) : Ok Pr (slices_IndexFunc_int_int_5_M Q E nx6) (sA (sB slices_IndexFunc_int_int_p7)) (slices_IndexFunc_int_int_q5 Q E nx6) E := fun τ H h =>
  wSl 0 h (fun x0 l0 c0 h => wV 1 h (fun x1 h => wI 7 h (fun x7 h => wI 8 h (fun x8 h => (conv (by kernel_rfl) h)))))

theorem slices_IndexFunc_int_int_7ok (nx6 : Int → HP) : Ok Pr (slices_IndexFunc_int_int_5_M Q E nx6) (sB slices_IndexFunc_int_int_p7) (slices_IndexFunc_int_int_q4 Q E nx6) E := fun τ H h =>
  (conv (by kernel_rfl) (vc_seq (K := (slices_IndexFunc_int_int_3_M Q E nx6)) (slices_IndexFunc_int_int_6ok Q E nx6 τ H h) (slices_IndexFunc_int_int_4ok Q E nx6)))

noncomputable def slices_IndexFunc_int_int_q6 (nx6 : Int → HP) : XT := (xthen (slices_IndexFunc_int_int_5_M Q E nx6) (slices_IndexFunc_int_int_q4 Q E nx6))

def slices_IndexFunc_int_int_8 (nx6 : Int → HP) (Q : QT) (E : ET) (x0 : OA) (l0 c0 : Nat) (x1 : Value) (x7 x8 : Int) (x9 : Bool) (H : Heap) : Prop :=
 sel x9
 (slices_IndexFunc_int_int_5 nx6 Q E x0 l0 c0 x1 x7 x8 H)
 (slices_IndexFunc_int_int_1 Q E  H)

def slices_IndexFunc_int_int_8_M (nx6 : Int → HP) (τ : Tau) (H : Heap) : Prop := mSl (τ 0) fun x0 l0 c0 => mV (τ 1) fun x1 => mI .i64 (τ 7) fun x7 => mI .i64 (τ 8) fun x8 => mB (τ 9) fun x9 => slices_IndexFunc_int_int_8 nx6 Q E x0 l0 c0 x1 x7 x8 x9 H

theorem slices_IndexFunc_int_int_9ok (nx6 : Int → HP) : Ok Pr (slices_IndexFunc_int_int_8_M Q E nx6) (sA slices_IndexFunc_int_int_p7) (slices_IndexFunc_int_int_q6 Q E nx6) E := fun τ H h =>
  wSl 0 h (fun x0 l0 c0 h => wV 1 h (fun x1 h => wI 7 h (fun x7 h => wI 8 h (fun x8 h => wB 9 h (fun x9 h => (conv (by kernel_rfl) h))))))

theorem slices_IndexFunc_int_int_10ok (nx6 : Int → HP) : Ok Pr (slices_IndexFunc_int_int_8_M Q E nx6) slices_IndexFunc_int_int_p7 (slices_IndexFunc_int_int_q4 Q E nx6) E := fun τ H h =>
  (conv (by kernel_rfl) (vc_seq (K := (slices_IndexFunc_int_int_5_M Q E nx6)) (slices_IndexFunc_int_int_9ok Q E nx6 τ H h) (slices_IndexFunc_int_int_7ok Q E nx6)))

noncomputable def slices_IndexFunc_int_int_q7 (nx6 : Int → HP) : XT := (xthen (slices_IndexFunc_int_int_8_M Q E nx6) (slices_IndexFunc_int_int_q4 Q E nx6))

def slices_IndexFunc_int_int_11 (nx6 : Int → HP) (Q : QT) (E : ET) (x0 : OA) (l0 c0 : Nat) (x1 : Value) (x7 x8 : Int) (H : Heap) : Prop :=
 slices_IndexFunc_int_int_8 nx6 Q E x0 l0 c0 x1 x7 x8 (decide (x8 < x7)) H

def slices_IndexFunc_int_int_11_M (nx6 : Int → HP) (τ : Tau) (H : Heap) : Prop := mSl (τ 0) fun x0 l0 c0 => mV (τ 1) fun x1 => mI .i64 (τ 7) fun x7 => mI .i64 (τ 8) fun x8 => slices_IndexFunc_int_int_11 nx6 Q E x0 l0 c0 x1 x7 x8 H

theorem slices_IndexFunc_int_int_12ok (nx6 : Int → HP) : Ok Pr (slices_IndexFunc_int_int_11_M Q E nx6) (sA (sI (sI (sB slices_IndexFunc_int_int_p3)))) (slices_IndexFunc_int_int_q7 Q E nx6) E := fun τ H h =>
  wSl 0 h (fun x0 l0 c0 h => wV 1 h (fun x1 h => wI 7 h (fun x7 h => wI 8 h (fun x8 h => (conv (by kernel_rfl) h)))))

theorem slices_IndexFunc_int_int_13ok (nx6 : Int → HP) : Ok Pr (slices_IndexFunc_int_int_11_M Q E nx6) (sI (sI (sB slices_IndexFunc_int_int_p3))) (slices_IndexFunc_int_int_q4 Q E nx6) E := fun τ H h =>
  (conv (by kernel_rfl) (vc_seq (K := (slices_IndexFunc_int_int_8_M Q E nx6)) (slices_IndexFunc_int_int_12ok Q E nx6 τ H h) (slices_IndexFunc_int_int_10ok Q E nx6)))

def slices_IndexFunc_int_int_14 (Q : QT) (E : ET) (x0 : OA) (l0 c0 : Nat) (x1 : Value) (x7 x8 : Int) (H : Heap) : Prop :=
 ∃ (I : Int → HP) (μ : Int → Heap → Nat), I x8 H ∧ ∀ (x8 : Int) (H : Heap), I x8 H →
 slices_IndexFunc_int_int_11 (fun x8' H1 => I x8' H1 ∧ μ x8' H1 < μ x8 H) Q E x0 l0 c0 x1 x7 x8 H

def slices_IndexFunc_int_int_14_M  (τ : Tau) (H : Heap) : Prop := mSl (τ 0) fun x0 l0 c0 => mV (τ 1) fun x1 => mI .i64 (τ 7) fun x7 => mI .i64 (τ 8) fun x8 => slices_IndexFunc_int_int_14 Q E x0 l0 c0 x1 x7 x8 H

theorem slices_IndexFunc_int_int_15ok  : Ok Pr (slices_IndexFunc_int_int_14_M Q E) (sI (sB slices_IndexFunc_int_int_p3)) (xblock 0 (slices_IndexFunc_int_int_q2 Q E)) E := fun τ H h =>
  wSl 0 h (fun x0 l0 c0 h => wV 1 h (fun x1 h => wI 7 h (fun x7 h => wI 8 h (fun x8 h => match h with | ⟨I, μ, h0, hr⟩ => (conv (by kernel_rfl) (vc_loopG (c := sI (sI (sB slices_IndexFunc_int_int_p3))) (τ := (Tau.upd (Tau.upd (Tau.upd (Tau.upd τ 0 (.slice x0 l0 c0)) 1 x1) 7 (.int .i64 x7)) 8 (.int .i64 x8))) [0, 1, 7] (fun τ H => mI .i64 (τ 8) fun x8' => I x8' H) (fun τ H => μ (gI (τ 8)) H) (by kernel_rfl) h0 (fun τ1 H1 hf hI => uF 0 (.slice x0 l0 c0) (hf 0 (by simp)) (uF 1 x1 (hf 1 (by simp)) (uF 7 (.int .i64 x7) (hf 7 (by simp)) (uI 8 hI (fun x8r h => lgx (slices_IndexFunc_int_int_13ok Q E (fun x8' H2 => I x8' H2 ∧ μ x8' H2 < μ x8r H1) (Tau.upd (Tau.upd (Tau.upd (Tau.upd τ1 0 (.slice x0 l0 c0)) 1 x1) 7 (.int .i64 x7)) 8 (.int .i64 x8r)) H1 (conv (by kernel_rfl) (hr x8r H1 h))) (fun τ2 H2 hk => kI 8 hk (fun x8' h => conv (by kernel_rfl) h)))))))))))))

theorem slices_IndexFunc_int_int_16ok  : Ok Pr (slices_IndexFunc_int_int_14_M Q E) (sB slices_IndexFunc_int_int_p3) (slices_IndexFunc_int_int_q2 Q E) E := fun τ H h =>
  (conv (by kernel_rfl) (slices_IndexFunc_int_int_15ok Q E τ H h))

noncomputable def slices_IndexFunc_int_int_q8  : XT := (xthen (slices_IndexFunc_int_int_14_M Q E) (slices_IndexFunc_int_int_q2 Q E))

def slices_IndexFunc_int_int_17 (Q : QT) (E : ET) (x0 : OA) (l0 c0 : Nat) (x1 : Value) (H : Heap) : Prop :=
 slices_IndexFunc_int_int_14 Q E x0 l0 c0 x1 (l0 : Int) 0 H

def slices_IndexFunc_int_int_17_M  (τ : Tau) (H : Heap) : Prop := mSl (τ 0) fun x0 l0 c0 => mV (τ 1) fun x1 => slices_IndexFunc_int_int_17 Q E x0 l0 c0 x1 H

theorem slices_IndexFunc_int_int_18ok  : Ok Pr (slices_IndexFunc_int_int_17_M Q E) (sA slices_IndexFunc_int_int_p3) (slices_IndexFunc_int_int_q8 Q E) E := fun τ H h =>
  wSl 0 h (fun x0 l0 c0 h => wV 1 h (fun x1 h => (conv (by kernel_rfl) h)))

theorem slices_IndexFunc_int_int_19ok  : Ok Pr (slices_IndexFunc_int_int_17_M Q E) slices_IndexFunc_int_int_p3 (slices_IndexFunc_int_int_q2 Q E) E := fun τ H h =>
  (conv (by kernel_rfl) (vc_seq (K := (slices_IndexFunc_int_int_14_M Q E)) (slices_IndexFunc_int_int_18ok Q E τ H h) (slices_IndexFunc_int_int_16ok Q E)))

theorem slices_IndexFunc_int_int_20ok  : Ok Pr (slices_IndexFunc_int_int_17_M Q E) (sB (bodyOf Try.f21)) (slices_IndexFunc_int_int_q1 Q E) E := fun τ H h =>
  (conv (by kernel_rfl) (vc_seq (K := (slices_IndexFunc_int_int_1_M Q E)) (slices_IndexFunc_int_int_19ok Q E τ H h) (slices_IndexFunc_int_int_2ok Q E)))

def slices_IndexFunc_int_int (Q : QT) (E : ET) (a0 : OA) (a0l : Nat) (a0c : Nat) (a1 : Value) (H : Heap) : Prop :=
 slices_IndexFunc_int_int_17 Q E a0 a0l a0c a1 H

theorem slices_IndexFunc_int_int_fn (a0 : OA) (a0l : Nat) (a0c : Nat) (a1 : Value) (Q : QT) (E : ET) (H : Heap) (h : slices_IndexFunc_int_int Q E a0 a0l a0c a1 H)   : Does Pr 21 #[(.slice a0 a0l a0c), a1] H Q E :=
  Fn_of_vc (fn := Try.f21) (c := (bodyOf Try.f21)) (args := [(.slice a0 a0l a0c), a1]) mixed (by kernel_rfl) (by kernel_rfl) (by kernel_rfl) (by kernel_rfl) (by kernel_rfl) ((conv (B := vc Pr (bodyOf Try.f21) (argT [(.slice a0 a0l a0c), a1]) (slices_IndexFunc_int_int_q1 Q E) E H) (by kernel_rfl) (vc_seq (K := (slices_IndexFunc_int_int_17_M Q E)) (conv (B := vc Pr (sA (bodyOf Try.f21)) (argT [(.slice a0 a0l a0c), a1]) (xthen (slices_IndexFunc_int_int_17_M Q E) (slices_IndexFunc_int_int_q1 Q E)) E H) (by kernel_rfl) h) (slices_IndexFunc_int_int_20ok Q E))))

/-! slices.Index[[]int,int] -/
noncomputable def slices_Index_int_int_q1 (Q : QT) (E : ET)  : XT := (retQ Pr (Try.f23).results.toList Q)

def slices_Index_int_int_1 (Q : QT) (E : ET)  (H : Heap) : Prop :=
 Q (.int .i64 (-1)) H

def slices_Index_int_int_1_M  (τ : Tau) (H : Heap) : Prop := slices_Index_int_int_1 Q E  H

theorem slices_Index_int_int_2ok  : Ok Pr (slices_Index_int_int_1_M Q E) (sB (sB (bodyOf Try.f23))) (slices_Index_int_int_q1 Q E) E := fun τ H h =>
  (conv (by kernel_rfl) h)

noncomputable def slices_Index_int_int_q2  : XT := (xthen (slices_Index_int_int_1_M Q E) (slices_Index_int_int_q1 Q E))

noncomputable def slices_Index_int_int_p3 : Code := sA (sB (bodyOf Try.f23))

noncomputable def slices_Index_int_int_q4 (nx3 : Int → HP) : XT := (xthen (fun τ H => mI .i64 (τ 8) fun x8' => nx3 x8' H) (xblock 0 (slices_Index_int_int_q2 Q E)))

noncomputable def slices_Index_int_int_p7 : Code := sB (sI (sI (sB slices_Index_int_int_p3)))

def slices_Index_int_int_3 (nx3 : Int → HP) (Q : QT) (E : ET) (x0 : OA) (l0 c0 : Nat) (x1 x7 x8 : Int) (H : Heap) : Prop :=
 nx3 (IntKind.wrap .i64 (x8 + 1)) H

def slices_Index_int_int_3_M (nx3 : Int → HP) (τ : Tau) (H : Heap) : Prop := mSl (τ 0) fun x0 l0 c0 => mI .i64 (τ 1) fun x1 => mI .i64 (τ 7) fun x7 => mI .i64 (τ 8) fun x8 => slices_Index_int_int_3 nx3 Q E x0 l0 c0 x1 x7 x8 H

theorem slices_Index_int_int_4ok (nx3 : Int → HP) : Ok Pr (slices_Index_int_int_3_M Q E nx3) (sB (sB slices_Index_int_int_p7)) (slices_Index_int_int_q4 Q E nx3) E := fun τ H h =>
  wSl 0 h (fun x0 l0 c0 h => wI 1 h (fun x1 h => wI 7 h (fun x7 h => wI 8 h (fun x8 h => (conv (by kernel_rfl) h)))))

noncomputable def slices_Index_int_int_q5 (nx3 : Int → HP) : XT := (xthen (slices_Index_int_int_3_M Q E nx3) (slices_Index_int_int_q4 Q E nx3))

def slices_Index_int_int_5 (nx3 : Int → HP) (Q : QT) (E : ET) (x0 : OA) (l0 c0 : Nat) (x1 x7 x8 : Int) (H : Heap) : Prop :=
 (0 ≤ x8 ∧ x8 < (l0 : Int)) ∧ ptr x0 fun q6 =>
 ldI .i64 (Addr.add q6 (x8.toNat * 1)) H fun n7 =>
 sel (x1 == n7)
 (Q (.int .i64 x8) H)
 (slices_Index_int_int_3 nx3 Q E x0 l0 c0 x1 x7 x8 H)

def slices_Index_int_int_5_M (nx3 : Int → HP) (τ : Tau) (H : Heap) : Prop := mSl (τ 0) fun x0 l0 c0 => mI .i64 (τ 1) fun x1 => mI .i64 (τ 7) fun x7 => mI .i64 (τ 8) fun x8 => slices_Index_int_int_5 nx3 Q E x0 l0 c0 x1 x7 x8 H

theorem slices_Index_int_int_6ok (nx3 : Int → HP) : Ok Pr (slices_Index_int_int_5_M Q E nx3) (sA (sB slices_Index_int_int_p7)) (slices_Index_int_int_q5 Q E nx3) E := fun τ H h =>
  wSl 0 h (fun x0 l0 c0 h => wI 1 h (fun x1 h => wI 7 h (fun x7 h => wI 8 h (fun x8 h => (conv (by kernel_rfl) h)))))

theorem slices_Index_int_int_7ok (nx3 : Int → HP) : Ok Pr (slices_Index_int_int_5_M Q E nx3) (sB slices_Index_int_int_p7) (slices_Index_int_int_q4 Q E nx3) E := fun τ H h =>
  (conv (by kernel_rfl) (vc_seq (K := (slices_Index_int_int_3_M Q E nx3)) (slices_Index_int_int_6ok Q E nx3 τ H h) (slices_Index_int_int_4ok Q E nx3)))

noncomputable def slices_Index_int_int_q6 (nx3 : Int → HP) : XT := (xthen (slices_Index_int_int_5_M Q E nx3) (slices_Index_int_int_q4 Q E nx3))

def slices_Index_int_int_8 (nx3 : Int → HP) (Q : QT) (E : ET) (x0 : OA) (l0 c0 : Nat) (x1 x7 x8 : Int) (x9 : Bool) (H : Heap) : Prop :=
 sel x9
 (slices_Index_int_int_5 nx3 Q E x0 l0 c0 x1 x7 x8 H)
 (slices_Index_int_int_1 Q E  H)

def slices_Index_int_int_8_M (nx3 : Int → HP) (τ : Tau) (H : Heap) : Prop := mSl (τ 0) fun x0 l0 c0 => mI .i64 (τ 1) fun x1 => mI .i64 (τ 7) fun x7 => mI .i64 (τ 8) fun x8 => mB (τ 9) fun x9 => slices_Index_int_int_8 nx3 Q E x0 l0 c0 x1 x7 x8 x9 H

theorem slices_Index_int_int_9ok (nx3 : Int → HP) : Ok Pr (slices_Index_int_int_8_M Q E nx3) (sA slices_Index_int_int_p7) (slices_Index_int_int_q6 Q E nx3) E := fun τ H h =>
  wSl 0 h (fun x0 l0 c0 h => wI 1 h (fun x1 h => wI 7 h (fun x7 h => wI 8 h (fun x8 h => wB 9 h (fun x9 h => (conv (by kernel_rfl) h))))))

theorem slices_Index_int_int_10ok (nx3 : Int → HP) : Ok Pr (slices_Index_int_int_8_M Q E nx3) slices_Index_int_int_p7 (slices_Index_int_int_q4 Q E nx3) E := fun τ H h =>
  (conv (by kernel_rfl) (vc_seq (K := (slices_Index_int_int_5_M Q E nx3)) (slices_Index_int_int_9ok Q E nx3 τ H h) (slices_Index_int_int_7ok Q E nx3)))

noncomputable def slices_Index_int_int_q7 (nx3 : Int → HP) : XT := (xthen (slices_Index_int_int_8_M Q E nx3) (slices_Index_int_int_q4 Q E nx3))

def slices_Index_int_int_11 (nx3 : Int → HP) (Q : QT) (E : ET) (x0 : OA) (l0 c0 : Nat) (x1 x7 x8 : Int) (H : Heap) : Prop :=
 slices_Index_int_int_8 nx3 Q E x0 l0 c0 x1 x7 x8 (decide (x8 < x7)) H

def slices_Index_int_int_11_M (nx3 : Int → HP) (τ : Tau) (H : Heap) : Prop := mSl (τ 0) fun x0 l0 c0 => mI .i64 (τ 1) fun x1 => mI .i64 (τ 7) fun x7 => mI .i64 (τ 8) fun x8 => slices_Index_int_int_11 nx3 Q E x0 l0 c0 x1 x7 x8 H

theorem slices_Index_int_int_12ok (nx3 : Int → HP) : Ok Pr (slices_Index_int_int_11_M Q E nx3) (sA (sI (sI (sB slices_Index_int_int_p3)))) (slices_Index_int_int_q7 Q E nx3) E := fun τ H h =>
  wSl 0 h (fun x0 l0 c0 h => wI 1 h (fun x1 h => wI 7 h (fun x7 h => wI 8 h (fun x8 h => (conv (by kernel_rfl) h)))))

theorem slices_Index_int_int_13ok (nx3 : Int → HP) : Ok Pr (slices_Index_int_int_11_M Q E nx3) (sI (sI (sB slices_Index_int_int_p3))) (slices_Index_int_int_q4 Q E nx3) E := fun τ H h =>
  (conv (by kernel_rfl) (vc_seq (K := (slices_Index_int_int_8_M Q E nx3)) (slices_Index_int_int_12ok Q E nx3 τ H h) (slices_Index_int_int_10ok Q E nx3)))

def slices_Index_int_int_14 (Q : QT) (E : ET) (x0 : OA) (l0 c0 : Nat) (x1 x7 x8 : Int) (H : Heap) : Prop :=
 ∃ (I : Int → HP) (μ : Int → Heap → Nat), I x8 H ∧ ∀ (x8 : Int) (H : Heap), I x8 H →
 slices_Index_int_int_11 (fun x8' H1 => I x8' H1 ∧ μ x8' H1 < μ x8 H) Q E x0 l0 c0 x1 x7 x8 H

def slices_Index_int_int_14_M  (τ : Tau) (H : Heap) : Prop := mSl (τ 0) fun x0 l0 c0 => mI .i64 (τ 1) fun x1 => mI .i64 (τ 7) fun x7 => mI .i64 (τ 8) fun x8 => slices_Index_int_int_14 Q E x0 l0 c0 x1 x7 x8 H

theorem slices_Index_int_int_15ok  : Ok Pr (slices_Index_int_int_14_M Q E) (sI (sB slices_Index_int_int_p3)) (xblock 0 (slices_Index_int_int_q2 Q E)) E := fun τ H h =>
  wSl 0 h (fun x0 l0 c0 h => wI 1 h (fun x1 h => wI 7 h (fun x7 h => wI 8 h (fun x8 h => match h with | ⟨I, μ, h0, hr⟩ => (conv (by kernel_rfl) (vc_loopG (c := sI (sI (sB slices_Index_int_int_p3))) (τ := (Tau.upd (Tau.upd (Tau.upd (Tau.upd τ 0 (.slice x0 l0 c0)) 1 (.int .i64 x1)) 7 (.int .i64 x7)) 8 (.int .i64 x8))) [0, 1, 7] (fun τ H => mI .i64 (τ 8) fun x8' => I x8' H) (fun τ H => μ (gI (τ 8)) H) (by kernel_rfl) h0 (fun τ1 H1 hf hI => uF 0 (.slice x0 l0 c0) (hf 0 (by simp)) (uF 1 (.int .i64 x1) (hf 1 (by simp)) (uF 7 (.int .i64 x7) (hf 7 (by simp)) (uI 8 hI (fun x8r h => lgx (slices_Index_int_int_13ok Q E (fun x8' H2 => I x8' H2 ∧ μ x8' H2 < μ x8r H1) (Tau.upd (Tau.upd (Tau.upd (Tau.upd τ1 0 (.slice x0 l0 c0)) 1 (.int .i64 x1)) 7 (.int .i64 x7)) 8 (.int .i64 x8r)) H1 (conv (by kernel_rfl) (hr x8r H1 h))) (fun τ2 H2 hk => kI 8 hk (fun x8' h => conv (by kernel_rfl) h)))))))))))))

theorem slices_Index_int_int_16ok  : Ok Pr (slices_Index_int_int_14_M Q E) (sB slices_Index_int_int_p3) (slices_Index_int_int_q2 Q E) E := fun τ H h =>
  (conv (by kernel_rfl) (slices_Index_int_int_15ok Q E τ H h))

noncomputable def slices_Index_int_int_q8  : XT := (xthen (slices_Index_int_int_14_M Q E) (slices_Index_int_int_q2 Q E))

def slices_Index_int_int_17 (Q : QT) (E : ET) (x0 : OA) (l0 c0 : Nat) (x1 : Int) (H : Heap) : Prop :=
 slices_Index_int_int_14 Q E x0 l0 c0 x1 (l0 : Int) 0 H

def slices_Index_int_int_17_M  (τ : Tau) (H : Heap) : Prop := mSl (τ 0) fun x0 l0 c0 => mI .i64 (τ 1) fun x1 => slices_Index_int_int_17 Q E x0 l0 c0 x1 H

theorem slices_Index_int_int_18ok  : Ok Pr (slices_Index_int_int_17_M Q E) (sA slices_Index_int_int_p3) (slices_Index_int_int_q8 Q E) E := fun τ H h =>
  wSl 0 h (fun x0 l0 c0 h => wI 1 h (fun x1 h => (conv (by kernel_rfl) h)))

theorem slices_Index_int_int_19ok  : Ok Pr (slices_Index_int_int_17_M Q E) slices_Index_int_int_p3 (slices_Index_int_int_q2 Q E) E := fun τ H h =>
  (conv (by kernel_rfl) (vc_seq (K := (slices_Index_int_int_14_M Q E)) (slices_Index_int_int_18ok Q E τ H h) (slices_Index_int_int_16ok Q E)))

theorem slices_Index_int_int_20ok  : Ok Pr (slices_Index_int_int_17_M Q E) (sB (bodyOf Try.f23)) (slices_Index_int_int_q1 Q E) E := fun τ H h =>
  (conv (by kernel_rfl) (vc_seq (K := (slices_Index_int_int_1_M Q E)) (slices_Index_int_int_19ok Q E τ H h) (slices_Index_int_int_2ok Q E)))

def slices_Index_int_int (Q : QT) (E : ET) (a0 : OA) (a0l : Nat) (a0c : Nat) (a1 : Int) (H : Heap) : Prop :=
 slices_Index_int_int_17 Q E a0 a0l a0c a1 H

theorem slices_Index_int_int_fn (a0 : OA) (a0l : Nat) (a0c : Nat) (a1 : Int) (Q : QT) (E : ET) (H : Heap) (h : slices_Index_int_int Q E a0 a0l a0c a1 H)   : Does Pr 23 #[(.slice a0 a0l a0c), (.int .i64 a1)] H Q E :=
  Fn_of_vc (fn := Try.f23) (c := (bodyOf Try.f23)) (args := [(.slice a0 a0l a0c), (.int .i64 a1)]) mixed (by kernel_rfl) (by kernel_rfl) (by kernel_rfl) (by kernel_rfl) (by kernel_rfl) ((conv (B := vc Pr (bodyOf Try.f23) (argT [(.slice a0 a0l a0c), (.int .i64 a1)]) (slices_Index_int_int_q1 Q E) E H) (by kernel_rfl) (vc_seq (K := (slices_Index_int_int_17_M Q E)) (conv (B := vc Pr (sA (bodyOf Try.f23)) (argT [(.slice a0 a0l a0c), (.int .i64 a1)]) (xthen (slices_Index_int_int_17_M Q E) (slices_Index_int_int_q1 Q E)) E H) (by kernel_rfl) h) (slices_Index_int_int_20ok Q E))))

/-! slices.Sort[[]int,int] -/
noncomputable def slices_Sort_int_int_q1 (Q : QT) (E : ET)  : XT := (retQ Pr (Try.f25).results.toList Q)

def slices_Sort_int_int (Q : QT) (E : ET) (a0 : OA) (a0l : Nat) (a0c : Nat) (H : Heap) : Prop :=
 Does Pr 32 #[(.int .u64 (IntKind.wrap .u64 (a0l : Int)))] H (fun v1 H2 =>
 ∃ n3 : Int, v1 = (.int .i64 n3) ∧ Does Pr 31 #[(.slice a0 a0l a0c), (.int .i64 0), (.int .i64 (a0l : Int)), (.int .i64 n3)] H2 (fun v4 H5 =>
 Q (.tuple #[]) H5) E) E

theorem slices_Sort_int_int_fn (a0 : OA) (a0l : Nat) (a0c : Nat) (Q : QT) (E : ET) (H : Heap) (h : slices_Sort_int_int Q E a0 a0l a0c H)   : Does Pr 25 #[(.slice a0 a0l a0c)] H Q E :=
  Fn_of_vc (fn := Try.f25) (c := (bodyOf Try.f25)) (args := [(.slice a0 a0l a0c)]) mixed (by kernel_rfl) (by kernel_rfl) (by kernel_rfl) (by kernel_rfl) (by kernel_rfl) ((conv (B := vc Pr (bodyOf Try.f25) (argT [(.slice a0 a0l a0c)]) (slices_Sort_int_int_q1 Q E) E H) (by kernel_rfl) h))

/-! slices.Compact[[]int,int] -/
noncomputable def slices_Compact_int_int_q1 (Q : QT) (E : ET)  : XT := (retQ Pr (Try.f26).results.toList Q)

def slices_Compact_int_int_1 (Q : QT) (E : ET) (x0 : OA) (l0 c0 : Nat) (H : Heap) : Prop :=
 Q (.slice x0 l0 c0) H

def slices_Compact_int_int_1_M  (τ : Tau) (H : Heap) : Prop := mSl (τ 0) fun x0 l0 c0 => slices_Compact_int_int_1 Q E x0 l0 c0 H

theorem slices_Compact_int_int_2ok  : Ok Pr (slices_Compact_int_int_1_M Q E) (sB (sB (sB (bodyOf Try.f26)))) (slices_Compact_int_int_q1 Q E) E := fun τ H h =>
  wSl 0 h (fun x0 l0 c0 h => (conv (by kernel_rfl) h))

noncomputable def slices_Compact_int_int_q2  : XT := (xthen (slices_Compact_int_int_1_M Q E) (slices_Compact_int_int_q1 Q E))

noncomputable def slices_Compact_int_int_p6 : Code := sI (sB (sA (sB (sB (bodyOf Try.f26)))))

noncomputable def slices_Compact_int_int_q4 (nx14 : Int → HP) : XT := (xthen (fun τ H => mI .i64 (τ 3) fun x3' => nx14 x3' H) (xblock 0 (slices_Compact_int_int_q2 Q E)))

def slices_Compact_int_int_3 (nx14 : Int → HP) (Q : QT) (E : ET) (x0 : OA) (l0 c0 : Nat) (x3 : Int) (H : Heap) : Prop :=
 nx14 (IntKind.wrap .i64 (x3 + 1)) H

def slices_Compact_int_int_3_M (nx14 : Int → HP) (τ : Tau) (H : Heap) : Prop := mSl (τ 0) fun x0 l0 c0 => mI .i64 (τ 3) fun x3 => slices_Compact_int_int_3 nx14 Q E x0 l0 c0 x3 H

theorem slices_Compact_int_int_4ok (nx14 : Int → HP) : Ok Pr (slices_Compact_int_int_3_M Q E nx14) (sB (sB (sI slices_Compact_int_int_p6))) (slices_Compact_int_int_q4 Q E nx14) E := fun τ H h =>
  wSl 0 h (fun x0 l0 c0 h => wI 3 h (fun x3 h => (conv (by kernel_rfl) h)))

noncomputable def slices_Compact_int_int_q6 (nx14 : Int → HP) : XT := (xblock 1 (xthen (slices_Compact_int_int_3_M Q E nx14) (slices_Compact_int_int_q4 Q E nx14)))

noncomputable def slices_Compact_int_int_p11 : Code := sI (sA (sB (sI slices_Compact_int_int_p6)))

noncomputable def slices_Compact_int_int_p14 : Code := sB (sT (sB slices_Compact_int_int_p11))

def slices_Compact_int_int_5 (nx14 : Int → HP) (Q : QT) (E : ET) (x0 : OA) (l0 c0 : Nat) (x3 : Int) (H : Heap) : Prop :=
 (0 ≤ x3 ∧ x3 ≤ (l0 : Int)) ∧ wrS (if c0 = x3.toNat then x0 else Option.map (fun a => Addr.add a (x3.toNat * 1)) x0) 0 (rep (l0 - x3.toNat) [(.int .i64 0)]) H fun H40 =>
 (0 ≤ x3 ∧ x3 ≤ (c0 : Int)) ∧ Q (.slice (if c0 = 0 then x0 else Option.map (fun a => Addr.add a (0 * 1)) x0) (x3.toNat - 0) (c0 - 0)) H40

def slices_Compact_int_int_5_M (nx14 : Int → HP) (τ : Tau) (H : Heap) : Prop := mSl (τ 0) fun x0 l0 c0 => mI .i64 (τ 3) fun x3 => slices_Compact_int_int_5 nx14 Q E x0 l0 c0 x3 H

theorem slices_Compact_int_int_6ok (nx14 : Int → HP) : Ok Pr (slices_Compact_int_int_5_M Q E nx14) (sB slices_Compact_int_int_p14) (slices_Compact_int_int_q6 Q E nx14) E := fun τ H h =>
  wSl 0 h (fun x0 l0 c0 h => wI 3 h (fun x3 h => (conv (by kernel_rfl) h)))

noncomputable def slices_Compact_int_int_q7 (nx14 : Int → HP) : XT := (xthen (slices_Compact_int_int_5_M Q E nx14) (slices_Compact_int_int_q6 Q E nx14))

noncomputable def slices_Compact_int_int_q9 (nx14 : Int → HP) (nx41 : Int → Int → HP) : XT := (xthen (fun τ H => mI .i64 (τ 3) fun x3' => mI .i64 (τ 5) fun x5' => nx41 x3' x5' H) (xblock 2 (slices_Compact_int_int_q7 Q E nx14)))

noncomputable def slices_Compact_int_int_p19 : Code := sI (sI (sB (sA slices_Compact_int_int_p14)))

def slices_Compact_int_int_7 (nx14 : Int → HP) (nx41 : Int → Int → HP) (Q : QT) (E : ET) (x0 : OA) (l0 c0 : Nat) (x3 : Int) (x4 : OA) (l4 c4 : Nat) (x5 : Int) (H : Heap) : Prop :=
 nx41 x3 (IntKind.wrap .i64 (x5 + 1)) H

def slices_Compact_int_int_7_M (nx14 : Int → HP) (nx41 : Int → Int → HP) (τ : Tau) (H : Heap) : Prop := mSl (τ 0) fun x0 l0 c0 => mI .i64 (τ 3) fun x3 => mSl (τ 4) fun x4 l4 c4 => mI .i64 (τ 5) fun x5 => slices_Compact_int_int_7 nx14 nx41 Q E x0 l0 c0 x3 x4 l4 c4 x5 H

theorem slices_Compact_int_int_8ok (nx14 : Int → HP) (nx41 : Int → Int → HP) : Ok Pr (slices_Compact_int_int_7_M Q E nx14 nx41) (sB (sB slices_Compact_int_int_p19)) (slices_Compact_int_int_q9 Q E nx14 nx41) E := fun τ H h =>
  wSl 0 h (fun x0 l0 c0 h => wI 3 h (fun x3 h => wSl 4 h (fun x4 l4 c4 h => wI 5 h (fun x5 h => (conv (by kernel_rfl) h)))))

noncomputable def slices_Compact_int_int_q10 (nx14 : Int → HP) (nx41 : Int → Int → HP) : XT := (xthen (slices_Compact_int_int_7_M Q E nx14 nx41) (slices_Compact_int_int_q9 Q E nx14 nx41))

def slices_Compact_int_int_9 (nx14 : Int → HP) (nx41 : Int → Int → HP) (Q : QT) (E : ET) (x0 : OA) (l0 c0 : Nat) (x3 : Int) (x4 : OA) (l4 c4 : Nat) (x5 : Int) (H : Heap) : Prop :=
 (0 ≤ x5 ∧ x5 < (l4 : Int)) ∧ ptr x4 fun q50 =>
 ldI .i64 (Addr.add q50 (x5.toNat * 1)) H fun n51 =>
 (0 ≤ ((IntKind.wrap .i64 (x5 - 1)) : Int) ∧ ((IntKind.wrap .i64 (x5 - 1)) : Int) < (l4 : Int)) ∧ ptr x4 fun q52 =>
 ldI .i64 (Addr.add q52 (((IntKind.wrap .i64 (x5 - 1)) : Int).toNat * 1)) H fun n53 =>
 sel (n51 != n53)
 ((0 ≤ x5 ∧ x5 < (l4 : Int)) ∧ ptr x4 fun q54 =>
 ldI .i64 (Addr.add q54 (x5.toNat * 1)) H fun n55 =>
 (0 ≤ x3 ∧ x3 < (l0 : Int)) ∧ ptr x0 fun q56 =>
 wr (Addr.add q56 (x3.toNat * 1)) [(.int .i64 n55)] H fun H57 =>
 slices_Compact_int_int_7 nx14 nx41 Q E x0 l0 c0 (IntKind.wrap .i64 (x3 + 1)) x4 l4 c4 x5 H57)
 (slices_Compact_int_int_7 nx14 nx41 Q E x0 l0 c0 x3 x4 l4 c4 x5 H)

def slices_Compact_int_int_9_M (nx14 : Int → HP) (nx41 : Int → Int → HP) (τ : Tau) (H : Heap) : Prop := mSl (τ 0) fun x0 l0 c0 => mI .i64 (τ 3) fun x3 => mSl (τ 4) fun x4 l4 c4 => mI .i64 (τ 5) fun x5 => slices_Compact_int_int_9 nx14 nx41 Q E x0 l0 c0 x3 x4 l4 c4 x5 H

theorem slices_Compact_int_int_10ok (nx14 : Int → HP) (nx41 : Int → Int → HP) : Ok Pr (slices_Compact_int_int_9_M Q E nx14 nx41) (sA (sB slices_Compact_int_int_p19)) (slices_Compact_int_int_q10 Q E nx14 nx41) E := fun τ H h =>
  wSl 0 h (fun x0 l0 c0 h => wI 3 h (fun x3 h => wSl 4 h (fun x4 l4 c4 h => wI 5 h (fun x5 h => (conv (by kernel_rfl) h)))))

theorem slices_Compact_int_int_11ok (nx14 : Int → HP) (nx41 : Int → Int → HP) : Ok Pr (slices_Compact_int_int_9_M Q E nx14 nx41) (sB slices_Compact_int_int_p19) (slices_Compact_int_int_q9 Q E nx14 nx41) E := fun τ H h =>
  (conv (by kernel_rfl) (vc_seq (K := (slices_Compact_int_int_7_M Q E nx14 nx41)) (slices_Compact_int_int_10ok Q E nx14 nx41 τ H h) (slices_Compact_int_int_8ok Q E nx14 nx41)))

noncomputable def slices_Compact_int_int_q11 (nx14 : Int → HP) (nx41 : Int → Int → HP) : XT := (xthen (slices_Compact_int_int_9_M Q E nx14 nx41) (slices_Compact_int_int_q9 Q E nx14 nx41))

def slices_Compact_int_int_12 (nx14 : Int → HP) (nx41 : Int → Int → HP) (Q : QT) (E : ET) (x0 : OA) (l0 c0 : Nat) (x3 : Int) (x4 : OA) (l4 c4 : Nat) (x5 : Int) (H : Heap) : Prop :=
 sel (decide (x5 < (l4 : Int)))
 (slices_Compact_int_int_9 nx14 nx41 Q E x0 l0 c0 x3 x4 l4 c4 x5 H)
 (slices_Compact_int_int_5 nx14 Q E x0 l0 c0 x3 H)

def slices_Compact_int_int_12_M (nx14 : Int → HP) (nx41 : Int → Int → HP) (τ : Tau) (H : Heap) : Prop := mSl (τ 0) fun x0 l0 c0 => mI .i64 (τ 3) fun x3 => mSl (τ 4) fun x4 l4 c4 => mI .i64 (τ 5) fun x5 => slices_Compact_int_int_12 nx14 nx41 Q E x0 l0 c0 x3 x4 l4 c4 x5 H

theorem slices_Compact_int_int_13ok (nx14 : Int → HP) (nx41 : Int → Int → HP) : Ok Pr (slices_Compact_int_int_12_M Q E nx14 nx41) (sA slices_Compact_int_int_p19) (slices_Compact_int_int_q11 Q E nx14 nx41) E := fun τ H h =>
  wSl 0 h (fun x0 l0 c0 h => wI 3 h (fun x3 h => wSl 4 h (fun x4 l4 c4 h => wI 5 h (fun x5 h => (conv (by kernel_rfl) h)))))

theorem slices_Compact_int_int_14ok (nx14 : Int → HP) (nx41 : Int → Int → HP) : Ok Pr (slices_Compact_int_int_12_M Q E nx14 nx41) slices_Compact_int_int_p19 (slices_Compact_int_int_q9 Q E nx14 nx41) E := fun τ H h =>
  (conv (by kernel_rfl) (vc_seq (K := (slices_Compact_int_int_9_M Q E nx14 nx41)) (slices_Compact_int_int_13ok Q E nx14 nx41 τ H h) (slices_Compact_int_int_11ok Q E nx14 nx41)))

def slices_Compact_int_int_15 (nx14 : Int → HP) (Q : QT) (E : ET) (x0 : OA) (l0 c0 : Nat) (x4 : OA) (l4 c4 : Nat) (x3 x5 : Int) (H : Heap) : Prop :=
 ∃ (I : Int → Int → HP) (μ : Int → Int → Heap → Nat), I x3 x5 H ∧ ∀ (x3 x5 : Int) (H : Heap), I x3 x5 H →
 slices_Compact_int_int_12 nx14 (fun x3' x5' H1 => I x3' x5' H1 ∧ μ x3' x5' H1 < μ x3 x5 H) Q E x0 l0 c0 x3 x4 l4 c4 x5 H

def slices_Compact_int_int_15_M (nx14 : Int → HP) (τ : Tau) (H : Heap) : Prop := mSl (τ 0) fun x0 l0 c0 => mSl (τ 4) fun x4 l4 c4 => mI .i64 (τ 3) fun x3 => mI .i64 (τ 5) fun x5 => slices_Compact_int_int_15 nx14 Q E x0 l0 c0 x4 l4 c4 x3 x5 H

theorem slices_Compact_int_int_16ok (nx14 : Int → HP) : Ok Pr (slices_Compact_int_int_15_M Q E nx14) (sI (sB (sA slices_Compact_int_int_p14))) (xblock 2 (slices_Compact_int_int_q7 Q E nx14)) E := fun τ H h =>
  wSl 0 h (fun x0 l0 c0 h => wSl 4 h (fun x4 l4 c4 h => wI 3 h (fun x3 h => wI 5 h (fun x5 h => match h with | ⟨I, μ, h0, hr⟩ => (conv (by kernel_rfl) (vc_loopG (c := sI (sI (sB (sA slices_Compact_int_int_p14)))) (τ := (Tau.upd (Tau.upd (Tau.upd (Tau.upd τ 0 (.slice x0 l0 c0)) 4 (.slice x4 l4 c4)) 3 (.int .i64 x3)) 5 (.int .i64 x5))) [0, 4] (fun τ H => mI .i64 (τ 3) fun x3' => mI .i64 (τ 5) fun x5' => I x3' x5' H) (fun τ H => μ (gI (τ 3)) (gI (τ 5)) H) (by kernel_rfl) h0 (fun τ1 H1 hf hI => uF 0 (.slice x0 l0 c0) (hf 0 (by simp)) (uF 4 (.slice x4 l4 c4) (hf 4 (by simp)) (uI 3 hI (fun x3r h => uI 5 h (fun x5r h => lgx (slices_Compact_int_int_14ok Q E nx14 (fun x3' x5' H2 => I x3' x5' H2 ∧ μ x3' x5' H2 < μ x3r x5r H1) (Tau.upd (Tau.upd (Tau.upd (Tau.upd τ1 0 (.slice x0 l0 c0)) 4 (.slice x4 l4 c4)) 3 (.int .i64 x3r)) 5 (.int .i64 x5r)) H1 (conv (by kernel_rfl) (hr x3r x5r H1 h))) (fun τ2 H2 hk => kI 3 hk (fun x3' h => kI 5 h (fun x5' h => conv (by kernel_rfl) h))))))))))))))

theorem slices_Compact_int_int_17ok (nx14 : Int → HP) : Ok Pr (slices_Compact_int_int_15_M Q E nx14) (sB (sA slices_Compact_int_int_p14)) (slices_Compact_int_int_q7 Q E nx14) E := fun τ H h =>
  (conv (by kernel_rfl) (slices_Compact_int_int_16ok Q E nx14 τ H h))

noncomputable def slices_Compact_int_int_q12 (nx14 : Int → HP) : XT := (xthen (slices_Compact_int_int_15_M Q E nx14) (slices_Compact_int_int_q7 Q E nx14))

def slices_Compact_int_int_18 (nx14 : Int → HP) (Q : QT) (E : ET) (x0 : OA) (l0 c0 : Nat) (x3 : Int) (x4 : OA) (l4 c4 : Nat) (H : Heap) : Prop :=
 slices_Compact_int_int_15 nx14 Q E x0 l0 c0 x4 l4 c4 x3 1 H

def slices_Compact_int_int_18_M (nx14 : Int → HP) (τ : Tau) (H : Heap) : Prop := mSl (τ 0) fun x0 l0 c0 => mI .i64 (τ 3) fun x3 => mSl (τ 4) fun x4 l4 c4 => slices_Compact_int_int_18 nx14 Q E x0 l0 c0 x3 x4 l4 c4 H

theorem slices_Compact_int_int_19ok (nx14 : Int → HP) : Ok Pr (slices_Compact_int_int_18_M Q E nx14) (sA (sA slices_Compact_int_int_p14)) (slices_Compact_int_int_q12 Q E nx14) E := fun τ H h =>
  wSl 0 h (fun x0 l0 c0 h => wI 3 h (fun x3 h => wSl 4 h (fun x4 l4 c4 h => (conv (by kernel_rfl) h))))

theorem slices_Compact_int_int_20ok (nx14 : Int → HP) : Ok Pr (slices_Compact_int_int_18_M Q E nx14) (sA slices_Compact_int_int_p14) (slices_Compact_int_int_q7 Q E nx14) E := fun τ H h =>
  (conv (by kernel_rfl) (vc_seq (K := (slices_Compact_int_int_15_M Q E nx14)) (slices_Compact_int_int_19ok Q E nx14 τ H h) (slices_Compact_int_int_17ok Q E nx14)))

theorem slices_Compact_int_int_21ok (nx14 : Int → HP) : Ok Pr (slices_Compact_int_int_18_M Q E nx14) slices_Compact_int_int_p14 (slices_Compact_int_int_q6 Q E nx14) E := fun τ H h =>
  (conv (by kernel_rfl) (vc_seq (K := (slices_Compact_int_int_5_M Q E nx14)) (slices_Compact_int_int_20ok Q E nx14 τ H h) (slices_Compact_int_int_6ok Q E nx14)))

noncomputable def slices_Compact_int_int_q13 (nx14 : Int → HP) : XT := (xthen (slices_Compact_int_int_18_M Q E nx14) (slices_Compact_int_int_q6 Q E nx14))

def slices_Compact_int_int_22 (nx14 : Int → HP) (Q : QT) (E : ET) (x0 : OA) (l0 c0 : Nat) (x3 : Int) (H : Heap) : Prop :=
 (0 ≤ x3 ∧ x3 ≤ (l0 : Int)) ∧ slices_Compact_int_int_18 nx14 Q E x0 l0 c0 x3 (if c0 = x3.toNat then x0 else Option.map (fun a => Addr.add a (x3.toNat * 1)) x0) (l0 - x3.toNat) (c0 - x3.toNat) H

def slices_Compact_int_int_22_M (nx14 : Int → HP) (τ : Tau) (H : Heap) : Prop := mSl (τ 0) fun x0 l0 c0 => mI .i64 (τ 3) fun x3 => slices_Compact_int_int_22 nx14 Q E x0 l0 c0 x3 H

theorem slices_Compact_int_int_23ok (nx14 : Int → HP) : Ok Pr (slices_Compact_int_int_22_M Q E nx14) (sA (sT (sB slices_Compact_int_int_p11))) (slices_Compact_int_int_q13 Q E nx14) E := fun τ H h =>
  wSl 0 h (fun x0 l0 c0 h => wI 3 h (fun x3 h => (conv (by kernel_rfl) h)))

theorem slices_Compact_int_int_24ok (nx14 : Int → HP) : Ok Pr (slices_Compact_int_int_22_M Q E nx14) (sT (sB slices_Compact_int_int_p11)) (slices_Compact_int_int_q6 Q E nx14) E := fun τ H h =>
  (conv (by kernel_rfl) (vc_seq (K := (slices_Compact_int_int_18_M Q E nx14)) (slices_Compact_int_int_23ok Q E nx14 τ H h) (slices_Compact_int_int_21ok Q E nx14)))

def slices_Compact_int_int_25 (nx14 : Int → HP) (Q : QT) (E : ET) (x0 : OA) (l0 c0 : Nat) (x3 : Int) (H : Heap) : Prop :=
 slices_Compact_int_int_3 nx14 Q E x0 l0 c0 x3 H

def slices_Compact_int_int_25_M (nx14 : Int → HP) (τ : Tau) (H : Heap) : Prop := mSl (τ 0) fun x0 l0 c0 => mI .i64 (τ 3) fun x3 => slices_Compact_int_int_25 nx14 Q E x0 l0 c0 x3 H

theorem slices_Compact_int_int_26ok (nx14 : Int → HP) : Ok Pr (slices_Compact_int_int_25_M Q E nx14) (sE (sB slices_Compact_int_int_p11)) (slices_Compact_int_int_q6 Q E nx14) E := fun τ H h =>
  wSl 0 h (fun x0 l0 c0 h => wI 3 h (fun x3 h => (conv (by kernel_rfl) h)))

def slices_Compact_int_int_27 (nx14 : Int → HP) (Q : QT) (E : ET) (x0 : OA) (l0 c0 : Nat) (x3 : Int) (x25 : Bool) (H : Heap) : Prop :=
 sel x25
 (slices_Compact_int_int_22 nx14 Q E x0 l0 c0 x3 H)
 (slices_Compact_int_int_25 nx14 Q E x0 l0 c0 x3 H)

def slices_Compact_int_int_27_M (nx14 : Int → HP) (τ : Tau) (H : Heap) : Prop := mSl (τ 0) fun x0 l0 c0 => mI .i64 (τ 3) fun x3 => mB (τ 25) fun x25 => slices_Compact_int_int_27 nx14 Q E x0 l0 c0 x3 x25 H

theorem slices_Compact_int_int_28ok (nx14 : Int → HP) : Ok Pr (slices_Compact_int_int_27_M Q E nx14) (sB slices_Compact_int_int_p11) (slices_Compact_int_int_q6 Q E nx14) E := fun τ H h =>
  wSl 0 h (fun x0 l0 c0 h => wI 3 h (fun x3 h => wB 25 h (fun x25 h => (conv (by kernel_rfl) (sel_mapT (b := x25) (τ := (Tau.upd (Tau.upd (Tau.upd τ 0 (.slice x0 l0 c0)) 3 (.int .i64 x3)) 25 (.bool x25))) (H := H) (slices_Compact_int_int_24ok Q E nx14) (slices_Compact_int_int_26ok Q E nx14) (conv (by kernel_rfl) h))))))

noncomputable def slices_Compact_int_int_q14 (nx14 : Int → HP) : XT := (xthen (slices_Compact_int_int_27_M Q E nx14) (slices_Compact_int_int_q6 Q E nx14))

def slices_Compact_int_int_29 (nx14 : Int → HP) (Q : QT) (E : ET) (x0 : OA) (l0 c0 : Nat) (x3 : Int) (H : Heap) : Prop :=
 (0 ≤ x3 ∧ x3 < (l0 : Int)) ∧ ptr x0 fun q58 =>
 ldI .i64 (Addr.add q58 (x3.toNat * 1)) H fun n59 =>
 (0 ≤ ((IntKind.wrap .i64 (x3 - 1)) : Int) ∧ ((IntKind.wrap .i64 (x3 - 1)) : Int) < (l0 : Int)) ∧ ptr x0 fun q60 =>
 ldI .i64 (Addr.add q60 (((IntKind.wrap .i64 (x3 - 1)) : Int).toNat * 1)) H fun n61 =>
 slices_Compact_int_int_27 nx14 Q E x0 l0 c0 x3 (n59 == n61) H

def slices_Compact_int_int_29_M (nx14 : Int → HP) (τ : Tau) (H : Heap) : Prop := mSl (τ 0) fun x0 l0 c0 => mI .i64 (τ 3) fun x3 => slices_Compact_int_int_29 nx14 Q E x0 l0 c0 x3 H

theorem slices_Compact_int_int_30ok (nx14 : Int → HP) : Ok Pr (slices_Compact_int_int_29_M Q E nx14) (sA slices_Compact_int_int_p11) (slices_Compact_int_int_q14 Q E nx14) E := fun τ H h =>
  wSl 0 h (fun x0 l0 c0 h => wI 3 h (fun x3 h => (conv (by kernel_rfl) h)))

theorem slices_Compact_int_int_31ok (nx14 : Int → HP) : Ok Pr (slices_Compact_int_int_29_M Q E nx14) slices_Compact_int_int_p11 (slices_Compact_int_int_q6 Q E nx14) E := fun τ H h =>
  (conv (by kernel_rfl) (vc_seq (K := (slices_Compact_int_int_27_M Q E nx14)) (slices_Compact_int_int_30ok Q E nx14 τ H h) (slices_Compact_int_int_28ok Q E nx14)))

theorem slices_Compact_int_int_32ok (nx14 : Int → HP) : Ok Pr (slices_Compact_int_int_29_M Q E nx14) (sA (sB (sI slices_Compact_int_int_p6))) (xthen (slices_Compact_int_int_3_M Q E nx14) (slices_Compact_int_int_q4 Q E nx14)) E := fun τ H h =>
  (conv (by kernel_rfl) (slices_Compact_int_int_31ok Q E nx14 τ H h))

theorem slices_Compact_int_int_33ok (nx14 : Int → HP) : Ok Pr (slices_Compact_int_int_29_M Q E nx14) (sB (sI slices_Compact_int_int_p6)) (slices_Compact_int_int_q4 Q E nx14) E := fun τ H h =>
  (conv (by kernel_rfl) (vc_seq (K := (slices_Compact_int_int_3_M Q E nx14)) (slices_Compact_int_int_32ok Q E nx14 τ H h) (slices_Compact_int_int_4ok Q E nx14)))

noncomputable def slices_Compact_int_int_q15 (nx14 : Int → HP) : XT := (xthen (slices_Compact_int_int_29_M Q E nx14) (slices_Compact_int_int_q4 Q E nx14))

def slices_Compact_int_int_34 (nx14 : Int → HP) (Q : QT) (E : ET) (x0 : OA) (l0 c0 : Nat) (x3 : Int) (H : Heap) : Prop :=
 sel (decide (x3 < (l0 : Int)))
 (slices_Compact_int_int_29 nx14 Q E x0 l0 c0 x3 H)
 (slices_Compact_int_int_1 Q E x0 l0 c0 H)

def slices_Compact_int_int_34_M (nx14 : Int → HP) (τ : Tau) (H : Heap) : Prop := mSl (τ 0) fun x0 l0 c0 => mI .i64 (τ 3) fun x3 => slices_Compact_int_int_34 nx14 Q E x0 l0 c0 x3 H

theorem slices_Compact_int_int_35ok (nx14 : Int → HP) : Ok Pr (slices_Compact_int_int_34_M Q E nx14) (sA (sI slices_Compact_int_int_p6)) (slices_Compact_int_int_q15 Q E nx14) E := fun τ H h =>
  wSl 0 h (fun x0 l0 c0 h => wI 3 h (fun x3 h => (conv (by kernel_rfl) h)))

theorem slices_Compact_int_int_36ok (nx14 : Int → HP) : Ok Pr (slices_Compact_int_int_34_M Q E nx14) (sI slices_Compact_int_int_p6) (slices_Compact_int_int_q4 Q E nx14) E := fun τ H h =>
  (conv (by kernel_rfl) (vc_seq (K := (slices_Compact_int_int_29_M Q E nx14)) (slices_Compact_int_int_35ok Q E nx14 τ H h) (slices_Compact_int_int_33ok Q E nx14)))

def slices_Compact_int_int_37 (Q : QT) (E : ET) (x0 : OA) (l0 c0 : Nat) (x3 : Int) (H : Heap) : Prop :=
 ∃ (I : Int → HP) (μ : Int → Heap → Nat), I x3 H ∧ ∀ (x3 : Int) (H : Heap), I x3 H →
 slices_Compact_int_int_34 (fun x3' H1 => I x3' H1 ∧ μ x3' H1 < μ x3 H) Q E x0 l0 c0 x3 H

def slices_Compact_int_int_37_M  (τ : Tau) (H : Heap) : Prop := mSl (τ 0) fun x0 l0 c0 => mI .i64 (τ 3) fun x3 => slices_Compact_int_int_37 Q E x0 l0 c0 x3 H

theorem slices_Compact_int_int_38ok  : Ok Pr (slices_Compact_int_int_37_M Q E) slices_Compact_int_int_p6 (xblock 0 (slices_Compact_int_int_q2 Q E)) E := fun τ H h =>
  wSl 0 h (fun x0 l0 c0 h => wI 3 h (fun x3 h => match h with | ⟨I, μ, h0, hr⟩ => (conv (by kernel_rfl) (vc_loopG (c := sI slices_Compact_int_int_p6) (τ := (Tau.upd (Tau.upd τ 0 (.slice x0 l0 c0)) 3 (.int .i64 x3))) [0] (fun τ H => mI .i64 (τ 3) fun x3' => I x3' H) (fun τ H => μ (gI (τ 3)) H) (by kernel_rfl) h0 (fun τ1 H1 hf hI => uF 0 (.slice x0 l0 c0) (hf 0 (by simp)) (uI 3 hI (fun x3r h => lgx (slices_Compact_int_int_36ok Q E (fun x3' H2 => I x3' H2 ∧ μ x3' H2 < μ x3r H1) (Tau.upd (Tau.upd τ1 0 (.slice x0 l0 c0)) 3 (.int .i64 x3r)) H1 (conv (by kernel_rfl) (hr x3r H1 h))) (fun τ2 H2 hk => kI 3 hk (fun x3' h => conv (by kernel_rfl) h)))))))))

theorem slices_Compact_int_int_39ok  : Ok Pr (slices_Compact_int_int_37_M Q E) (sB (sA (sB (sB (bodyOf Try.f26))))) (slices_Compact_int_int_q2 Q E) E := fun τ H h =>
  (conv (by kernel_rfl) (slices_Compact_int_int_38ok Q E τ H h))

def slices_Compact_int_int_40 (Q : QT) (E : ET) (x0 : OA) (l0 c0 : Nat) (H : Heap) : Prop :=
 slices_Compact_int_int_37 Q E x0 l0 c0 1 H

def slices_Compact_int_int_40_M  (τ : Tau) (H : Heap) : Prop := mSl (τ 0) fun x0 l0 c0 => slices_Compact_int_int_40 Q E x0 l0 c0 H

theorem slices_Compact_int_int_41ok  : Ok Pr (slices_Compact_int_int_40_M Q E) (sA (sA (sB (sB (bodyOf Try.f26))))) (xthen (slices_Compact_int_int_37_M Q E) (slices_Compact_int_int_q2 Q E)) E := fun τ H h =>
  wSl 0 h (fun x0 l0 c0 h => (conv (by kernel_rfl) h))

theorem slices_Compact_int_int_42ok  : Ok Pr (slices_Compact_int_int_40_M Q E) (sA (sB (sB (bodyOf Try.f26)))) (slices_Compact_int_int_q2 Q E) E := fun τ H h =>
  (conv (by kernel_rfl) (vc_seq (K := (slices_Compact_int_int_37_M Q E)) (slices_Compact_int_int_41ok Q E τ H h) (slices_Compact_int_int_39ok Q E)))

theorem slices_Compact_int_int_43ok  : Ok Pr (slices_Compact_int_int_40_M Q E) (sB (sB (bodyOf Try.f26))) (slices_Compact_int_int_q1 Q E) E := fun τ H h =>
  (conv (by kernel_rfl) (vc_seq (K := (slices_Compact_int_int_1_M Q E)) (slices_Compact_int_int_42ok Q E τ H h) (slices_Compact_int_int_2ok Q E)))

def slices_Compact_int_int_44 (Q : QT) (E : ET) (x0 : OA) (l0 c0 : Nat) (H : Heap) : Prop :=
 sel (decide (((l0 : Int) : Int) < 2))
 (Q (.slice x0 l0 c0) H)
 (slices_Compact_int_int_40 Q E x0 l0 c0 H)

def slices_Compact_int_int_44_M  (τ : Tau) (H : Heap) : Prop := mSl (τ 0) fun x0 l0 c0 => slices_Compact_int_int_44 Q E x0 l0 c0 H

theorem slices_Compact_int_int_45ok  : Ok Pr (slices_Compact_int_int_44_M Q E) (sA (sB (bodyOf Try.f26))) (xthen (slices_Compact_int_int_40_M Q E) (slices_Compact_int_int_q1 Q E)) E := fun τ H h =>
  wSl 0 h (fun x0 l0 c0 h => (conv (by kernel_rfl) h))

theorem slices_Compact_int_int_46ok  : Ok Pr (slices_Compact_int_int_44_M Q E) (sB (bodyOf Try.f26)) (slices_Compact_int_int_q1 Q E) E := fun τ H h =>
  (conv (by kernel_rfl) (vc_seq (K := (slices_Compact_int_int_40_M Q E)) (slices_Compact_int_int_45ok Q E τ H h) (slices_Compact_int_int_43ok Q E)))

def slices_Compact_int_int (Q : QT) (E : ET) (a0 : OA) (a0l : Nat) (a0c : Nat) (H : Heap) : Prop :=
 slices_Compact_int_int_44 Q E a0 a0l a0c H

theorem slices_Compact_int_int_fn (a0 : OA) (a0l : Nat) (a0c : Nat) (Q : QT) (E : ET) (H : Heap) (h : slices_Compact_int_int Q E a0 a0l a0c H)   : Does Pr 26 #[(.slice a0 a0l a0c)] H Q E :=
  Fn_of_vc (fn := Try.f26) (c := (bodyOf Try.f26)) (args := [(.slice a0 a0l a0c)]) mixed (by kernel_rfl) (by kernel_rfl) (by kernel_rfl) (by kernel_rfl) (by kernel_rfl) ((conv (B := vc Pr (bodyOf Try.f26) (argT [(.slice a0 a0l a0c)]) (slices_Compact_int_int_q1 Q E) E H) (by kernel_rfl) (vc_seq (K := (slices_Compact_int_int_44_M Q E)) (conv (B := vc Pr (sA (bodyOf Try.f26)) (argT [(.slice a0 a0l a0c)]) (xthen (slices_Compact_int_int_44_M Q E) (slices_Compact_int_int_q1 Q E)) E H) (by kernel_rfl) h) (slices_Compact_int_int_46ok Q E))))

/-! slices.ContainsFunc[[]int,int] -/
noncomputable def slices_ContainsFunc_int_int_q1 (Q : QT) (E : ET)  : XT := (retQ Pr (Try.f27).results.toList Q)

def slices_ContainsFunc_int_int (Q : QT) (E : ET) (a0 : OA) (a0l : Nat) (a0c : Nat) (a1 : Value) (H : Heap) : Prop :=
 Does Pr 21 #[(.slice a0 a0l a0c), a1] H (fun v1 H2 =>
 ∃ n3 : Int, v1 = (.int .i64 n3) ∧ Q (.bool (decide (n3 ≥ 0))) H2) E

theorem slices_ContainsFunc_int_int_fn (a0 : OA) (a0l : Nat) (a0c : Nat) (a1 : Value) (Q : QT) (E : ET) (H : Heap) (h : slices_ContainsFunc_int_int Q E a0 a0l a0c a1 H)   : Does Pr 27 #[(.slice a0 a0l a0c), a1] H Q E :=
  Fn_of_vc (fn := Try.f27) (c := (bodyOf Try.f27)) (args := [(.slice a0 a0l a0c), a1]) mixed (by kernel_rfl) (by kernel_rfl) (by kernel_rfl) (by kernel_rfl) (by kernel_rfl) ((conv (B := vc Pr (bodyOf Try.f27) (argT [(.slice a0 a0l a0c), a1]) (slices_ContainsFunc_int_int_q1 Q E) E H) (by kernel_rfl) h))

/-! slices.IndexFunc[[]jobmux/api.Job,jobmux/api.Job] -/
noncomputable def slices_IndexFunc_api_Job_api_Job_q1 (Q : QT) (E : ET)  : XT := (retQ Pr (Try.f29).results.toList Q)

def slices_IndexFunc_api_Job_api_Job_1 (Q : QT) (E : ET)  (H : Heap) : Prop :=
 Q (.int .i64 (-1)) H

def slices_IndexFunc_api_Job_api_Job_1_M  (τ : Tau) (H : Heap) : Prop := slices_IndexFunc_api_Job_api_Job_1 Q E  H

theorem slices_IndexFunc_api_Job_api_Job_2ok  : Ok Pr (slices_IndexFunc_api_Job_api_Job_1_M Q E) (sB (sB (bodyOf Try.f29))) (slices_IndexFunc_api_Job_api_Job_q1 Q E) E := fun τ H h =>
  (conv (by kernel_rfl) h)

noncomputable def slices_IndexFunc_api_Job_api_Job_q2  : XT := (xthen (slices_IndexFunc_api_Job_api_Job_1_M Q E) (slices_IndexFunc_api_Job_api_Job_q1 Q E))

noncomputable def slices_IndexFunc_api_Job_api_Job_q4 (nx26 : Int → HP) : XT := (xthen (fun τ H => mI .i64 (τ 8) fun x8' => nx26 x8' H) (xblock 0 (slices_IndexFunc_api_Job_api_Job_q2 Q E)))

noncomputable def slices_IndexFunc_api_Job_api_Job_p6 : Code := sI (sI (sB (sA (sB (bodyOf Try.f29)))))

def slices_IndexFunc_api_Job_api_Job_3 (nx26 : Int → HP) (Q : QT) (E : ET) (x0 : OA) (l0 c0 : Nat) (x1 : Value) (x7 x8 : Int) (H : Heap) : Prop :=
 nx26 (IntKind.wrap .i64 (x8 + 1)) H

def slices_IndexFunc_api_Job_api_Job_3_M (nx26 : Int → HP) (τ : Tau) (H : Heap) : Prop := mSl (τ 0) fun x0 l0 c0 => mV (τ 1) fun x1 => mI .i64 (τ 7) fun x7 => mI .i64 (τ 8) fun x8 => slices_IndexFunc_api_Job_api_Job_3 nx26 Q E x0 l0 c0 x1 x7 x8 H

theorem slices_IndexFunc_api_Job_api_Job_4ok (nx26 : Int → HP) : Ok Pr (slices_IndexFunc_api_Job_api_Job_3_M Q E nx26) (sB (sB (sB slices_IndexFunc_api_Job_api_Job_p6))) (slices_IndexFunc_api_Job_api_Job_q4 Q E nx26) E := fun τ H h =>
  wSl 0 h (fun x0 l0 c0 h => wV 1 h (fun x1 h => wI 7 h (fun x7 h => wI 8 h (fun x8 h => (conv (by kernel_rfl) h)))))

noncomputable def slices_IndexFunc_api_Job_api_Job_q5 (nx26 : Int → HP) : XT := (xthen (slices_IndexFunc_api_Job_api_Job_3_M Q E nx26) (slices_IndexFunc_api_Job_api_Job_q4 Q E nx26))

def slices_IndexFunc_api_Job_api_Job_5 (nx26 : Int → HP) (Q : QT) (E : ET) (x0 : OA) (l0 c0 : Nat) (x1 : Value) (x7 x8 : Int) (H : Heap) : Prop :=
 (0 ≤ x8 ∧ x8 < (l0 : Int)) ∧ ptr x0 fun q52 =>
 ∃ s53 : ByteArray, ∃ s54 : ByteArray, ∃ (p55 : OA) (l56 c57 : Nat), ∃ (p58 : OA) (l59 c60 : Nat), ∃ b61 : Bool, ∃ s62 : ByteArray, ∃ n63 n64 n65 n66 n67 n68 : Int, ∃ (p69 : OA) (l70 c71 : Nat), ∃ n72 n73 : Int, Heap.rd H (Addr.add q52 (x8.toNat * 15)) 0 [(.string s53), (.string s54), (.slice p55 l56 c57), (.slice p58 l59 c60), (.bool b61), (.string s62), (.int .i64 n63), (.int .u64 n64), (.int .u64 n65), (.int .u64 n66), (.int .i64 n67), (.int .u64 n68), (.slice p69 l70 c71), (.int .i64 n72), (.int .i64 n73)] ∧ callV Pr E x1 [(.agg #[(.string s53), (.string s54), (.slice p55 l56 c57), (.slice p58 l59 c60), (.bool b61), (.string s62), (.int .i64 n63), (.int .u64 n64), (.int .u64 n65), (.int .u64 n66), (.int .i64 n67), (.int .u64 n68), (.slice p69 l70 c71), (.int .i64 n72), (.int .i64 n73)])] (fun v74 H75 =>
 ∃ b76 : Bool, v74 = (.bool b76) ∧ sel b76
 (Q (.int .i64 x8) H75)
 (slices_IndexFunc_api_Job_api_Job_3 nx26 Q E x0 l0 c0 x1 x7 x8 H75)) H

def slices_IndexFunc_api_Job_api_Job_5_M (nx26 : Int → HP) (τ : Tau) (H : Heap) : Prop := mSl (τ 0) fun x0 l0 c0 => mV (τ 1) fun x1 => mI .i64 (τ 7) fun x7 => mI .i64 (τ 8) fun x8 => slices_IndexFunc_api_Job_api_Job_5 nx26 Q E x0 l0 c0 x1 x7 x8 H

theorem slices_IndexFunc_api_Job_api_Job_6ok (nx26 : Int → HP) : Ok Pr (slices_IndexFunc_api_Job_api_Job_5_M Q E nx26) (sA (sB (sB slices_IndexFunc_api_Job_api_Job_p6))) (slices_IndexFunc_api_Job_api_Job_q5 Q E nx26) E := fun τ H h =>
  wSl 0 h (fun x0 l0 c0 h => wV 1 h (fun x1 h => wI 7 h (fun x7 h => wI 8 h (fun x8 h => (conv (by kernel_rfl) h)))))

theorem slices_IndexFunc_api_Job_api_Job_7ok (nx26 : Int → HP) : Ok Pr (slices_IndexFunc_api_Job_api_Job_5_M Q E nx26) (sB (sB slices_IndexFunc_api_Job_api_Job_p6)) (slices_IndexFunc_api_Job_api_Job_q4 Q E nx26) E := fun τ H h =>
  (conv (by kernel_rfl) (vc_seq (K := (slices_IndexFunc_api_Job_api_Job_3_M Q E nx26)) (slices_IndexFunc_api_Job_api_Job_6ok Q E nx26 τ H h) (slices_IndexFunc_api_Job_api_Job_4ok Q E nx26)))

noncomputable def slices_IndexFunc_api_Job_api_Job_q6 (nx26 : Int → HP) : XT := (xthen (slices_IndexFunc_api_Job_api_Job_5_M Q E nx26) (slices_IndexFunc_api_Job_api_Job_q4 Q E nx26))

def slices_IndexFunc_api_Job_api_Job_8 (nx26 : Int → HP) (Q : QT) (E : ET) (x0 : OA) (l0 c0 : Nat) (x1 : Value) (x7 x8 : Int) (x9 : Bool) (H : Heap) : Prop :=
 sel x9
 (slices_IndexFunc_api_Job_api_Job_5 nx26 Q E x0 l0 c0 x1 x7 x8 H)
 (slices_IndexFunc_api_Job_api_Job_1 Q E  H)

def slices_IndexFunc_api_Job_api_Job_8_M (nx26 : Int → HP) (τ : Tau) (H : Heap) : Prop := mSl (τ 0) fun x0 l0 c0 => mV (τ 1) fun x1 => mI .i64 (τ 7) fun x7 => mI .i64 (τ 8) fun x8 => mB (τ 9) fun x9 => slices_IndexFunc_api_Job_api_Job_8 nx26 Q E x0 l0 c0 x1 x7 x8 x9 H

theorem slices_IndexFunc_api_Job_api_Job_9ok (nx26 : Int → HP) : Ok Pr (slices_IndexFunc_api_Job_api_Job_8_M Q E nx26) (sA (sB slices_IndexFunc_api_Job_api_Job_p6)) (slices_IndexFunc_api_Job_api_Job_q6 Q E nx26) E := fun τ H h =>
  wSl 0 h (fun x0 l0 c0 h => wV 1 h (fun x1 h => wI 7 h (fun x7 h => wI 8 h (fun x8 h => wB 9 h (fun x9 h => (conv (by kernel_rfl) h))))))

theorem slices_IndexFunc_api_Job_api_Job_10ok (nx26 : Int → HP) : Ok Pr (slices_IndexFunc_api_Job_api_Job_8_M Q E nx26) (sB slices_IndexFunc_api_Job_api_Job_p6) (slices_IndexFunc_api_Job_api_Job_q4 Q E nx26) E := fun τ H h =>
  (conv (by kernel_rfl) (vc_seq (K := (slices_IndexFunc_api_Job_api_Job_5_M Q E nx26)) (slices_IndexFunc_api_Job_api_Job_9ok Q E nx26 τ H h) (slices_IndexFunc_api_Job_api_Job_7ok Q E nx26)))

noncomputable def slices_IndexFunc_api_Job_api_Job_q7 (nx26 : Int → HP) : XT := (xthen (slices_IndexFunc_api_Job_api_Job_8_M Q E nx26) (slices_IndexFunc_api_Job_api_Job_q4 Q E nx26))

def slices_IndexFunc_api_Job_api_Job_11 (nx26 : Int → HP) (Q : QT) (E : ET) (x0 : OA) (l0 c0 : Nat) (x1 : Value) (x7 x8 : Int) (H : Heap) : Prop :=
 slices_IndexFunc_api_Job_api_Job_8 nx26 Q E x0 l0 c0 x1 x7 x8 (decide (x8 < x7)) H

def slices_IndexFunc_api_Job_api_Job_11_M (nx26 : Int → HP) (τ : Tau) (H : Heap) : Prop := mSl (τ 0) fun x0 l0 c0 => mV (τ 1) fun x1 => mI .i64 (τ 7) fun x7 => mI .i64 (τ 8) fun x8 => slices_IndexFunc_api_Job_api_Job_11 nx26 Q E x0 l0 c0 x1 x7 x8 H

theorem slices_IndexFunc_api_Job_api_Job_12ok (nx26 : Int → HP) : Ok Pr (slices_IndexFunc_api_Job_api_Job_11_M Q E nx26) (sA slices_IndexFunc_api_Job_api_Job_p6) (slices_IndexFunc_api_Job_api_Job_q7 Q E nx26) E := fun τ H h =>
  wSl 0 h (fun x0 l0 c0 h => wV 1 h (fun x1 h => wI 7 h (fun x7 h => wI 8 h (fun x8 h => (conv (by kernel_rfl) h)))))

theorem slices_IndexFunc_api_Job_api_Job_13ok (nx26 : Int → HP) : Ok Pr (slices_IndexFunc_api_Job_api_Job_11_M Q E nx26) slices_IndexFunc_api_Job_api_Job_p6 (slices_IndexFunc_api_Job_api_Job_q4 Q E nx26) E := fun τ H h =>
  (conv (by kernel_rfl) (vc_seq (K := (slices_IndexFunc_api_Job_api_Job_8_M Q E nx26)) (slices_IndexFunc_api_Job_api_Job_12ok Q E nx26 τ H h) (slices_IndexFunc_api_Job_api_Job_10ok Q E nx26)))

def slices_IndexFunc_api_Job_api_Job_14 (Q : QT) (E : ET) (x0 : OA) (l0 c0 : Nat) (x1 : Value) (x7 x8 : Int) (H : Heap) : Prop :=
 ∃ (I : Int → HP) (μ : Int → Heap → Nat), I x8 H ∧ ∀ (x8 : Int) (H : Heap), I x8 H →
 slices_IndexFunc_api_Job_api_Job_11 (fun x8' H1 => I x8' H1 ∧ μ x8' H1 < μ x8 H) Q E x0 l0 c0 x1 x7 x8 H

def slices_IndexFunc_api_Job_api_Job_14_M  (τ : Tau) (H : Heap) : Prop := mSl (τ 0) fun x0 l0 c0 => mV (τ 1) fun x1 => mI .i64 (τ 7) fun x7 => mI .i64 (τ 8) fun x8 => slices_IndexFunc_api_Job_api_Job_14 Q E x0 l0 c0 x1 x7 x8 H

theorem slices_IndexFunc_api_Job_api_Job_15ok  : Ok Pr (slices_IndexFunc_api_Job_api_Job_14_M Q E) (sI (sB (sA (sB (bodyOf Try.f29))))) (xblock 0 (slices_IndexFunc_api_Job_api_Job_q2 Q E)) E := fun τ H h =>
  wSl 0 h (fun x0 l0 c0 h => wV 1 h (fun x1 h => wI 7 h (fun x7 h => wI 8 h (fun x8 h => match h with | ⟨I, μ, h0, hr⟩ => (conv (by kernel_rfl) (vc_loopG (c := sI (sI (sB (sA (sB (bodyOf Try.f29)))))) (τ := (Tau.upd (Tau.upd (Tau.upd (Tau.upd τ 0 (.slice x0 l0 c0)) 1 x1) 7 (.int .i64 x7)) 8 (.int .i64 x8))) [0, 1, 7] (fun τ H => mI .i64 (τ 8) fun x8' => I x8' H) (fun τ H => μ (gI (τ 8)) H) (by kernel_rfl) h0 (fun τ1 H1 hf hI => uF 0 (.slice x0 l0 c0) (hf 0 (by simp)) (uF 1 x1 (hf 1 (by simp)) (uF 7 (.int .i64 x7) (hf 7 (by simp)) (uI 8 hI (fun x8r h => lgx (slices_IndexFunc_api_Job_api_Job_13ok Q E (fun x8' H2 => I x8' H2 ∧ μ x8' H2 < μ x8r H1) (Tau.upd (Tau.upd (Tau.upd (Tau.upd τ1 0 (.slice x0 l0 c0)) 1 x1) 7 (.int .i64 x7)) 8 (.int .i64 x8r)) H1 (conv (by kernel_rfl) (hr x8r H1 h))) (fun τ2 H2 hk => kI 8 hk (fun x8' h => conv (by kernel_rfl) h)))))))))))))

theorem slices_IndexFunc_api_Job_api_Job_16ok  : Ok Pr (slices_IndexFunc_api_Job_api_Job_14_M Q E) (sB (sA (sB (bodyOf Try.f29)))) (slices_IndexFunc_api_Job_api_Job_q2 Q E) E := fun τ H h =>
  (conv (by kernel_rfl) (slices_IndexFunc_api_Job_api_Job_15ok Q E τ H h))

noncomputable def slices_IndexFunc_api_Job_api_Job_q8  : XT := (xthen (slices_IndexFunc_api_Job_api_Job_14_M Q E) (slices_IndexFunc_api_Job_api_Job_q2 Q E))

def slices_IndexFunc_api_Job_api_Job_17 (Q : QT) (E : ET) (x0 : OA) (l0 c0 : Nat) (x1 : Value) (H : Heap) : Prop :=
 slices_IndexFunc_api_Job_api_Job_14 Q E x0 l0 c0 x1 (l0 : Int) 0 H

def slices_IndexFunc_api_Job_api_Job_17_M  (τ : Tau) (H : Heap) : Prop := mSl (τ 0) fun x0 l0 c0 => mV (τ 1) fun x1 => slices_IndexFunc_api_Job_api_Job_17 Q E x0 l0 c0 x1 H

theorem slices_IndexFunc_api_Job_api_Job_18ok  : Ok Pr (slices_IndexFunc_api_Job_api_Job_17_M Q E) (sA (sA (sB (bodyOf Try.f29)))) (slices_IndexFunc_api_Job_api_Job_q8 Q E) E := fun τ H h =>
  wSl 0 h (fun x0 l0 c0 h => wV 1 h (fun x1 h => (conv (by kernel_rfl) h)))

theorem slices_IndexFunc_api_Job_api_Job_19ok  : Ok Pr (slices_IndexFunc_api_Job_api_Job_17_M Q E) (sA (sB (bodyOf Try.f29))) (slices_IndexFunc_api_Job_api_Job_q2 Q E) E := fun τ H h =>
  (conv (by kernel_rfl) (vc_seq (K := (slices_IndexFunc_api_Job_api_Job_14_M Q E)) (slices_IndexFunc_api_Job_api_Job_18ok Q E τ H h) (slices_IndexFunc_api_Job_api_Job_16ok Q E)))

theorem slices_IndexFunc_api_Job_api_Job_20ok  : Ok Pr (slices_IndexFunc_api_Job_api_Job_17_M Q E) (sB (bodyOf Try.f29)) (slices_IndexFunc_api_Job_api_Job_q1 Q E) E := fun τ H h =>
  (conv (by kernel_rfl) (vc_seq (K := (slices_IndexFunc_api_Job_api_Job_1_M Q E)) (slices_IndexFunc_api_Job_api_Job_19ok Q E τ H h) (slices_IndexFunc_api_Job_api_Job_2ok Q E)))

def slices_IndexFunc_api_Job_api_Job (Q : QT) (E : ET) (a0 : OA) (a0l : Nat) (a0c : Nat) (a1 : Value) (H : Heap) : Prop :=
 slices_IndexFunc_api_Job_api_Job_17 Q E a0 a0l a0c a1 H

theorem slices_IndexFunc_api_Job_api_Job_fn (a0 : OA) (a0l : Nat) (a0c : Nat) (a1 : Value) (Q : QT) (E : ET) (H : Heap) (h : slices_IndexFunc_api_Job_api_Job Q E a0 a0l a0c a1 H)   : Does Pr 29 #[(.slice a0 a0l a0c), a1] H Q E :=
  Fn_of_vc (fn := Try.f29) (c := (bodyOf Try.f29)) (args := [(.slice a0 a0l a0c), a1]) mixed (by kernel_rfl) (by kernel_rfl) (by kernel_rfl) (by kernel_rfl) (by kernel_rfl) ((conv (B := vc Pr (bodyOf Try.f29) (argT [(.slice a0 a0l a0c), a1]) (slices_IndexFunc_api_Job_api_Job_q1 Q E) E H) (by kernel_rfl) (vc_seq (K := (slices_IndexFunc_api_Job_api_Job_17_M Q E)) (conv (B := vc Pr (sA (bodyOf Try.f29)) (argT [(.slice a0 a0l a0c), a1]) (xthen (slices_IndexFunc_api_Job_api_Job_17_M Q E) (slices_IndexFunc_api_Job_api_Job_q1 Q E)) E H) (by kernel_rfl) h) (slices_IndexFunc_api_Job_api_Job_20ok Q E))))

/-! slices.pdqsortOrdered[int] -/
noncomputable def slices_pdqsortOrdered_int_q1 (Q : QT) (E : ET)  : XT := (retQ Pr (Try.f31).results.toList Q)

noncomputable def slices_pdqsortOrdered_int_p3 : Code := sI (sB (sB (bodyOf Try.f31)))

noncomputable def slices_pdqsortOrdered_int_q3 (nx1 : Int → Int → Int → Bool → Bool → HP) : XT := (xthen (fun τ H => mI .i64 (τ 1) fun x1' => mI .i64 (τ 2) fun x2' => mI .i64 (τ 3) fun x3' => mB (τ 8) fun x8' => mB (τ 9) fun x9' => nx1 x1' x2' x3' x8' x9' H) (xblock 0 (slices_pdqsortOrdered_int_q1 Q E)))

noncomputable def slices_pdqsortOrdered_int_q4 (nx1 : Int → Int → Int → Bool → Bool → HP) : XT := (xblock 1 (slices_pdqsortOrdered_int_q3 Q E nx1))

noncomputable def slices_pdqsortOrdered_int_p6 : Code := sB (sI (sI slices_pdqsortOrdered_int_p3))

noncomputable def slices_pdqsortOrdered_int_p8 : Code := sB (sB slices_pdqsortOrdered_int_p6)

noncomputable def slices_pdqsortOrdered_int_p10 : Code := sB (sB slices_pdqsortOrdered_int_p8)

def slices_pdqsortOrdered_int_1 (nx1 : Int → Int → Int → Bool → Bool → HP) (Q : QT) (E : ET) (x0 : OA) (l0 c0 : Nat) (x1 x2 x3 x10 x11 : Int) (H : Heap) : Prop :=
 Does Pr 41 #[(.slice x0 l0 c0), (.int .i64 x1), (.int .i64 x2), (.int .i64 x11)] H (fun v27 H28 =>
 ∃ n29 : Int, ∃ b30 : Bool, v27 = (.tuple #[(.int .i64 n29), (.bool b30)]) ∧ (8 : Int) ≠ 0 ∧ sel (decide (((IntKind.wrap .i64 (n29 - x1)) : Int) < (IntKind.wrap .i64 (x2 - n29))))
 (Does Pr 31 #[(.slice x0 l0 c0), (.int .i64 x1), (.int .i64 n29), (.int .i64 x3)] H28 (fun v31 H32 =>
 nx1 (IntKind.wrap .i64 (n29 + 1)) x2 x3 (decide (((IntKind.wrap .i64 (n29 - x1)) : Int) ≥ (IntKind.wrap .i64 (Int.tdiv x10 8)))) b30 H32) E)
 (Does Pr 31 #[(.slice x0 l0 c0), (.int .i64 (IntKind.wrap .i64 (n29 + 1))), (.int .i64 x2), (.int .i64 x3)] H28 (fun v33 H34 =>
 nx1 x1 n29 x3 (decide (((IntKind.wrap .i64 (x2 - n29)) : Int) ≥ (IntKind.wrap .i64 (Int.tdiv x10 8)))) b30 H34) E)) E

def slices_pdqsortOrdered_int_1_M (nx1 : Int → Int → Int → Bool → Bool → HP) (τ : Tau) (H : Heap) : Prop := mSl (τ 0) fun x0 l0 c0 => mI .i64 (τ 1) fun x1 => mI .i64 (τ 2) fun x2 => mI .i64 (τ 3) fun x3 => mI .i64 (τ 10) fun x10 => mI .i64 (τ 11) fun x11 => slices_pdqsortOrdered_int_1 nx1 Q E x0 l0 c0 x1 x2 x3 x10 x11 H

theorem slices_pdqsortOrdered_int_2ok (nx1 : Int → Int → Int → Bool → Bool → HP) : Ok Pr (slices_pdqsortOrdered_int_1_M Q E nx1) (sB (sB (sB slices_pdqsortOrdered_int_p10))) (slices_pdqsortOrdered_int_q4 Q E nx1) E := fun τ H h =>
  wSl 0 h (fun x0 l0 c0 h => wI 1 h (fun x1 h => wI 2 h (fun x2 h => wI 3 h (fun x3 h => wI 10 h (fun x10 h => wI 11 h (fun x11 h => (conv (by kernel_rfl) h)))))))

noncomputable def slices_pdqsortOrdered_int_q5 (nx1 : Int → Int → Int → Bool → Bool → HP) : XT := (xthen (slices_pdqsortOrdered_int_1_M Q E nx1) (slices_pdqsortOrdered_int_q4 Q E nx1))

noncomputable def slices_pdqsortOrdered_int_p14 : Code := sA (sB (sB slices_pdqsortOrdered_int_p10))

def slices_pdqsortOrdered_int_3 (nx1 : Int → Int → Int → Bool → Bool → HP) (Q : QT) (E : ET) (x0 : OA) (l0 c0 : Nat) (x1 x2 x3 : Int) (x8 x9 : Bool) (x10 x11 : Int) (x87 : Bool) (H : Heap) : Prop :=
 sel x87
 (Does Pr 40 #[(.slice x0 l0 c0), (.int .i64 x1), (.int .i64 x2), (.int .i64 x11)] H (fun v42 H43 =>
 ∃ n44 : Int, v42 = (.int .i64 n44) ∧ nx1 n44 x2 x3 x8 x9 H43) E)
 (slices_pdqsortOrdered_int_1 nx1 Q E x0 l0 c0 x1 x2 x3 x10 x11 H)

def slices_pdqsortOrdered_int_3_M (nx1 : Int → Int → Int → Bool → Bool → HP) (τ : Tau) (H : Heap) : Prop := mSl (τ 0) fun x0 l0 c0 => mI .i64 (τ 1) fun x1 => mI .i64 (τ 2) fun x2 => mI .i64 (τ 3) fun x3 => mB (τ 8) fun x8 => mB (τ 9) fun x9 => mI .i64 (τ 10) fun x10 => mI .i64 (τ 11) fun x11 => mB (τ 87) fun x87 => slices_pdqsortOrdered_int_3 nx1 Q E x0 l0 c0 x1 x2 x3 x8 x9 x10 x11 x87 H

theorem slices_pdqsortOrdered_int_4ok (nx1 : Int → Int → Int → Bool → Bool → HP) : Ok Pr (slices_pdqsortOrdered_int_3_M Q E nx1) (sB slices_pdqsortOrdered_int_p14) (slices_pdqsortOrdered_int_q5 Q E nx1) E := fun τ H h =>
  wSl 0 h (fun x0 l0 c0 h => wI 1 h (fun x1 h => wI 2 h (fun x2 h => wI 3 h (fun x3 h => wB 8 h (fun x8 h => wB 9 h (fun x9 h => wI 10 h (fun x10 h => wI 11 h (fun x11 h => wB 87 h (fun x87 h => (conv (by kernel_rfl) h))))))))))

noncomputable def slices_pdqsortOrdered_int_q6 (nx1 : Int → Int → Int → Bool → Bool → HP) : XT := (xthen (slices_pdqsortOrdered_int_3_M Q E nx1) (slices_pdqsortOrdered_int_q5 Q E nx1))

def slices_pdqsortOrdered_int_5 (nx1 : Int → Int → Int → Bool → Bool → HP) (Q : QT) (E : ET) (x0 : OA) (l0 c0 : Nat) (x1 x2 x3 : Int) (x8 x9 : Bool) (x10 x11 : Int) (H : Heap) : Prop :=
 sel (decide (x1 > 0))
 ((0 ≤ ((IntKind.wrap .i64 (x1 - 1)) : Int) ∧ ((IntKind.wrap .i64 (x1 - 1)) : Int) < (l0 : Int)) ∧ ptr x0 fun q45 =>
 ldI .i64 (Addr.add q45 (((IntKind.wrap .i64 (x1 - 1)) : Int).toNat * 1)) H fun n46 =>
 (0 ≤ x11 ∧ x11 < (l0 : Int)) ∧ ptr x0 fun q47 =>
 ldI .i64 (Addr.add q47 (x11.toNat * 1)) H fun n48 =>
 Does Pr 39 #[(.int .i64 n46), (.int .i64 n48)] H (fun v49 H50 =>
 ∃ b51 : Bool, v49 = (.bool b51) ∧ slices_pdqsortOrdered_int_3 nx1 Q E x0 l0 c0 x1 x2 x3 x8 x9 x10 x11 (!b51) H50) (fun _ _ => False))
 (slices_pdqsortOrdered_int_3 nx1 Q E x0 l0 c0 x1 x2 x3 x8 x9 x10 x11 false H)

def slices_pdqsortOrdered_int_5_M (nx1 : Int → Int → Int → Bool → Bool → HP) (τ : Tau) (H : Heap) : Prop := mSl (τ 0) fun x0 l0 c0 => mI .i64 (τ 1) fun x1 => mI .i64 (τ 2) fun x2 => mI .i64 (τ 3) fun x3 => mB (τ 8) fun x8 => mB (τ 9) fun x9 => mI .i64 (τ 10) fun x10 => mI .i64 (τ 11) fun x11 => slices_pdqsortOrdered_int_5 nx1 Q E x0 l0 c0 x1 x2 x3 x8 x9 x10 x11 H

theorem slices_pdqsortOrdered_int_6ok (nx1 : Int → Int → Int → Bool → Bool → HP) : Ok Pr (slices_pdqsortOrdered_int_5_M Q E nx1) (sA slices_pdqsortOrdered_int_p14) (slices_pdqsortOrdered_int_q6 Q E nx1) E := fun τ H h =>
  wSl 0 h (fun x0 l0 c0 h => wI 1 h (fun x1 h => wI 2 h (fun x2 h => wI 3 h (fun x3 h => wB 8 h (fun x8 h => wB 9 h (fun x9 h => wI 10 h (fun x10 h => wI 11 h (fun x11 h => (conv (by kernel_rfl) h)))))))))

theorem slices_pdqsortOrdered_int_7ok (nx1 : Int → Int → Int → Bool → Bool → HP) : Ok Pr (slices_pdqsortOrdered_int_5_M Q E nx1) slices_pdqsortOrdered_int_p14 (slices_pdqsortOrdered_int_q5 Q E nx1) E := fun τ H h =>
  (conv (by kernel_rfl) (vc_seq (K := (slices_pdqsortOrdered_int_3_M Q E nx1)) (slices_pdqsortOrdered_int_6ok Q E nx1 τ H h) (slices_pdqsortOrdered_int_4ok Q E nx1)))

theorem slices_pdqsortOrdered_int_8ok (nx1 : Int → Int → Int → Bool → Bool → HP) : Ok Pr (slices_pdqsortOrdered_int_5_M Q E nx1) (sB (sB slices_pdqsortOrdered_int_p10)) (slices_pdqsortOrdered_int_q4 Q E nx1) E := fun τ H h =>
  (conv (by kernel_rfl) (vc_seq (K := (slices_pdqsortOrdered_int_1_M Q E nx1)) (slices_pdqsortOrdered_int_7ok Q E nx1 τ H h) (slices_pdqsortOrdered_int_2ok Q E nx1)))

noncomputable def slices_pdqsortOrdered_int_q7 (nx1 : Int → Int → Int → Bool → Bool → HP) : XT := (xthen (slices_pdqsortOrdered_int_5_M Q E nx1) (slices_pdqsortOrdered_int_q4 Q E nx1))

noncomputable def slices_pdqsortOrdered_int_p17 : Code := sA (sB slices_pdqsortOrdered_int_p10)

def slices_pdqsortOrdered_int_9 (nx1 : Int → Int → Int → Bool → Bool → HP) (Q : QT) (E : ET) (x0 : OA) (l0 c0 : Nat) (x1 x2 x3 : Int) (x8 x9 : Bool) (x10 x11 : Int) (x68 : Bool) (H : Heap) : Prop :=
 sel x68
 (Does Pr 38 #[(.slice x0 l0 c0), (.int .i64 x1), (.int .i64 x2)] H (fun v52 H53 =>
 ∃ b54 : Bool, v52 = (.bool b54) ∧ sel b54
 (Q (.tuple #[]) H53)
 (slices_pdqsortOrdered_int_5 nx1 Q E x0 l0 c0 x1 x2 x3 x8 x9 x10 x11 H53)) E)
 (slices_pdqsortOrdered_int_5 nx1 Q E x0 l0 c0 x1 x2 x3 x8 x9 x10 x11 H)

def slices_pdqsortOrdered_int_9_M (nx1 : Int → Int → Int → Bool → Bool → HP) (τ : Tau) (H : Heap) : Prop := mSl (τ 0) fun x0 l0 c0 => mI .i64 (τ 1) fun x1 => mI .i64 (τ 2) fun x2 => mI .i64 (τ 3) fun x3 => mB (τ 8) fun x8 => mB (τ 9) fun x9 => mI .i64 (τ 10) fun x10 => mI .i64 (τ 11) fun x11 => mB (τ 68) fun x68 => slices_pdqsortOrdered_int_9 nx1 Q E x0 l0 c0 x1 x2 x3 x8 x9 x10 x11 x68 H

theorem slices_pdqsortOrdered_int_10ok (nx1 : Int → Int → Int → Bool → Bool → HP) : Ok Pr (slices_pdqsortOrdered_int_9_M Q E nx1) (sB slices_pdqsortOrdered_int_p17) (slices_pdqsortOrdered_int_q7 Q E nx1) E := fun τ H h =>
  wSl 0 h (fun x0 l0 c0 h => wI 1 h (fun x1 h => wI 2 h (fun x2 h => wI 3 h (fun x3 h => wB 8 h (fun x8 h => wB 9 h (fun x9 h => wI 10 h (fun x10 h => wI 11 h (fun x11 h => wB 68 h (fun x68 h => (conv (by kernel_rfl) h))))))))))

noncomputable def slices_pdqsortOrdered_int_q8 (nx1 : Int → Int → Int → Bool → Bool → HP) : XT := (xthen (slices_pdqsortOrdered_int_9_M Q E nx1) (slices_pdqsortOrdered_int_q7 Q E nx1))

def slices_pdqsortOrdered_int_11 (nx1 : Int → Int → Int → Bool → Bool → HP) (Q : QT) (E : ET) (x0 : OA) (l0 c0 : Nat) (x1 x2 x3 : Int) (x8 x9 : Bool) (x10 x11 x12 : Int) (H : Heap) : Prop :=
 sel x8
 (sel x9
 (slices_pdqsortOrdered_int_9 nx1 Q E x0 l0 c0 x1 x2 x3 x8 x9 x10 x11 (x12 == 1) H)
 (slices_pdqsortOrdered_int_9 nx1 Q E x0 l0 c0 x1 x2 x3 x8 x9 x10 x11 false H))
 (slices_pdqsortOrdered_int_9 nx1 Q E x0 l0 c0 x1 x2 x3 x8 x9 x10 x11 false H)

def slices_pdqsortOrdered_int_11_M (nx1 : Int → Int → Int → Bool → Bool → HP) (τ : Tau) (H : Heap) : Prop := mSl (τ 0) fun x0 l0 c0 => mI .i64 (τ 1) fun x1 => mI .i64 (τ 2) fun x2 => mI .i64 (τ 3) fun x3 => mB (τ 8) fun x8 => mB (τ 9) fun x9 => mI .i64 (τ 10) fun x10 => mI .i64 (τ 11) fun x11 => mI .i64 (τ 12) fun x12 => slices_pdqsortOrdered_int_11 nx1 Q E x0 l0 c0 x1 x2 x3 x8 x9 x10 x11 x12 H

theorem slices_pdqsortOrdered_int_12ok (nx1 : Int → Int → Int → Bool → Bool → HP) : Ok Pr (slices_pdqsortOrdered_int_11_M Q E nx1) (sA slices_pdqsortOrdered_int_p17) (slices_pdqsortOrdered_int_q8 Q E nx1) E := fun τ H h =>
  wSl 0 h (fun x0 l0 c0 h => wI 1 h (fun x1 h => wI 2 h (fun x2 h => wI 3 h (fun x3 h => wB 8 h (fun x8 h => wB 9 h (fun x9 h => wI 10 h (fun x10 h => wI 11 h (fun x11 h => wI 12 h (fun x12 h => (conv (by kernel_rfl) h))))))))))

theorem slices_pdqsortOrdered_int_13ok (nx1 : Int → Int → Int → Bool → Bool → HP) : Ok Pr (slices_pdqsortOrdered_int_11_M Q E nx1) slices_pdqsortOrdered_int_p17 (slices_pdqsortOrdered_int_q7 Q E nx1) E := fun τ H h =>
  (conv (by kernel_rfl) (vc_seq (K := (slices_pdqsortOrdered_int_9_M Q E nx1)) (slices_pdqsortOrdered_int_12ok Q E nx1 τ H h) (slices_pdqsortOrdered_int_10ok Q E nx1)))

theorem slices_pdqsortOrdered_int_14ok (nx1 : Int → Int → Int → Bool → Bool → HP) : Ok Pr (slices_pdqsortOrdered_int_11_M Q E nx1) (sB slices_pdqsortOrdered_int_p10) (slices_pdqsortOrdered_int_q4 Q E nx1) E := fun τ H h =>
  (conv (by kernel_rfl) (vc_seq (K := (slices_pdqsortOrdered_int_5_M Q E nx1)) (slices_pdqsortOrdered_int_13ok Q E nx1 τ H h) (slices_pdqsortOrdered_int_8ok Q E nx1)))

noncomputable def slices_pdqsortOrdered_int_q9 (nx1 : Int → Int → Int → Bool → Bool → HP) : XT := (xthen (slices_pdqsortOrdered_int_11_M Q E nx1) (slices_pdqsortOrdered_int_q4 Q E nx1))

def slices_pdqsortOrdered_int_15 (nx1 : Int → Int → Int → Bool → Bool → HP) (Q : QT) (E : ET) (x0 : OA) (l0 c0 : Nat) (x1 x2 x3 : Int) (x8 x9 : Bool) (x10 x11 x12 : Int) (H : Heap) : Prop :=
 sel (x12 == 2)
 (Does Pr 37 #[(.slice x0 l0 c0), (.int .i64 x1), (.int .i64 x2)] H (fun v55 H56 =>
 slices_pdqsortOrdered_int_11 nx1 Q E x0 l0 c0 x1 x2 x3 x8 x9 x10 (IntKind.wrap .i64 ((IntKind.wrap .i64 (x2 - 1)) - (IntKind.wrap .i64 (x11 - x1)))) 1 H56) E)
 (slices_pdqsortOrdered_int_11 nx1 Q E x0 l0 c0 x1 x2 x3 x8 x9 x10 x11 x12 H)

def slices_pdqsortOrdered_int_15_M (nx1 : Int → Int → Int → Bool → Bool → HP) (τ : Tau) (H : Heap) : Prop := mSl (τ 0) fun x0 l0 c0 => mI .i64 (τ 1) fun x1 => mI .i64 (τ 2) fun x2 => mI .i64 (τ 3) fun x3 => mB (τ 8) fun x8 => mB (τ 9) fun x9 => mI .i64 (τ 10) fun x10 => mI .i64 (τ 11) fun x11 => mI .i64 (τ 12) fun x12 => slices_pdqsortOrdered_int_15 nx1 Q E x0 l0 c0 x1 x2 x3 x8 x9 x10 x11 x12 H

theorem slices_pdqsortOrdered_int_16ok (nx1 : Int → Int → Int → Bool → Bool → HP) : Ok Pr (slices_pdqsortOrdered_int_15_M Q E nx1) (sA slices_pdqsortOrdered_int_p10) (slices_pdqsortOrdered_int_q9 Q E nx1) E := fun τ H h =>
  wSl 0 h (fun x0 l0 c0 h => wI 1 h (fun x1 h => wI 2 h (fun x2 h => wI 3 h (fun x3 h => wB 8 h (fun x8 h => wB 9 h (fun x9 h => wI 10 h (fun x10 h => wI 11 h (fun x11 h => wI 12 h (fun x12 h => (conv (by kernel_rfl) h))))))))))

theorem slices_pdqsortOrdered_int_17ok (nx1 : Int → Int → Int → Bool → Bool → HP) : Ok Pr (slices_pdqsortOrdered_int_15_M Q E nx1) slices_pdqsortOrdered_int_p10 (slices_pdqsortOrdered_int_q4 Q E nx1) E := fun τ H h =>
  (conv (by kernel_rfl) (vc_seq (K := (slices_pdqsortOrdered_int_11_M Q E nx1)) (slices_pdqsortOrdered_int_16ok Q E nx1 τ H h) (slices_pdqsortOrdered_int_14ok Q E nx1)))

noncomputable def slices_pdqsortOrdered_int_q10 (nx1 : Int → Int → Int → Bool → Bool → HP) : XT := (xthen (slices_pdqsortOrdered_int_15_M Q E nx1) (slices_pdqsortOrdered_int_q4 Q E nx1))

def slices_pdqsortOrdered_int_18 (nx1 : Int → Int → Int → Bool → Bool → HP) (Q : QT) (E : ET) (x0 : OA) (l0 c0 : Nat) (x1 x2 x3 : Int) (x8 x9 : Bool) (x10 : Int) (H : Heap) : Prop :=
 Does Pr 36 #[(.slice x0 l0 c0), (.int .i64 x1), (.int .i64 x2)] H (fun v57 H58 =>
 ∃ n59 n60 : Int, v57 = (.tuple #[(.int .i64 n59), (.int .i64 n60)]) ∧ slices_pdqsortOrdered_int_15 nx1 Q E x0 l0 c0 x1 x2 x3 x8 x9 x10 n59 n60 H58) E

def slices_pdqsortOrdered_int_18_M (nx1 : Int → Int → Int → Bool → Bool → HP) (τ : Tau) (H : Heap) : Prop := mSl (τ 0) fun x0 l0 c0 => mI .i64 (τ 1) fun x1 => mI .i64 (τ 2) fun x2 => mI .i64 (τ 3) fun x3 => mB (τ 8) fun x8 => mB (τ 9) fun x9 => mI .i64 (τ 10) fun x10 => slices_pdqsortOrdered_int_18 nx1 Q E x0 l0 c0 x1 x2 x3 x8 x9 x10 H

theorem slices_pdqsortOrdered_int_19ok (nx1 : Int → Int → Int → Bool → Bool → HP) : Ok Pr (slices_pdqsortOrdered_int_18_M Q E nx1) (sA (sB slices_pdqsortOrdered_int_p8)) (slices_pdqsortOrdered_int_q10 Q E nx1) E := fun τ H h =>
  wSl 0 h (fun x0 l0 c0 h => wI 1 h (fun x1 h => wI 2 h (fun x2 h => wI 3 h (fun x3 h => wB 8 h (fun x8 h => wB 9 h (fun x9 h => wI 10 h (fun x10 h => (conv (by kernel_rfl) h))))))))

theorem slices_pdqsortOrdered_int_20ok (nx1 : Int → Int → Int → Bool → Bool → HP) : Ok Pr (slices_pdqsortOrdered_int_18_M Q E nx1) (sB slices_pdqsortOrdered_int_p8) (slices_pdqsortOrdered_int_q4 Q E nx1) E := fun τ H h =>
  (conv (by kernel_rfl) (vc_seq (K := (slices_pdqsortOrdered_int_15_M Q E nx1)) (slices_pdqsortOrdered_int_19ok Q E nx1 τ H h) (slices_pdqsortOrdered_int_17ok Q E nx1)))

noncomputable def slices_pdqsortOrdered_int_q11 (nx1 : Int → Int → Int → Bool → Bool → HP) : XT := (xthen (slices_pdqsortOrdered_int_18_M Q E nx1) (slices_pdqsortOrdered_int_q4 Q E nx1))

def slices_pdqsortOrdered_int_21 (nx1 : Int → Int → Int → Bool → Bool → HP) (Q : QT) (E : ET) (x0 : OA) (l0 c0 : Nat) (x1 x2 x3 : Int) (x8 x9 : Bool) (x10 : Int) (H : Heap) : Prop :=
 sel (!x8)
 (Does Pr 35 #[(.slice x0 l0 c0), (.int .i64 x1), (.int .i64 x2)] H (fun v61 H62 =>
 slices_pdqsortOrdered_int_18 nx1 Q E x0 l0 c0 x1 x2 (IntKind.wrap .i64 (x3 - 1)) x8 x9 x10 H62) E)
 (slices_pdqsortOrdered_int_18 nx1 Q E x0 l0 c0 x1 x2 x3 x8 x9 x10 H)

def slices_pdqsortOrdered_int_21_M (nx1 : Int → Int → Int → Bool → Bool → HP) (τ : Tau) (H : Heap) : Prop := mSl (τ 0) fun x0 l0 c0 => mI .i64 (τ 1) fun x1 => mI .i64 (τ 2) fun x2 => mI .i64 (τ 3) fun x3 => mB (τ 8) fun x8 => mB (τ 9) fun x9 => mI .i64 (τ 10) fun x10 => slices_pdqsortOrdered_int_21 nx1 Q E x0 l0 c0 x1 x2 x3 x8 x9 x10 H

theorem slices_pdqsortOrdered_int_22ok (nx1 : Int → Int → Int → Bool → Bool → HP) : Ok Pr (slices_pdqsortOrdered_int_21_M Q E nx1) (sA slices_pdqsortOrdered_int_p8) (slices_pdqsortOrdered_int_q11 Q E nx1) E := fun τ H h =>
  wSl 0 h (fun x0 l0 c0 h => wI 1 h (fun x1 h => wI 2 h (fun x2 h => wI 3 h (fun x3 h => wB 8 h (fun x8 h => wB 9 h (fun x9 h => wI 10 h (fun x10 h => (conv (by kernel_rfl) h))))))))

theorem slices_pdqsortOrdered_int_23ok (nx1 : Int → Int → Int → Bool → Bool → HP) : Ok Pr (slices_pdqsortOrdered_int_21_M Q E nx1) slices_pdqsortOrdered_int_p8 (slices_pdqsortOrdered_int_q4 Q E nx1) E := fun τ H h =>
  (conv (by kernel_rfl) (vc_seq (K := (slices_pdqsortOrdered_int_18_M Q E nx1)) (slices_pdqsortOrdered_int_22ok Q E nx1 τ H h) (slices_pdqsortOrdered_int_20ok Q E nx1)))

noncomputable def slices_pdqsortOrdered_int_q12 (nx1 : Int → Int → Int → Bool → Bool → HP) : XT := (xthen (slices_pdqsortOrdered_int_21_M Q E nx1) (slices_pdqsortOrdered_int_q4 Q E nx1))

def slices_pdqsortOrdered_int_24 (nx1 : Int → Int → Int → Bool → Bool → HP) (Q : QT) (E : ET) (x0 : OA) (l0 c0 : Nat) (x1 x2 x3 : Int) (x8 x9 : Bool) (x10 : Int) (H : Heap) : Prop :=
 sel (x3 == 0)
 (Does Pr 34 #[(.slice x0 l0 c0), (.int .i64 x1), (.int .i64 x2)] H (fun v63 H64 =>
 Q (.tuple #[]) H64) E)
 (slices_pdqsortOrdered_int_21 nx1 Q E x0 l0 c0 x1 x2 x3 x8 x9 x10 H)

def slices_pdqsortOrdered_int_24_M (nx1 : Int → Int → Int → Bool → Bool → HP) (τ : Tau) (H : Heap) : Prop := mSl (τ 0) fun x0 l0 c0 => mI .i64 (τ 1) fun x1 => mI .i64 (τ 2) fun x2 => mI .i64 (τ 3) fun x3 => mB (τ 8) fun x8 => mB (τ 9) fun x9 => mI .i64 (τ 10) fun x10 => slices_pdqsortOrdered_int_24 nx1 Q E x0 l0 c0 x1 x2 x3 x8 x9 x10 H

theorem slices_pdqsortOrdered_int_25ok (nx1 : Int → Int → Int → Bool → Bool → HP) : Ok Pr (slices_pdqsortOrdered_int_24_M Q E nx1) (sA (sB slices_pdqsortOrdered_int_p6)) (slices_pdqsortOrdered_int_q12 Q E nx1) E := fun τ H h =>
  wSl 0 h (fun x0 l0 c0 h => wI 1 h (fun x1 h => wI 2 h (fun x2 h => wI 3 h (fun x3 h => wB 8 h (fun x8 h => wB 9 h (fun x9 h => wI 10 h (fun x10 h => (conv (by kernel_rfl) h))))))))

theorem slices_pdqsortOrdered_int_26ok (nx1 : Int → Int → Int → Bool → Bool → HP) : Ok Pr (slices_pdqsortOrdered_int_24_M Q E nx1) (sB slices_pdqsortOrdered_int_p6) (slices_pdqsortOrdered_int_q4 Q E nx1) E := fun τ H h =>
  (conv (by kernel_rfl) (vc_seq (K := (slices_pdqsortOrdered_int_21_M Q E nx1)) (slices_pdqsortOrdered_int_25ok Q E nx1 τ H h) (slices_pdqsortOrdered_int_23ok Q E nx1)))

noncomputable def slices_pdqsortOrdered_int_q13 (nx1 : Int → Int → Int → Bool → Bool → HP) : XT := (xthen (slices_pdqsortOrdered_int_24_M Q E nx1) (slices_pdqsortOrdered_int_q4 Q E nx1))

def slices_pdqsortOrdered_int_27 (nx1 : Int → Int → Int → Bool → Bool → HP) (Q : QT) (E : ET) (x0 : OA) (l0 c0 : Nat) (x1 x2 x3 : Int) (x8 x9 : Bool) (x10 : Int) (H : Heap) : Prop :=
 sel (decide (x10 ≤ 12))
 (Does Pr 33 #[(.slice x0 l0 c0), (.int .i64 x1), (.int .i64 x2)] H (fun v65 H66 =>
 Q (.tuple #[]) H66) E)
 (slices_pdqsortOrdered_int_24 nx1 Q E x0 l0 c0 x1 x2 x3 x8 x9 x10 H)

def slices_pdqsortOrdered_int_27_M (nx1 : Int → Int → Int → Bool → Bool → HP) (τ : Tau) (H : Heap) : Prop := mSl (τ 0) fun x0 l0 c0 => mI .i64 (τ 1) fun x1 => mI .i64 (τ 2) fun x2 => mI .i64 (τ 3) fun x3 => mB (τ 8) fun x8 => mB (τ 9) fun x9 => mI .i64 (τ 10) fun x10 => slices_pdqsortOrdered_int_27 nx1 Q E x0 l0 c0 x1 x2 x3 x8 x9 x10 H

theorem slices_pdqsortOrdered_int_28ok (nx1 : Int → Int → Int → Bool → Bool → HP) : Ok Pr (slices_pdqsortOrdered_int_27_M Q E nx1) (sA slices_pdqsortOrdered_int_p6) (slices_pdqsortOrdered_int_q13 Q E nx1) E := fun τ H h =>
  wSl 0 h (fun x0 l0 c0 h => wI 1 h (fun x1 h => wI 2 h (fun x2 h => wI 3 h (fun x3 h => wB 8 h (fun x8 h => wB 9 h (fun x9 h => wI 10 h (fun x10 h => (conv (by kernel_rfl) h))))))))

theorem slices_pdqsortOrdered_int_29ok (nx1 : Int → Int → Int → Bool → Bool → HP) : Ok Pr (slices_pdqsortOrdered_int_27_M Q E nx1) slices_pdqsortOrdered_int_p6 (slices_pdqsortOrdered_int_q4 Q E nx1) E := fun τ H h =>
  (conv (by kernel_rfl) (vc_seq (K := (slices_pdqsortOrdered_int_24_M Q E nx1)) (slices_pdqsortOrdered_int_28ok Q E nx1 τ H h) (slices_pdqsortOrdered_int_26ok Q E nx1)))

noncomputable def slices_pdqsortOrdered_int_q14 (nx1 : Int → Int → Int → Bool → Bool → HP) : XT := (xthen (slices_pdqsortOrdered_int_27_M Q E nx1) (slices_pdqsortOrdered_int_q4 Q E nx1))

def slices_pdqsortOrdered_int_30 (nx1 : Int → Int → Int → Bool → Bool → HP) (Q : QT) (E : ET) (x0 : OA) (l0 c0 : Nat) (x1 x2 x3 : Int) (x8 x9 : Bool) (H : Heap) : Prop :=
 slices_pdqsortOrdered_int_27 nx1 Q E x0 l0 c0 x1 x2 x3 x8 x9 (IntKind.wrap .i64 (x2 - x1)) H

def slices_pdqsortOrdered_int_30_M (nx1 : Int → Int → Int → Bool → Bool → HP) (τ : Tau) (H : Heap) : Prop := mSl (τ 0) fun x0 l0 c0 => mI .i64 (τ 1) fun x1 => mI .i64 (τ 2) fun x2 => mI .i64 (τ 3) fun x3 => mB (τ 8) fun x8 => mB (τ 9) fun x9 => slices_pdqsortOrdered_int_30 nx1 Q E x0 l0 c0 x1 x2 x3 x8 x9 H

theorem slices_pdqsortOrdered_int_31ok (nx1 : Int → Int → Int → Bool → Bool → HP) : Ok Pr (slices_pdqsortOrdered_int_30_M Q E nx1) (sA (sI (sI slices_pdqsortOrdered_int_p3))) (slices_pdqsortOrdered_int_q14 Q E nx1) E := fun τ H h =>
  wSl 0 h (fun x0 l0 c0 h => wI 1 h (fun x1 h => wI 2 h (fun x2 h => wI 3 h (fun x3 h => wB 8 h (fun x8 h => wB 9 h (fun x9 h => (conv (by kernel_rfl) h)))))))

theorem slices_pdqsortOrdered_int_32ok (nx1 : Int → Int → Int → Bool → Bool → HP) : Ok Pr (slices_pdqsortOrdered_int_30_M Q E nx1) (sI (sI slices_pdqsortOrdered_int_p3)) (slices_pdqsortOrdered_int_q4 Q E nx1) E := fun τ H h =>
  (conv (by kernel_rfl) (vc_seq (K := (slices_pdqsortOrdered_int_27_M Q E nx1)) (slices_pdqsortOrdered_int_31ok Q E nx1 τ H h) (slices_pdqsortOrdered_int_29ok Q E nx1)))

theorem slices_pdqsortOrdered_int_33ok (nx1 : Int → Int → Int → Bool → Bool → HP) : Ok Pr (slices_pdqsortOrdered_int_30_M Q E nx1) (sI slices_pdqsortOrdered_int_p3) (slices_pdqsortOrdered_int_q3 Q E nx1) E := fun τ H h =>
  (conv (by kernel_rfl) (slices_pdqsortOrdered_int_32ok Q E nx1 τ H h))

def slices_pdqsortOrdered_int_34 (Q : QT) (E : ET) (x0 : OA) (l0 c0 : Nat) (x1 x2 x3 : Int) (x8 x9 : Bool) (H : Heap) : Prop :=
 ∃ (I : Int → Int → Int → Bool → Bool → HP) (μ : Int → Int → Int → Bool → Bool → Heap → Nat), I x1 x2 x3 x8 x9 H ∧ ∀ (x1 x2 x3 : Int) (x8 x9 : Bool) (H : Heap), I x1 x2 x3 x8 x9 H →
 slices_pdqsortOrdered_int_30 (fun x1' x2' x3' x8' x9' H1 => I x1' x2' x3' x8' x9' H1 ∧ μ x1' x2' x3' x8' x9' H1 < μ x1 x2 x3 x8 x9 H) Q E x0 l0 c0 x1 x2 x3 x8 x9 H

def slices_pdqsortOrdered_int_34_M  (τ : Tau) (H : Heap) : Prop := mSl (τ 0) fun x0 l0 c0 => mI .i64 (τ 1) fun x1 => mI .i64 (τ 2) fun x2 => mI .i64 (τ 3) fun x3 => mB (τ 8) fun x8 => mB (τ 9) fun x9 => slices_pdqsortOrdered_int_34 Q E x0 l0 c0 x1 x2 x3 x8 x9 H

theorem slices_pdqsortOrdered_int_35ok  : Ok Pr (slices_pdqsortOrdered_int_34_M Q E) slices_pdqsortOrdered_int_p3 (xblock 0 (slices_pdqsortOrdered_int_q1 Q E)) E := fun τ H h =>
  wSl 0 h (fun x0 l0 c0 h => wI 1 h (fun x1 h => wI 2 h (fun x2 h => wI 3 h (fun x3 h => wB 8 h (fun x8 h => wB 9 h (fun x9 h => match h with | ⟨I, μ, h0, hr⟩ => (conv (by kernel_rfl) (vc_loopG (c := sI slices_pdqsortOrdered_int_p3) (τ := (Tau.upd (Tau.upd (Tau.upd (Tau.upd (Tau.upd (Tau.upd τ 0 (.slice x0 l0 c0)) 1 (.int .i64 x1)) 2 (.int .i64 x2)) 3 (.int .i64 x3)) 8 (.bool x8)) 9 (.bool x9))) [0] (fun τ H => mI .i64 (τ 1) fun x1' => mI .i64 (τ 2) fun x2' => mI .i64 (τ 3) fun x3' => mB (τ 8) fun x8' => mB (τ 9) fun x9' => I x1' x2' x3' x8' x9' H) (fun τ H => μ (gI (τ 1)) (gI (τ 2)) (gI (τ 3)) (gB (τ 8)) (gB (τ 9)) H) (by kernel_rfl) h0 (fun τ1 H1 hf hI => uF 0 (.slice x0 l0 c0) (hf 0 (by simp)) (uI 1 hI (fun x1r h => uI 2 h (fun x2r h => uI 3 h (fun x3r h => uB 8 h (fun x8r h => uB 9 h (fun x9r h => lgx (slices_pdqsortOrdered_int_33ok Q E (fun x1' x2' x3' x8' x9' H2 => I x1' x2' x3' x8' x9' H2 ∧ μ x1' x2' x3' x8' x9' H2 < μ x1r x2r x3r x8r x9r H1) (Tau.upd (Tau.upd (Tau.upd (Tau.upd (Tau.upd (Tau.upd τ1 0 (.slice x0 l0 c0)) 1 (.int .i64 x1r)) 2 (.int .i64 x2r)) 3 (.int .i64 x3r)) 8 (.bool x8r)) 9 (.bool x9r)) H1 (conv (by kernel_rfl) (hr x1r x2r x3r x8r x9r H1 h))) (fun τ2 H2 hk => kI 1 hk (fun x1' h => kI 2 h (fun x2' h => kI 3 h (fun x3' h => kB 8 h (fun x8' h => kB 9 h (fun x9' h => conv (by kernel_rfl) h)))))))))))))))))))))

theorem slices_pdqsortOrdered_int_36ok  : Ok Pr (slices_pdqsortOrdered_int_34_M Q E) (sB (sB (bodyOf Try.f31))) (slices_pdqsortOrdered_int_q1 Q E) E := fun τ H h =>
  (conv (by kernel_rfl) (slices_pdqsortOrdered_int_35ok Q E τ H h))

noncomputable def slices_pdqsortOrdered_int_q15  : XT := (xthen (slices_pdqsortOrdered_int_34_M Q E) (slices_pdqsortOrdered_int_q1 Q E))

def slices_pdqsortOrdered_int_37 (Q : QT) (E : ET) (x0 : OA) (l0 c0 : Nat) (x1 x2 x3 : Int) (x8 : Bool) (H : Heap) : Prop :=
 slices_pdqsortOrdered_int_34 Q E x0 l0 c0 x1 x2 x3 x8 true H

def slices_pdqsortOrdered_int_37_M  (τ : Tau) (H : Heap) : Prop := mSl (τ 0) fun x0 l0 c0 => mI .i64 (τ 1) fun x1 => mI .i64 (τ 2) fun x2 => mI .i64 (τ 3) fun x3 => mB (τ 8) fun x8 => slices_pdqsortOrdered_int_37 Q E x0 l0 c0 x1 x2 x3 x8 H

theorem slices_pdqsortOrdered_int_38ok  : Ok Pr (slices_pdqsortOrdered_int_37_M Q E) (sA (sB (bodyOf Try.f31))) (slices_pdqsortOrdered_int_q15 Q E) E := fun τ H h =>
  wSl 0 h (fun x0 l0 c0 h => wI 1 h (fun x1 h => wI 2 h (fun x2 h => wI 3 h (fun x3 h => wB 8 h (fun x8 h => (conv (by kernel_rfl) h))))))

theorem slices_pdqsortOrdered_int_39ok  : Ok Pr (slices_pdqsortOrdered_int_37_M Q E) (sB (bodyOf Try.f31)) (slices_pdqsortOrdered_int_q1 Q E) E := fun τ H h =>
  (conv (by kernel_rfl) (vc_seq (K := (slices_pdqsortOrdered_int_34_M Q E)) (slices_pdqsortOrdered_int_38ok Q E τ H h) (slices_pdqsortOrdered_int_36ok Q E)))

def slices_pdqsortOrdered_int (Q : QT) (E : ET) (a0 : OA) (a0l : Nat) (a0c : Nat) (a1 : Int) (a2 : Int) (a3 : Int) (H : Heap) : Prop :=
 slices_pdqsortOrdered_int_37 Q E a0 a0l a0c a1 a2 a3 true H

theorem slices_pdqsortOrdered_int_fn (a0 : OA) (a0l : Nat) (a0c : Nat) (a1 : Int) (a2 : Int) (a3 : Int) (Q : QT) (E : ET) (H : Heap) (h : slices_pdqsortOrdered_int Q E a0 a0l a0c a1 a2 a3 H)   : Does Pr 31 #[(.slice a0 a0l a0c), (.int .i64 a1), (.int .i64 a2), (.int .i64 a3)] H Q E :=
  Fn_of_vc (fn := Try.f31) (c := (bodyOf Try.f31)) (args := [(.slice a0 a0l a0c), (.int .i64 a1), (.int .i64 a2), (.int .i64 a3)]) mixed (by kernel_rfl) (by kernel_rfl) (by kernel_rfl) (by kernel_rfl) (by kernel_rfl) ((conv (B := vc Pr (bodyOf Try.f31) (argT [(.slice a0 a0l a0c), (.int .i64 a1), (.int .i64 a2), (.int .i64 a3)]) (slices_pdqsortOrdered_int_q1 Q E) E H) (by kernel_rfl) (vc_seq (K := (slices_pdqsortOrdered_int_37_M Q E)) (conv (B := vc Pr (sA (bodyOf Try.f31)) (argT [(.slice a0 a0l a0c), (.int .i64 a1), (.int .i64 a2), (.int .i64 a3)]) (xthen (slices_pdqsortOrdered_int_37_M Q E) (slices_pdqsortOrdered_int_q1 Q E)) E H) (by kernel_rfl) h) (slices_pdqsortOrdered_int_39ok Q E))))

/-! slices.insertionSortOrdered[int] -/
noncomputable def slices_insertionSortOrdered_int_q1 (Q : QT) (E : ET)  : XT := (retQ Pr (Try.f33).results.toList Q)

noncomputable def slices_insertionSortOrdered_int_q3 (nx1 : Int → HP) : XT := (xthen (fun τ H => mI .i64 (τ 6) fun x6' => nx1 x6' H) (xblock 0 (slices_insertionSortOrdered_int_q1 Q E)))

noncomputable def slices_insertionSortOrdered_int_p3 : Code := sI (sI (sB (bodyOf Try.f33)))

def slices_insertionSortOrdered_int_1 (nx1 : Int → HP) (Q : QT) (E : ET) (x0 : OA) (l0 c0 : Nat) (x1 x2 x6 : Int) (H : Heap) : Prop :=
 nx1 (IntKind.wrap .i64 (x6 + 1)) H

def slices_insertionSortOrdered_int_1_M (nx1 : Int → HP) (τ : Tau) (H : Heap) : Prop := mSl (τ 0) fun x0 l0 c0 => mI .i64 (τ 1) fun x1 => mI .i64 (τ 2) fun x2 => mI .i64 (τ 6) fun x6 => slices_insertionSortOrdered_int_1 nx1 Q E x0 l0 c0 x1 x2 x6 H

theorem slices_insertionSortOrdered_int_2ok (nx1 : Int → HP) : Ok Pr (slices_insertionSortOrdered_int_1_M Q E nx1) (sB (sB slices_insertionSortOrdered_int_p3)) (slices_insertionSortOrdered_int_q3 Q E nx1) E := fun τ H h =>
  wSl 0 h (fun x0 l0 c0 h => wI 1 h (fun x1 h => wI 2 h (fun x2 h => wI 6 h (fun x6 h => (conv (by kernel_rfl) h)))))

noncomputable def slices_insertionSortOrdered_int_q4 (nx1 : Int → HP) : XT := (xthen (slices_insertionSortOrdered_int_1_M Q E nx1) (slices_insertionSortOrdered_int_q3 Q E nx1))

noncomputable def slices_insertionSortOrdered_int_p9 : Code := sI (sB (sI (sA (sB slices_insertionSortOrdered_int_p3))))

noncomputable def slices_insertionSortOrdered_int_q7 (nx1 : Int → HP) (nx17 : Int → HP) : XT := (xthen (fun τ H => mI .i64 (τ 7) fun x7' => nx17 x7' H) (xblock 2 (xblock 1 (slices_insertionSortOrdered_int_q4 Q E nx1))))

def slices_insertionSortOrdered_int_3 (nx1 : Int → HP) (nx17 : Int → HP) (Q : QT) (E : ET) (x0 : OA) (l0 c0 : Nat) (x1 x2 x6 x7 : Int) (H : Heap) : Prop :=
 (0 ≤ ((IntKind.wrap .i64 (x7 - 1)) : Int) ∧ ((IntKind.wrap .i64 (x7 - 1)) : Int) < (l0 : Int)) ∧ ptr x0 fun q25 =>
 ldI .i64 (Addr.add q25 (((IntKind.wrap .i64 (x7 - 1)) : Int).toNat * 1)) H fun n26 =>
 (0 ≤ x7 ∧ x7 < (l0 : Int)) ∧ ptr x0 fun q27 =>
 ldI .i64 (Addr.add q27 (x7.toNat * 1)) H fun n28 =>
 (0 ≤ x7 ∧ x7 < (l0 : Int)) ∧ ptr x0 fun q29 =>
 wr (Addr.add q29 (x7.toNat * 1)) [(.int .i64 n26)] H fun H30 =>
 (0 ≤ ((IntKind.wrap .i64 (x7 - 1)) : Int) ∧ ((IntKind.wrap .i64 (x7 - 1)) : Int) < (l0 : Int)) ∧ ptr x0 fun q31 =>
 wr (Addr.add q31 (((IntKind.wrap .i64 (x7 - 1)) : Int).toNat * 1)) [(.int .i64 n28)] H30 fun H32 =>
 nx17 (IntKind.wrap .i64 (x7 - 1)) H32

def slices_insertionSortOrdered_int_3_M (nx1 : Int → HP) (nx17 : Int → HP) (τ : Tau) (H : Heap) : Prop := mSl (τ 0) fun x0 l0 c0 => mI .i64 (τ 1) fun x1 => mI .i64 (τ 2) fun x2 => mI .i64 (τ 6) fun x6 => mI .i64 (τ 7) fun x7 => slices_insertionSortOrdered_int_3 nx1 nx17 Q E x0 l0 c0 x1 x2 x6 x7 H

theorem slices_insertionSortOrdered_int_4ok (nx1 : Int → HP) (nx17 : Int → HP) : Ok Pr (slices_insertionSortOrdered_int_3_M Q E nx1 nx17) (sB (sI slices_insertionSortOrdered_int_p9)) (slices_insertionSortOrdered_int_q7 Q E nx1 nx17) E := fun τ H h =>
  wSl 0 h (fun x0 l0 c0 h => wI 1 h (fun x1 h => wI 2 h (fun x2 h => wI 6 h (fun x6 h => wI 7 h (fun x7 h => (conv (by kernel_rfl) h))))))

noncomputable def slices_insertionSortOrdered_int_q8 (nx1 : Int → HP) (nx17 : Int → HP) : XT := (xthen (slices_insertionSortOrdered_int_3_M Q E nx1 nx17) (slices_insertionSortOrdered_int_q7 Q E nx1 nx17))

def slices_insertionSortOrdered_int_5 (nx1 : Int → HP) (nx17 : Int → HP) (Q : QT) (E : ET) (x0 : OA) (l0 c0 : Nat) (x1 x2 x6 x7 : Int) (x30 : Bool) (H : Heap) : Prop :=
 sel x30
 (slices_insertionSortOrdered_int_3 nx1 nx17 Q E x0 l0 c0 x1 x2 x6 x7 H)
 (slices_insertionSortOrdered_int_1 nx1 Q E x0 l0 c0 x1 x2 x6 H)

def slices_insertionSortOrdered_int_5_M (nx1 : Int → HP) (nx17 : Int → HP) (τ : Tau) (H : Heap) : Prop := mSl (τ 0) fun x0 l0 c0 => mI .i64 (τ 1) fun x1 => mI .i64 (τ 2) fun x2 => mI .i64 (τ 6) fun x6 => mI .i64 (τ 7) fun x7 => mB (τ 30) fun x30 => slices_insertionSortOrdered_int_5 nx1 nx17 Q E x0 l0 c0 x1 x2 x6 x7 x30 H

theorem slices_insertionSortOrdered_int_6ok (nx1 : Int → HP) (nx17 : Int → HP) : Ok Pr (slices_insertionSortOrdered_int_5_M Q E nx1 nx17) (sB (sA (sI slices_insertionSortOrdered_int_p9))) (slices_insertionSortOrdered_int_q8 Q E nx1 nx17) E := fun τ H h =>
  wSl 0 h (fun x0 l0 c0 h => wI 1 h (fun x1 h => wI 2 h (fun x2 h => wI 6 h (fun x6 h => wI 7 h (fun x7 h => wB 30 h (fun x30 h => (conv (by kernel_rfl) h)))))))

noncomputable def slices_insertionSortOrdered_int_q9 (nx1 : Int → HP) (nx17 : Int → HP) : XT := (xthen (slices_insertionSortOrdered_int_5_M Q E nx1 nx17) (slices_insertionSortOrdered_int_q8 Q E nx1 nx17))

def slices_insertionSortOrdered_int_7 (nx1 : Int → HP) (nx17 : Int → HP) (Q : QT) (E : ET) (x0 : OA) (l0 c0 : Nat) (x1 x2 x6 x7 : Int) (H : Heap) : Prop :=
 sel (decide (x7 > x1))
 ((0 ≤ x7 ∧ x7 < (l0 : Int)) ∧ ptr x0 fun q40 =>
 ldI .i64 (Addr.add q40 (x7.toNat * 1)) H fun n41 =>
 (0 ≤ ((IntKind.wrap .i64 (x7 - 1)) : Int) ∧ ((IntKind.wrap .i64 (x7 - 1)) : Int) < (l0 : Int)) ∧ ptr x0 fun q42 =>
 ldI .i64 (Addr.add q42 (((IntKind.wrap .i64 (x7 - 1)) : Int).toNat * 1)) H fun n43 =>
 Does Pr 39 #[(.int .i64 n41), (.int .i64 n43)] H (fun v44 H45 =>
 ∃ b46 : Bool, v44 = (.bool b46) ∧ slices_insertionSortOrdered_int_5 nx1 nx17 Q E x0 l0 c0 x1 x2 x6 x7 b46 H45) (fun _ _ => False))
 (slices_insertionSortOrdered_int_5 nx1 nx17 Q E x0 l0 c0 x1 x2 x6 x7 false H)

def slices_insertionSortOrdered_int_7_M (nx1 : Int → HP) (nx17 : Int → HP) (τ : Tau) (H : Heap) : Prop := mSl (τ 0) fun x0 l0 c0 => mI .i64 (τ 1) fun x1 => mI .i64 (τ 2) fun x2 => mI .i64 (τ 6) fun x6 => mI .i64 (τ 7) fun x7 => slices_insertionSortOrdered_int_7 nx1 nx17 Q E x0 l0 c0 x1 x2 x6 x7 H

theorem slices_insertionSortOrdered_int_8ok (nx1 : Int → HP) (nx17 : Int → HP) : Ok Pr (slices_insertionSortOrdered_int_7_M Q E nx1 nx17) (sA (sA (sI slices_insertionSortOrdered_int_p9))) (slices_insertionSortOrdered_int_q9 Q E nx1 nx17) E := fun τ H h =>
  wSl 0 h (fun x0 l0 c0 h => wI 1 h (fun x1 h => wI 2 h (fun x2 h => wI 6 h (fun x6 h => wI 7 h (fun x7 h => (conv (by kernel_rfl) h))))))

theorem slices_insertionSortOrdered_int_9ok (nx1 : Int → HP) (nx17 : Int → HP) : Ok Pr (slices_insertionSortOrdered_int_7_M Q E nx1 nx17) (sA (sI slices_insertionSortOrdered_int_p9)) (slices_insertionSortOrdered_int_q8 Q E nx1 nx17) E := fun τ H h =>
  (conv (by kernel_rfl) (vc_seq (K := (slices_insertionSortOrdered_int_5_M Q E nx1 nx17)) (slices_insertionSortOrdered_int_8ok Q E nx1 nx17 τ H h) (slices_insertionSortOrdered_int_6ok Q E nx1 nx17)))

theorem slices_insertionSortOrdered_int_10ok (nx1 : Int → HP) (nx17 : Int → HP) : Ok Pr (slices_insertionSortOrdered_int_7_M Q E nx1 nx17) (sI slices_insertionSortOrdered_int_p9) (slices_insertionSortOrdered_int_q7 Q E nx1 nx17) E := fun τ H h =>
  (conv (by kernel_rfl) (vc_seq (K := (slices_insertionSortOrdered_int_3_M Q E nx1 nx17)) (slices_insertionSortOrdered_int_9ok Q E nx1 nx17 τ H h) (slices_insertionSortOrdered_int_4ok Q E nx1 nx17)))

def slices_insertionSortOrdered_int_11 (nx1 : Int → HP) (Q : QT) (E : ET) (x0 : OA) (l0 c0 : Nat) (x1 x2 x6 x7 : Int) (H : Heap) : Prop :=
 ∃ (I : Int → HP) (μ : Int → Heap → Nat), I x7 H ∧ ∀ (x7 : Int) (H : Heap), I x7 H →
 slices_insertionSortOrdered_int_7 nx1 (fun x7' H1 => I x7' H1 ∧ μ x7' H1 < μ x7 H) Q E x0 l0 c0 x1 x2 x6 x7 H

def slices_insertionSortOrdered_int_11_M (nx1 : Int → HP) (τ : Tau) (H : Heap) : Prop := mSl (τ 0) fun x0 l0 c0 => mI .i64 (τ 1) fun x1 => mI .i64 (τ 2) fun x2 => mI .i64 (τ 6) fun x6 => mI .i64 (τ 7) fun x7 => slices_insertionSortOrdered_int_11 nx1 Q E x0 l0 c0 x1 x2 x6 x7 H

theorem slices_insertionSortOrdered_int_12ok (nx1 : Int → HP) : Ok Pr (slices_insertionSortOrdered_int_11_M Q E nx1) slices_insertionSortOrdered_int_p9 (xblock 2 (xblock 1 (slices_insertionSortOrdered_int_q4 Q E nx1))) E := fun τ H h =>
  wSl 0 h (fun x0 l0 c0 h => wI 1 h (fun x1 h => wI 2 h (fun x2 h => wI 6 h (fun x6 h => wI 7 h (fun x7 h => match h with | ⟨I, μ, h0, hr⟩ => (conv (by kernel_rfl) (vc_loopG (c := sI slices_insertionSortOrdered_int_p9) (τ := (Tau.upd (Tau.upd (Tau.upd (Tau.upd (Tau.upd τ 0 (.slice x0 l0 c0)) 1 (.int .i64 x1)) 2 (.int .i64 x2)) 6 (.int .i64 x6)) 7 (.int .i64 x7))) [0, 1, 2, 6] (fun τ H => mI .i64 (τ 7) fun x7' => I x7' H) (fun τ H => μ (gI (τ 7)) H) (by kernel_rfl) h0 (fun τ1 H1 hf hI => uF 0 (.slice x0 l0 c0) (hf 0 (by simp)) (uF 1 (.int .i64 x1) (hf 1 (by simp)) (uF 2 (.int .i64 x2) (hf 2 (by simp)) (uF 6 (.int .i64 x6) (hf 6 (by simp)) (uI 7 hI (fun x7r h => lgx (slices_insertionSortOrdered_int_10ok Q E nx1 (fun x7' H2 => I x7' H2 ∧ μ x7' H2 < μ x7r H1) (Tau.upd (Tau.upd (Tau.upd (Tau.upd (Tau.upd τ1 0 (.slice x0 l0 c0)) 1 (.int .i64 x1)) 2 (.int .i64 x2)) 6 (.int .i64 x6)) 7 (.int .i64 x7r)) H1 (conv (by kernel_rfl) (hr x7r H1 h))) (fun τ2 H2 hk => kI 7 hk (fun x7' h => conv (by kernel_rfl) h)))))))))))))))

theorem slices_insertionSortOrdered_int_13ok (nx1 : Int → HP) : Ok Pr (slices_insertionSortOrdered_int_11_M Q E nx1) (sB (sI (sA (sB slices_insertionSortOrdered_int_p3)))) (xblock 1 (slices_insertionSortOrdered_int_q4 Q E nx1)) E := fun τ H h =>
  (conv (by kernel_rfl) (slices_insertionSortOrdered_int_12ok Q E nx1 τ H h))

noncomputable def slices_insertionSortOrdered_int_q10 (nx1 : Int → HP) : XT := (xthen (slices_insertionSortOrdered_int_11_M Q E nx1) (xblock 1 (slices_insertionSortOrdered_int_q4 Q E nx1)))

def slices_insertionSortOrdered_int_14 (nx1 : Int → HP) (Q : QT) (E : ET) (x0 : OA) (l0 c0 : Nat) (x1 x2 x6 : Int) (H : Heap) : Prop :=
 slices_insertionSortOrdered_int_11 nx1 Q E x0 l0 c0 x1 x2 x6 x6 H

def slices_insertionSortOrdered_int_14_M (nx1 : Int → HP) (τ : Tau) (H : Heap) : Prop := mSl (τ 0) fun x0 l0 c0 => mI .i64 (τ 1) fun x1 => mI .i64 (τ 2) fun x2 => mI .i64 (τ 6) fun x6 => slices_insertionSortOrdered_int_14 nx1 Q E x0 l0 c0 x1 x2 x6 H

theorem slices_insertionSortOrdered_int_15ok (nx1 : Int → HP) : Ok Pr (slices_insertionSortOrdered_int_14_M Q E nx1) (sA (sI (sA (sB slices_insertionSortOrdered_int_p3)))) (slices_insertionSortOrdered_int_q10 Q E nx1) E := fun τ H h =>
  wSl 0 h (fun x0 l0 c0 h => wI 1 h (fun x1 h => wI 2 h (fun x2 h => wI 6 h (fun x6 h => (conv (by kernel_rfl) h)))))

theorem slices_insertionSortOrdered_int_16ok (nx1 : Int → HP) : Ok Pr (slices_insertionSortOrdered_int_14_M Q E nx1) (sI (sA (sB slices_insertionSortOrdered_int_p3))) (xblock 1 (slices_insertionSortOrdered_int_q4 Q E nx1)) E := fun τ H h =>
  (conv (by kernel_rfl) (vc_seq (K := (slices_insertionSortOrdered_int_11_M Q E nx1)) (slices_insertionSortOrdered_int_15ok Q E nx1 τ H h) (slices_insertionSortOrdered_int_13ok Q E nx1)))

theorem slices_insertionSortOrdered_int_17ok (nx1 : Int → HP) : Ok Pr (slices_insertionSortOrdered_int_14_M Q E nx1) (sA (sB slices_insertionSortOrdered_int_p3)) (slices_insertionSortOrdered_int_q4 Q E nx1) E := fun τ H h =>
  (conv (by kernel_rfl) (slices_insertionSortOrdered_int_16ok Q E nx1 τ H h))

theorem slices_insertionSortOrdered_int_18ok (nx1 : Int → HP) : Ok Pr (slices_insertionSortOrdered_int_14_M Q E nx1) (sB slices_insertionSortOrdered_int_p3) (slices_insertionSortOrdered_int_q3 Q E nx1) E := fun τ H h =>
  (conv (by kernel_rfl) (vc_seq (K := (slices_insertionSortOrdered_int_1_M Q E nx1)) (slices_insertionSortOrdered_int_17ok Q E nx1 τ H h) (slices_insertionSortOrdered_int_2ok Q E nx1)))

noncomputable def slices_insertionSortOrdered_int_q11 (nx1 : Int → HP) : XT := (xthen (slices_insertionSortOrdered_int_14_M Q E nx1) (slices_insertionSortOrdered_int_q3 Q E nx1))

def slices_insertionSortOrdered_int_19 (nx1 : Int → HP) (Q : QT) (E : ET) (x0 : OA) (l0 c0 : Nat) (x1 x2 x6 : Int) (H : Heap) : Prop :=
 sel (decide (x6 < x2))
 (slices_insertionSortOrdered_int_14 nx1 Q E x0 l0 c0 x1 x2 x6 H)
 (Q (.tuple #[]) H)

def slices_insertionSortOrdered_int_19_M (nx1 : Int → HP) (τ : Tau) (H : Heap) : Prop := mSl (τ 0) fun x0 l0 c0 => mI .i64 (τ 1) fun x1 => mI .i64 (τ 2) fun x2 => mI .i64 (τ 6) fun x6 => slices_insertionSortOrdered_int_19 nx1 Q E x0 l0 c0 x1 x2 x6 H

theorem slices_insertionSortOrdered_int_20ok (nx1 : Int → HP) : Ok Pr (slices_insertionSortOrdered_int_19_M Q E nx1) (sA slices_insertionSortOrdered_int_p3) (slices_insertionSortOrdered_int_q11 Q E nx1) E := fun τ H h =>
  wSl 0 h (fun x0 l0 c0 h => wI 1 h (fun x1 h => wI 2 h (fun x2 h => wI 6 h (fun x6 h => (conv (by kernel_rfl) h)))))

theorem slices_insertionSortOrdered_int_21ok (nx1 : Int → HP) : Ok Pr (slices_insertionSortOrdered_int_19_M Q E nx1) slices_insertionSortOrdered_int_p3 (slices_insertionSortOrdered_int_q3 Q E nx1) E := fun τ H h =>
  (conv (by kernel_rfl) (vc_seq (K := (slices_insertionSortOrdered_int_14_M Q E nx1)) (slices_insertionSortOrdered_int_20ok Q E nx1 τ H h) (slices_insertionSortOrdered_int_18ok Q E nx1)))

def slices_insertionSortOrdered_int_22 (Q : QT) (E : ET) (x0 : OA) (l0 c0 : Nat) (x1 x2 x6 : Int) (H : Heap) : Prop :=
 ∃ (I : Int → HP) (μ : Int → Heap → Nat), I x6 H ∧ ∀ (x6 : Int) (H : Heap), I x6 H →
 slices_insertionSortOrdered_int_19 (fun x6' H1 => I x6' H1 ∧ μ x6' H1 < μ x6 H) Q E x0 l0 c0 x1 x2 x6 H

def slices_insertionSortOrdered_int_22_M  (τ : Tau) (H : Heap) : Prop := mSl (τ 0) fun x0 l0 c0 => mI .i64 (τ 1) fun x1 => mI .i64 (τ 2) fun x2 => mI .i64 (τ 6) fun x6 => slices_insertionSortOrdered_int_22 Q E x0 l0 c0 x1 x2 x6 H

theorem slices_insertionSortOrdered_int_23ok  : Ok Pr (slices_insertionSortOrdered_int_22_M Q E) (sI (sB (bodyOf Try.f33))) (xblock 0 (slices_insertionSortOrdered_int_q1 Q E)) E := fun τ H h =>
  wSl 0 h (fun x0 l0 c0 h => wI 1 h (fun x1 h => wI 2 h (fun x2 h => wI 6 h (fun x6 h => match h with | ⟨I, μ, h0, hr⟩ => (conv (by kernel_rfl) (vc_loopG (c := sI (sI (sB (bodyOf Try.f33)))) (τ := (Tau.upd (Tau.upd (Tau.upd (Tau.upd τ 0 (.slice x0 l0 c0)) 1 (.int .i64 x1)) 2 (.int .i64 x2)) 6 (.int .i64 x6))) [0, 1, 2] (fun τ H => mI .i64 (τ 6) fun x6' => I x6' H) (fun τ H => μ (gI (τ 6)) H) (by kernel_rfl) h0 (fun τ1 H1 hf hI => uF 0 (.slice x0 l0 c0) (hf 0 (by simp)) (uF 1 (.int .i64 x1) (hf 1 (by simp)) (uF 2 (.int .i64 x2) (hf 2 (by simp)) (uI 6 hI (fun x6r h => lgx (slices_insertionSortOrdered_int_21ok Q E (fun x6' H2 => I x6' H2 ∧ μ x6' H2 < μ x6r H1) (Tau.upd (Tau.upd (Tau.upd (Tau.upd τ1 0 (.slice x0 l0 c0)) 1 (.int .i64 x1)) 2 (.int .i64 x2)) 6 (.int .i64 x6r)) H1 (conv (by kernel_rfl) (hr x6r H1 h))) (fun τ2 H2 hk => kI 6 hk (fun x6' h => conv (by kernel_rfl) h)))))))))))))

theorem slices_insertionSortOrdered_int_24ok  : Ok Pr (slices_insertionSortOrdered_int_22_M Q E) (sB (bodyOf Try.f33)) (slices_insertionSortOrdered_int_q1 Q E) E := fun τ H h =>
  (conv (by kernel_rfl) (slices_insertionSortOrdered_int_23ok Q E τ H h))

def slices_insertionSortOrdered_int (Q : QT) (E : ET) (a0 : OA) (a0l : Nat) (a0c : Nat) (a1 : Int) (a2 : Int) (H : Heap) : Prop :=
 slices_insertionSortOrdered_int_22 Q E a0 a0l a0c a1 a2 (IntKind.wrap .i64 (a1 + 1)) H

theorem slices_insertionSortOrdered_int_fn (a0 : OA) (a0l : Nat) (a0c : Nat) (a1 : Int) (a2 : Int) (Q : QT) (E : ET) (H : Heap) (h : slices_insertionSortOrdered_int Q E a0 a0l a0c a1 a2 H)   : Does Pr 33 #[(.slice a0 a0l a0c), (.int .i64 a1), (.int .i64 a2)] H Q E :=
  Fn_of_vc (fn := Try.f33) (c := (bodyOf Try.f33)) (args := [(.slice a0 a0l a0c), (.int .i64 a1), (.int .i64 a2)]) mixed (by kernel_rfl) (by kernel_rfl) (by kernel_rfl) (by kernel_rfl) (by kernel_rfl) ((conv (B := vc Pr (bodyOf Try.f33) (argT [(.slice a0 a0l a0c), (.int .i64 a1), (.int .i64 a2)]) (slices_insertionSortOrdered_int_q1 Q E) E H) (by kernel_rfl) (vc_seq (K := (slices_insertionSortOrdered_int_22_M Q E)) (conv (B := vc Pr (sA (bodyOf Try.f33)) (argT [(.slice a0 a0l a0c), (.int .i64 a1), (.int .i64 a2)]) (xthen (slices_insertionSortOrdered_int_22_M Q E) (slices_insertionSortOrdered_int_q1 Q E)) E H) (by kernel_rfl) h) (slices_insertionSortOrdered_int_24ok Q E))))

end Go.Proofs.Ytombjgnlpdnclaa
