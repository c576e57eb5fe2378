import Derived.Test.YtombjgnlpdnclaaVPr
/- Printed by gen.py: the Go functions of package r07 over a heap view, and that the model does so. -/
namespace Go.Proofs.Ytombjgnlpdnclaa
open Go.V
set_option linter.unusedVariables false
set_option maxRecDepth 100000
variable (Q : QT) (E : ET)
/-! jobmux/jobmuxref07.Has -/
noncomputable def r07_Has_q1 (Q : QT) (E : ET)  : XT := (retQ Pr (Try.f11).results.toList Q)

def r07_Has_1 (Q : QT) (E : ET)  (H : Heap) : Prop :=
 Q (.bool false) H

def r07_Has_1_M  (τ : Tau) (H : Heap) : Prop := r07_Has_1 Q E  H

theorem r07_Has_2ok  : Ok Pr (r07_Has_1_M Q E) (sB (sB (bodyOf Try.f11))) (r07_Has_q1 Q E) E := fun τ H h =>
  (conv (by kernel_rfl) h)

noncomputable def r07_Has_q2  : XT := (xthen (r07_Has_1_M Q E) (r07_Has_q1 Q E))

noncomputable def r07_Has_p3 : Code := sA (sB (bodyOf Try.f11))

noncomputable def r07_Has_q4 (nx3 : Int → HP) : XT := (xthen (fun τ H => mI .i64 (τ 5) fun x5' => nx3 x5' H) (xblock 0 (r07_Has_q2 Q E)))

noncomputable def r07_Has_p6 : Code := sI (sI (sB r07_Has_p3))

def r07_Has_3 (nx3 : Int → HP) (Q : QT) (E : ET) (x0 : OA) (l0 c0 : Nat) (x1 x5 : Int) (H : Heap) : Prop :=
 nx3 (IntKind.wrap .i64 (x5 + 1)) H

def r07_Has_3_M (nx3 : Int → HP) (τ : Tau) (H : Heap) : Prop := mSl (τ 0) fun x0 l0 c0 => mI .i64 (τ 1) fun x1 => mI .i64 (τ 5) fun x5 => r07_Has_3 nx3 Q E x0 l0 c0 x1 x5 H

theorem r07_Has_4ok (nx3 : Int → HP) : Ok Pr (r07_Has_3_M Q E nx3) (sB (sB r07_Has_p6)) (r07_Has_q4 Q E nx3) E := fun τ H h =>
  wSl 0 h (fun x0 l0 c0 h => wI 1 h (fun x1 h => wI 5 h (fun x5 h => (conv (by kernel_rfl) h))))

noncomputable def r07_Has_q5 (nx3 : Int → HP) : XT := (xthen (r07_Has_3_M Q E nx3) (r07_Has_q4 Q E nx3))

def r07_Has_5 (nx3 : Int → HP) (Q : QT) (E : ET) (x0 : OA) (l0 c0 : Nat) (x1 x5 : Int) (H : Heap) : Prop :=
 (0 ≤ x5 ∧ x5 < (l0 : Int)) ∧ ptr x0 fun q6 =>
 ldI .i64 (Addr.add q6 (x5.toNat * 1)) H fun n7 =>
 sel (n7 == x1)
 (Q (.bool true) H)
 (r07_Has_3 nx3 Q E x0 l0 c0 x1 x5 H)

def r07_Has_5_M (nx3 : Int → HP) (τ : Tau) (H : Heap) : Prop := mSl (τ 0) fun x0 l0 c0 => mI .i64 (τ 1) fun x1 => mI .i64 (τ 5) fun x5 => r07_Has_5 nx3 Q E x0 l0 c0 x1 x5 H

theorem r07_Has_6ok (nx3 : Int → HP) : Ok Pr (r07_Has_5_M Q E nx3) (sA (sB r07_Has_p6)) (r07_Has_q5 Q E nx3) E := fun τ H h =>
  wSl 0 h (fun x0 l0 c0 h => wI 1 h (fun x1 h => wI 5 h (fun x5 h => (conv (by kernel_rfl) h))))

theorem r07_Has_7ok (nx3 : Int → HP) : Ok Pr (r07_Has_5_M Q E nx3) (sB r07_Has_p6) (r07_Has_q4 Q E nx3) E := fun τ H h =>
  (conv (by kernel_rfl) (vc_seq (K := (r07_Has_3_M Q E nx3)) (r07_Has_6ok Q E nx3 τ H h) (r07_Has_4ok Q E nx3)))

noncomputable def r07_Has_q6 (nx3 : Int → HP) : XT := (xthen (r07_Has_5_M Q E nx3) (r07_Has_q4 Q E nx3))

def r07_Has_8 (nx3 : Int → HP) (Q : QT) (E : ET) (x0 : OA) (l0 c0 : Nat) (x1 x5 : Int) (H : Heap) : Prop :=
 sel (decide (x5 < (l0 : Int)))
 (r07_Has_5 nx3 Q E x0 l0 c0 x1 x5 H)
 (r07_Has_1 Q E  H)

def r07_Has_8_M (nx3 : Int → HP) (τ : Tau) (H : Heap) : Prop := mSl (τ 0) fun x0 l0 c0 => mI .i64 (τ 1) fun x1 => mI .i64 (τ 5) fun x5 => r07_Has_8 nx3 Q E x0 l0 c0 x1 x5 H

theorem r07_Has_9ok (nx3 : Int → HP) : Ok Pr (r07_Has_8_M Q E nx3) (sA r07_Has_p6) (r07_Has_q6 Q E nx3) E := fun τ H h =>
  wSl 0 h (fun x0 l0 c0 h => wI 1 h (fun x1 h => wI 5 h (fun x5 h => (conv (by kernel_rfl) h))))

theorem r07_Has_10ok (nx3 : Int → HP) : Ok Pr (r07_Has_8_M Q E nx3) r07_Has_p6 (r07_Has_q4 Q E nx3) E := fun τ H h =>
  (conv (by kernel_rfl) (vc_seq (K := (r07_Has_5_M Q E nx3)) (r07_Has_9ok Q E nx3 τ H h) (r07_Has_7ok Q E nx3)))

def r07_Has_11 (Q : QT) (E : ET) (x0 : OA) (l0 c0 : Nat) (x1 x5 : Int) (H : Heap) : Prop :=
 ∃ (I : Int → HP) (μ : Int → Heap → Nat), I x5 H ∧ ∀ (x5 : Int) (H : Heap), I x5 H →
 r07_Has_8 (fun x5' H1 => I x5' H1 ∧ μ x5' H1 < μ x5 H) Q E x0 l0 c0 x1 x5 H

def r07_Has_11_M  (τ : Tau) (H : Heap) : Prop := mSl (τ 0) fun x0 l0 c0 => mI .i64 (τ 1) fun x1 => mI .i64 (τ 5) fun x5 => r07_Has_11 Q E x0 l0 c0 x1 x5 H

theorem r07_Has_12ok  : Ok Pr (r07_Has_11_M Q E) (sI (sB r07_Has_p3)) (xblock 0 (r07_Has_q2 Q E)) E := fun τ H h =>
  wSl 0 h (fun x0 l0 c0 h => wI 1 h (fun x1 h => wI 5 h (fun x5 h => match h with | ⟨I, μ, h0, hr⟩ => (conv (by kernel_rfl) (vc_loopG (c := sI (sI (sB r07_Has_p3))) (τ := (Tau.upd (Tau.upd (Tau.upd τ 0 (.slice x0 l0 c0)) 1 (.int .i64 x1)) 5 (.int .i64 x5))) [0, 1] (fun τ H => mI .i64 (τ 5) fun x5' => I x5' H) (fun τ H => μ (gI (τ 5)) H) (by kernel_rfl) h0 (fun τ1 H1 hf hI => uF 0 (.slice x0 l0 c0) (hf 0 (by simp)) (uF 1 (.int .i64 x1) (hf 1 (by simp)) (uI 5 hI (fun x5r h => lgx (r07_Has_10ok Q E (fun x5' H2 => I x5' H2 ∧ μ x5' H2 < μ x5r H1) (Tau.upd (Tau.upd (Tau.upd τ1 0 (.slice x0 l0 c0)) 1 (.int .i64 x1)) 5 (.int .i64 x5r)) H1 (conv (by kernel_rfl) (hr x5r H1 h))) (fun τ2 H2 hk => kI 5 hk (fun x5' h => conv (by kernel_rfl) h)))))))))))

theorem r07_Has_13ok  : Ok Pr (r07_Has_11_M Q E) (sB r07_Has_p3) (r07_Has_q2 Q E) E := fun τ H h =>
  (conv (by kernel_rfl) (r07_Has_12ok Q E τ H h))

noncomputable def r07_Has_q7  : XT := (xthen (r07_Has_11_M Q E) (r07_Has_q2 Q E))

def r07_Has_14 (Q : QT) (E : ET) (x0 : OA) (l0 c0 : Nat) (x1 : Int) (H : Heap) : Prop :=
 r07_Has_11 Q E x0 l0 c0 x1 0 H

def r07_Has_14_M  (τ : Tau) (H : Heap) : Prop := mSl (τ 0) fun x0 l0 c0 => mI .i64 (τ 1) fun x1 => r07_Has_14 Q E x0 l0 c0 x1 H

theorem r07_Has_15ok  : Ok Pr (r07_Has_14_M Q E) (sA r07_Has_p3) (r07_Has_q7 Q E) E := fun τ H h =>
  wSl 0 h (fun x0 l0 c0 h => wI 1 h (fun x1 h => (conv (by kernel_rfl) h)))

theorem r07_Has_16ok  : Ok Pr (r07_Has_14_M Q E) r07_Has_p3 (r07_Has_q2 Q E) E := fun τ H h =>
  (conv (by kernel_rfl) (vc_seq (K := (r07_Has_11_M Q E)) (r07_Has_15ok Q E τ H h) (r07_Has_13ok Q E)))

theorem r07_Has_17ok  : Ok Pr (r07_Has_14_M Q E) (sB (bodyOf Try.f11)) (r07_Has_q1 Q E) E := fun τ H h =>
  (conv (by kernel_rfl) (vc_seq (K := (r07_Has_1_M Q E)) (r07_Has_16ok Q E τ H h) (r07_Has_2ok Q E)))

def r07_Has (Q : QT) (E : ET) (a0 : OA) (a0l : Nat) (a0c : Nat) (a1 : Int) (H : Heap) : Prop :=
 r07_Has_14 Q E a0 a0l a0c a1 H

theorem r07_Has_fn (a0 : OA) (a0l : Nat) (a0c : Nat) (a1 : Int) (Q : QT) (E : ET) (H : Heap) (h : r07_Has Q E a0 a0l a0c a1 H)   : Does Pr 11 #[(.slice a0 a0l a0c), (.int .i64 a1)] H Q E :=
  Fn_of_vc (fn := Try.f11) (c := (bodyOf Try.f11)) (args := [(.slice a0 a0l a0c), (.int .i64 a1)]) mixed (by kernel_rfl) (by kernel_rfl) (by kernel_rfl) (by kernel_rfl) (by kernel_rfl) ((conv (B := vc Pr (bodyOf Try.f11) (argT [(.slice a0 a0l a0c), (.int .i64 a1)]) (r07_Has_q1 Q E) E H) (by kernel_rfl) (vc_seq (K := (r07_Has_14_M Q E)) (conv (B := vc Pr (sA (bodyOf Try.f11)) (argT [(.slice a0 a0l a0c), (.int .i64 a1)]) (xthen (r07_Has_14_M Q E) (r07_Has_q1 Q E)) E H) (by kernel_rfl) h) (r07_Has_17ok Q E))))

end Go.Proofs.Ytombjgnlpdnclaa
